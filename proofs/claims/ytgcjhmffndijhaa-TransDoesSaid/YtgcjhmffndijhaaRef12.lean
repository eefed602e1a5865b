/- The document's Open and Rekey of layer 10; a cipher as the document has it. -/
import Derived.Test.YtgcjhmffndijhaaRef11
namespace Go.Proofs.Ytgcjhmffndijhaa
open Go.RowKit

def OfPost (c : Ci) (w : World) (e : Ending) (w' : World) : Prop := e = .returned c.val ∧ Below w.heap.size w w'
set_option maxHeartbeats 800000 in
theorem of_calls (c : Ci) (w : World) : Calls Try.prog 19 #[c.val] w (OfPost c w) := by
  unfold Ci.val
  go_enter Try.func19, Try.ntmps19
  go_wp2_with fail
  have hfin := (two_new w (.cells #[.int .i64 c.key, .bool c.has, .int .u64 c.n] 31) (.cells #[.int .i64 c.key, .bool c.has, .int .u64 c.n] 56))
  refine bodyPost_ret (v := c.val) (by simp [results, Try.results19, go_sem, Ci.val, cell_of_heap hfin.2]) rfl ⟨rfl, below2 w _ _⟩
theorem open_cases (y : Nd) (n key ad : Int) : (y.kind != 7) = true ∨ ((y.kind != 7) = false ∧ (y.n != n) = true) ∨ ((y.kind != 7) = false ∧ (y.n != n) = false ∧ (y.a != key) = true) ∨ ((y.kind != 7) = false ∧ (y.n != n) = false ∧ (y.a != key) = false ∧ (y.b != ad) = true) ∨ ((y.kind != 7) = false ∧ (y.n != n) = false ∧ (y.a != key) = false ∧ (y.b != ad) = false) := by
  cases h1 : (y.kind != 7) <;> cases h2 : (y.n != n) <;> cases h3 : (y.a != key) <;> cases h4 : (y.b != ad) <;> simp
set_option maxHeartbeats 3200000 in
set_option maxRecDepth 100000 in
theorem rOpen_calls {A : Ar} {g cap : Nat} {c : Ci} {w : World} (hr : RefAt w g cap A.l) (hm : A.l.length ≤ A.limit ∧ A.limit ≤ 65536) (hn0 : 0 ≤ c.n) (hn1 : c.n ≤ 18446744073709551615) (ad x : Int) :
    Calls Try.prog 21 #[refV A g cap, c.val, .int .i64 ad, .int .i64 x] w (ROpenPost (openC A.l c ad x) w) := by
  have Hr := Lib.hid hr
  obtain ⟨key, hc, n⟩ := c
  dsimp only at hn0 hn1
  have Hm := Lib.hid (show openC A.l ⟨key, hc, n⟩ ad x = if mayC A.l ⟨key, hc, n⟩ [ad, x] ≠ 0 then (Ci.zero, 0, mayC A.l ⟨key, hc, n⟩ [ad, x]) else if hc = false then (⟨key, hc, n⟩, x, 0) else if getNd A.l x = ⟨7, n, key, ad, (getNd A.l x).c⟩ then (⟨key, hc, n + 1⟩, (getNd A.l x).c, 0) else (Ci.zero, 0, 7) from rfl)
  have Hz := Lib.hid (mayC_zero (l := A.l) (c := ⟨key, hc, n⟩) (x := ad) (y := x))
  have hb0 := below3 w (.cells #[.int .i64 A.limit, .slice (some ⟨g, 0, none⟩) A.l.length cap] 46) (.cells #[.int .i64 key, .bool hc, .int .u64 n] 56) (.cells #[.int .i64 0, .bool false, .int .u64 0] 56)
  have hn3 := new3 w (.cells #[.int .i64 A.limit, .slice (some ⟨g, 0, none⟩) A.l.length cap] 46) (.cells #[.int .i64 key, .bool hc, .int .u64 n] 56) (.cells #[.int .i64 0, .bool false, .int .u64 0] 56)
  have Hmay := Lib.hid (fun v => rMay_calls A g cap ⟨key, hc, n⟩ ad x v)
  clear hr
  simp only [refV, Ci.val] at Hmay ⊢
  go_enter Try.func21, Try.ntmps21
  go_wp2_with fail
  refine (Hmay.out _).mono ?_
  rintro e w1 ⟨rfl, hb1⟩
  have hbw := below_call hb0 hb1
  have H1 : Hid (RBox w1 w.heap.size A g cap ∧ RCiAt w1 (w.heap.size + 1) ⟨key, hc, n⟩ ∧ w1.heap[w.heap.size + 2]? = some (.cells #[.int .i64 0, .bool false, .int .u64 0] 56 (0, 0))) := Lib.hid ⟨(hb1.block _ (by simp only [heap_size_alloc]; omega)).trans hn3.1, (hb1.block _ (by simp only [heap_size_alloc]; omega)).trans hn3.2.1, (hb1.block _ (by simp only [heap_size_alloc]; omega)).trans hn3.2.2⟩
  obtain ⟨bx, cx, zc⟩ := H1.out
  obtain ⟨b0, b1⟩ := RBox.cells bx
  obtain ⟨c0, c1, c2⟩ := RCiAt.cells cx
  dsimp only at c0 c1 c2
  have y0 := cell_of_heap (o := 0) zc
  have y1 := cell_of_heap (o := 1) zc
  have y2 := cell_of_heap (o := 2) zc
  have yf := fun o => frozen_of_heap (o := o) zc
  simp only [List.getElem?_toArray, List.getElem?_cons_zero, List.getElem?_cons_succ] at y0 y1 y2
  have lb := lt_of_heap bx
  have lc := lt_of_heap cx
  have ly := lt_of_heap zc
  clear bx cx zc
  clear hb0 hn3 hb1 Hmay
  generalize hmay : mayC A.l ⟨key, hc, n⟩ [ad, x] = e0 at *
  by_cases he0 : e0 = 0
  · subst he0
    cases hc with
    | false =>
      have Hf := Lib.hid (show openC A.l ⟨key, false, n⟩ ad x = (⟨key, false, n⟩, x, 0) by rw [Hm.out]; simp)
      clear hmay
      go_wp2_with fail
      have hfin0 := fin_set3 H1.out.2.2 (.int .i64 key) (.bool false) (.int .u64 (n))
      have hbe0 := ((hbw.setCell (p := ⟨w.heap.size + 2, 0, none⟩) (show w.heap.size ≤ w.heap.size + 2 by omega) (.int .i64 key)).setCell (p := ⟨w.heap.size + 2, 1, none⟩) (show w.heap.size ≤ w.heap.size + 2 by omega) (.bool false)).setCell (p := ⟨w.heap.size + 2, 2, none⟩) (show w.heap.size ≤ w.heap.size + 2 by omega) (.int .u64 (n))
      have hfin := hfin0
      have hbe := hbe0
      refine bodyPost_ret (v := .tuple #[Ci.val ⟨key, false, n⟩, .int .i64 x, .int .i64 0]) (by simp [results, Try.results21, go_sem, Ci.val, cell_of_heap hfin]) rfl ⟨by first | (rw [Hf.out]; done) | (rw [Hf.out]; rfl), ?_⟩
      first | exact hbe | exact hbe.drew | exact hbe.drew.drew
    | true =>
      have hx := Hz.out rfl
      clear hmay
      obtain ⟨k, rfl⟩ : ∃ k : Nat, x = k := ⟨x.toNat, by have := has_iff.1 hx.2.1; omega⟩
      have hg := getElem?_of_has hx.2.1
      have hgn := getNd_of_has hx.2.1
      have hlt : k < A.l.length := by have := has_iff.1 hx.2.1; omega
      have ik : (k : Int) < A.l.length := by omega
      rw [Int.toNat_natCast] at hg
      rw [hgn] at Hm
      generalize nd A.l (k : Int) = y at *
      obtain ⟨q0, q1, q2, q3, q4⟩ := (Hr.out.below hbw).node hg
      have lg := ((Hr.out.below hbw).lt g rfl).2
      have Hx := Lib.hid hx
      clear hx hg hgn
      have hcs := open_cases y n key ad
      rcases hcs with h1 | ⟨h1, h2⟩ | ⟨h1, h2, h3⟩ | ⟨h1, h2, h3, h4⟩ | ⟨h1, h2, h3, h4⟩
      case inr.inr.inr.inr =>
        have hnn : n ≠ 18446744073709551615 := (Hx.out.2.2 rfl).2
        have hwr : IntKind.u64.wrap (n + 1) = n + 1 := by rw [IntKind.wrap_u64]; omega
        have Hf := Lib.hid (show openC A.l ⟨key, true, n⟩ ad (k : Int) = (⟨key, true, n + 1⟩, y.c, 0) by
          have hy : y = ⟨7, n, key, ad, y.c⟩ := by
            obtain ⟨a1, a2, a3, a4, a5⟩ := y
            simp only [bne_eq_false_iff_eq] at h1 h2 h3 h4
            subst h1 h2 h3 h4; rfl
          rw [Hm.out, if_pos hy]; simp)
        clear hnn
        go_wp2_with fail
        go_region
        all_goals go_wp2_with fail
        all_goals
          have hfin0 := fin_set3 H1.out.2.2 (.int .i64 key) (.bool true) (.int .u64 (n + 1))
          have hbe0 := ((hbw.setCell (p := ⟨w.heap.size + 2, 0, none⟩) (show w.heap.size ≤ w.heap.size + 2 by omega) (.int .i64 key)).setCell (p := ⟨w.heap.size + 2, 1, none⟩) (show w.heap.size ≤ w.heap.size + 2 by omega) (.bool true)).setCell (p := ⟨w.heap.size + 2, 2, none⟩) (show w.heap.size ≤ w.heap.size + 2 by omega) (.int .u64 (n + 1))
          have hfin := old_at (o := (.cells #[.int .i64 y.kind, .int .u64 y.n, .int .i64 y.a, .int .i64 y.b, .int .i64 y.c] 79)) hfin0
          have hbe := hbe0.alloc hbe0.size (.cells #[.int .i64 y.kind, .int .u64 y.n, .int .i64 y.a, .int .i64 y.b, .int .i64 y.c] 79)
          refine bodyPost_ret (v := .tuple #[Ci.val ⟨key, true, n + 1⟩, .int .i64 y.c, .int .i64 0]) (by simp [results, Try.results21, go_sem, Ci.val, cell_of_heap hfin]) rfl ⟨by first | (rw [Hf.out]; done) | (rw [Hf.out]; rfl), ?_⟩
          first | exact hbe | exact hbe.drew | exact hbe.drew.drew
      all_goals
        have Hf := Lib.hid (show openC A.l ⟨key, true, n⟩ ad (k : Int) = (⟨0, false, 0⟩, 0, 7) by
          have hy : ¬ y = ⟨7, n, key, ad, y.c⟩ := by
            intro e
            have e1 : y.kind = 7 := congrArg Nd.kind e
            have e2 : y.n = n := congrArg Nd.n e
            have e3 : y.a = key := congrArg Nd.a e
            have e4 : y.b = ad := congrArg Nd.b e
            clear e
            first | (rw [e1] at h1; simp at h1; done) | (rw [e2] at h2; simp at h2; done) | (rw [e3] at h3; simp at h3; done) | (rw [e4] at h4; simp at h4; done)
          rw [Hm.out, if_neg hy]; simp [Ci.zero])
        go_wp2_with fail
        have hfin0 := fin_set3 H1.out.2.2 (.int .i64 0) (.bool false) (.int .u64 (0))
        have hbe0 := ((hbw.setCell (p := ⟨w.heap.size + 2, 0, none⟩) (show w.heap.size ≤ w.heap.size + 2 by omega) (.int .i64 0)).setCell (p := ⟨w.heap.size + 2, 1, none⟩) (show w.heap.size ≤ w.heap.size + 2 by omega) (.bool false)).setCell (p := ⟨w.heap.size + 2, 2, none⟩) (show w.heap.size ≤ w.heap.size + 2 by omega) (.int .u64 (0))
        have hfin := old_at (o := (.cells #[.int .i64 y.kind, .int .u64 y.n, .int .i64 y.a, .int .i64 y.b, .int .i64 y.c] 79)) hfin0
        have hbe := hbe0.alloc hbe0.size (.cells #[.int .i64 y.kind, .int .u64 y.n, .int .i64 y.a, .int .i64 y.b, .int .i64 y.c] 79)
        refine bodyPost_ret (v := .tuple #[Ci.val ⟨0, false, 0⟩, .int .i64 0, .int .i64 7]) (by simp [results, Try.results21, go_sem, Ci.val, cell_of_heap hfin]) rfl ⟨by first | (rw [Hf.out]; done) | (rw [Hf.out]; rfl), ?_⟩
        first | exact hbe | exact hbe.drew | exact hbe.drew.drew
  · have hd : (e0 != 0) = true := by simpa using he0
    have hd2 : (e0 == 0) = false := by simpa using he0
    have Hf := Lib.hid (show openC A.l ⟨key, hc, n⟩ ad x = (⟨0, false, 0⟩, 0, e0) by rw [Hm.out]; simp [he0, Ci.zero])
    clear he0
    go_wp2_with fail
    have hfin0 := fin_set3 H1.out.2.2 (.int .i64 0) (.bool false) (.int .u64 (0))
    have hbe0 := ((hbw.setCell (p := ⟨w.heap.size + 2, 0, none⟩) (show w.heap.size ≤ w.heap.size + 2 by omega) (.int .i64 0)).setCell (p := ⟨w.heap.size + 2, 1, none⟩) (show w.heap.size ≤ w.heap.size + 2 by omega) (.bool false)).setCell (p := ⟨w.heap.size + 2, 2, none⟩) (show w.heap.size ≤ w.heap.size + 2 by omega) (.int .u64 (0))
    have hfin := hfin0
    have hbe := hbe0
    refine bodyPost_ret (v := .tuple #[Ci.val ⟨0, false, 0⟩, .int .i64 0, .int .i64 e0]) (by simp [results, Try.results21, go_sem, Ci.val, cell_of_heap hfin]) rfl ⟨by first | (rw [Hf.out]; done) | (rw [Hf.out]; rfl), ?_⟩
    first | exact hbe | exact hbe.drew | exact hbe.drew.drew
set_option maxHeartbeats 3200000 in
set_option maxRecDepth 100000 in
theorem rRekey_calls {A : Ar} {g cap : Nat} {c : Ci} {w : World} (hr : RefAt w g cap A.l) (hwf : Wf A.l) (hm : A.l.length ≤ A.limit ∧ A.limit ≤ 65536) :
    Calls Try.prog 22 #[refV A g cap, c.val] w (RRekeyPost A g (rekeyC A c) w) := by
  have Hr := Lib.hid hr
  obtain ⟨key, hc, n⟩ := c
  have Hm := Lib.hid (show rekeyC A ⟨key, hc, n⟩ = if hc = false then (A, Ci.zero, 10) else if (mk A ⟨6, 4, key, 0, 0⟩).2.2 ≠ 0 then ((mk A ⟨6, 4, key, 0, 0⟩).1, Ci.zero, (mk A ⟨6, 4, key, 0, 0⟩).2.2) else ((mk A ⟨6, 4, key, 0, 0⟩).1, ⟨(mk A ⟨6, 4, key, 0, 0⟩).2.1, hc, n⟩, 0) from rfl)
  have hbw := below4 w (.cells #[.int .i64 A.limit, .slice (some ⟨g, 0, none⟩) A.l.length cap] 46) (.cells #[.int .i64 key, .bool hc, .int .u64 n] 56) (.cells #[.int .i64 0, .slice none 0 0] 46) (.cells #[.int .i64 0, .bool false, .int .u64 0] 56)
  have hn4 := new4 w (.cells #[.int .i64 A.limit, .slice (some ⟨g, 0, none⟩) A.l.length cap] 46) (.cells #[.int .i64 key, .bool hc, .int .u64 n] 56) (.cells #[.int .i64 0, .slice none 0 0] 46) (.cells #[.int .i64 0, .bool false, .int .u64 0] 56)
  have Hmk := Lib.hid (fun (v : World) (h : RefAt v g cap A.l) => rMk_calls (x := ⟨6, 4, key, 0, 0⟩) h hwf hm (show (0 : Int) ≤ 4 by decide) (show (4 : Int) ≤ 18446744073709551615 by decide))
  clear hr hwf hm
  simp only [refV, Ci.val]
  simp only [refV, Nd.val] at Hmk
  cases hc with
  | false =>
    have Hf := Lib.hid (show rekeyC A ⟨key, false, n⟩ = (A, ⟨0, false, 0⟩, 10) by rw [Hm.out]; simp [Ci.zero])
    have hb2 := below4 w (.cells #[.int .i64 A.limit, .slice (some ⟨g, 0, none⟩) A.l.length cap] 46) (.cells #[.int .i64 key, .bool false, .int .u64 n] 56) (.cells #[.int .i64 A.limit, .slice (some ⟨g, 0, none⟩) A.l.length cap] 46) (.cells #[.int .i64 0, .bool false, .int .u64 0] 56)
    have hf4 := new4 w (.cells #[.int .i64 A.limit, .slice (some ⟨g, 0, none⟩) A.l.length cap] 46) (.cells #[.int .i64 key, .bool false, .int .u64 n] 56) (.cells #[.int .i64 A.limit, .slice (some ⟨g, 0, none⟩) A.l.length cap] 46) (.cells #[.int .i64 0, .bool false, .int .u64 0] 56)
    go_enter Try.func22, Try.ntmps22
    go_wp2_with fail
    refine bodyPost_ret (v := .tuple #[refV A g cap, Ci.val ⟨0, false, 0⟩, .int .i64 10]) (by simp [results, Try.results22, go_sem, refV, Ci.val, cell_of_heap hf4.2.2.1, cell_of_heap hf4.2.2.2]) rfl ⟨g, cap, by first | (rw [Hf.out]; done) | (rw [Hf.out]; rfl), ?_, hb2, .inl rfl⟩
    rw [Hf.out]
    exact Hr.out.below hb2
  | true =>
    have H1 : Hid (RBox ((((w.alloc (.cells #[.int .i64 A.limit, .slice (some ⟨g, 0, none⟩) A.l.length cap] 46)).alloc (.cells #[.int .i64 key, .bool true, .int .u64 n] 56)).alloc (.cells #[.int .i64 0, .slice none 0 0] 46)).alloc (.cells #[.int .i64 0, .bool false, .int .u64 0] 56)) w.heap.size A g cap ∧ RCiAt ((((w.alloc (.cells #[.int .i64 A.limit, .slice (some ⟨g, 0, none⟩) A.l.length cap] 46)).alloc (.cells #[.int .i64 key, .bool true, .int .u64 n] 56)).alloc (.cells #[.int .i64 0, .slice none 0 0] 46)).alloc (.cells #[.int .i64 0, .bool false, .int .u64 0] 56)) (w.heap.size + 1) ⟨key, true, n⟩ ∧ ((((w.alloc (.cells #[.int .i64 A.limit, .slice (some ⟨g, 0, none⟩) A.l.length cap] 46)).alloc (.cells #[.int .i64 key, .bool true, .int .u64 n] 56)).alloc (.cells #[.int .i64 0, .slice none 0 0] 46)).alloc (.cells #[.int .i64 0, .bool false, .int .u64 0] 56)).heap[w.heap.size + 2]? = some (.cells #[.int .i64 0, .slice none 0 0] 46 (0, 0)) ∧ ((((w.alloc (.cells #[.int .i64 A.limit, .slice (some ⟨g, 0, none⟩) A.l.length cap] 46)).alloc (.cells #[.int .i64 key, .bool true, .int .u64 n] 56)).alloc (.cells #[.int .i64 0, .slice none 0 0] 46)).alloc (.cells #[.int .i64 0, .bool false, .int .u64 0] 56)).heap[w.heap.size + 3]? = some (.cells #[.int .i64 0, .bool false, .int .u64 0] 56 (0, 0))) := Lib.hid ⟨hn4.1, hn4.2.1, hn4.2.2.1, hn4.2.2.2⟩
    clear hn4
    go_enter Try.func22, Try.ntmps22
    go_wp2_with fail
    refine (Hmk.out _ (Hr.out.below hbw)).mono ?_
    rintro e w2 ⟨g2, cp2, rfl, hr2, hb2, hg2⟩
    have hbw2 := below_call hbw hb2
    have H2 : Hid (RBox w2 w.heap.size A g cap ∧ RCiAt w2 (w.heap.size + 1) ⟨key, true, n⟩ ∧ w2.heap[w.heap.size + 2]? = some (.cells #[.int .i64 0, .slice none 0 0] 46 (0, 0)) ∧ w2.heap[w.heap.size + 3]? = some (.cells #[.int .i64 0, .bool false, .int .u64 0] 56 (0, 0))) := Lib.hid ⟨H1.out.1.below hb2, H1.out.2.1.below hb2, (hb2.block _ (lt_of_heap H1.out.2.2.1)).trans H1.out.2.2.1, (hb2.block _ (lt_of_heap H1.out.2.2.2)).trans H1.out.2.2.2⟩
    obtain ⟨bx, cx, zx, zc⟩ := H2.out
    obtain ⟨b0, b1⟩ := RBox.cells bx
    obtain ⟨c0, c1, c2⟩ := RCiAt.cells cx
    dsimp only at c0 c1 c2
    have z0 := cell_of_heap (o := 0) zx
    have z1 := cell_of_heap (o := 1) zx
    have zf := fun o => frozen_of_heap (o := o) zx
    have y0 := cell_of_heap (o := 0) zc
    have y1 := cell_of_heap (o := 1) zc
    have y2 := cell_of_heap (o := 2) zc
    have yf := fun o => frozen_of_heap (o := o) zc
    simp only [List.getElem?_toArray, List.getElem?_cons_zero, List.getElem?_cons_succ] at z0 z1 y0 y1 y2
    have lb := lt_of_heap bx
    have lc := lt_of_heap cx
    have lz := lt_of_heap zx
    have ly := lt_of_heap zc
    clear bx cx zx zc
    have Hr2 := Lib.hid (And.intro hr2 hg2)
    have Hs1 := Lib.hid hbw.size
    clear hr2 hg2 hb2 H1
    have Hk := Lib.hid (mk_code A ⟨6, 4, key, 0, 0⟩)
    generalize mk A ⟨6, 4, key, 0, 0⟩ = M at *
    obtain ⟨A2, k, f⟩ := M
    dsimp only at Hk Hm Hr2 ⊢
    simp only [refV]
    by_cases hf : f = 0
    · subst hf
      have Hf := Lib.hid (show rekeyC A ⟨key, true, n⟩ = (A2, ⟨k, true, n⟩, 0) by rw [Hm.out]; simp)
      go_wp2_with fail
      go_region
      all_goals go_wp2_with fail
      all_goals
        have hne : g2 ≠ w.heap.size + 2 ∧ g2 ≠ w.heap.size + 3 := refne Hr2.out.1 H2.out.2.2.1 H2.out.2.2.2
        have hrf : RefAt ((((((w2.setCell ⟨w.heap.size + 2, 0, none⟩ (.int .i64 A2.limit)).setCell ⟨w.heap.size + 2, 1, none⟩ (.slice (some ⟨g2, 0, none⟩) A2.l.length cp2)).setCell ⟨w.heap.size + 3, 0, none⟩ (.int .i64 k)).setCell ⟨w.heap.size + 3, 1, none⟩ (.bool true)).setCell ⟨w.heap.size + 3, 2, none⟩ (.int .u64 (n))).alloc (.cells #[.int .i64 A2.limit, .slice (some ⟨g2, 0, none⟩) A2.l.length cp2] 46)) g2 cp2 A2.l := (RefAt.set5 Hr2.out.1 hne.1 hne.2).below ((Below.refl _ _).alloc (Nat.le_refl _) _)
        have hfin := fin_set H2.out.2.2.1 H2.out.2.2.2 (by omega) (.int .i64 A2.limit) (.slice (some ⟨g2, 0, none⟩) A2.l.length cp2) (.int .i64 k) (.bool true) (.int .u64 (n))
        have hf8 := old_at (o := (.cells #[.int .i64 A2.limit, .slice (some ⟨g2, 0, none⟩) A2.l.length cp2] 46)) hfin.1
        have hf9 := old_at (o := (.cells #[.int .i64 A2.limit, .slice (some ⟨g2, 0, none⟩) A2.l.length cp2] 46)) hfin.2
        have hbe0 := ((((hbw2.setCell (p := ⟨w.heap.size + 2, 0, none⟩) (show w.heap.size ≤ w.heap.size + 2 by omega) (.int .i64 A2.limit)).setCell (p := ⟨w.heap.size + 2, 1, none⟩) (show w.heap.size ≤ w.heap.size + 2 by omega) (.slice (some ⟨g2, 0, none⟩) A2.l.length cp2)).setCell (p := ⟨w.heap.size + 3, 0, none⟩) (show w.heap.size ≤ w.heap.size + 3 by omega) (.int .i64 k)).setCell (p := ⟨w.heap.size + 3, 1, none⟩) (show w.heap.size ≤ w.heap.size + 3 by omega) (.bool true)).setCell (p := ⟨w.heap.size + 3, 2, none⟩) (show w.heap.size ≤ w.heap.size + 3 by omega) (.int .u64 (n))
        have hbe := hbe0.alloc hbe0.size (.cells #[.int .i64 A2.limit, .slice (some ⟨g2, 0, none⟩) A2.l.length cp2] 46)
        refine bodyPost_ret (v := .tuple #[refV A2 g2 cp2, Ci.val ⟨k, true, n⟩, .int .i64 0]) (by simp [results, Try.results22, go_sem, refV, Ci.val, cell_of_heap hf8, cell_of_heap hf9]) rfl ⟨g2, cp2, by first | (rw [Hf.out]; done) | (rw [Hf.out]; rfl), ?_, ?_, (Hr2.out.2.imp (fun h => h) (fun h => Nat.le_trans Hs1.out h))⟩
        · rw [Hf.out]
          first | exact hrf | exact RefAt.same (hrf) rfl
        · first | exact hbe | exact hbe.drew | exact hbe.drew.drew
    · have hd : (f != 0) = true := by simpa using hf
      have hd2 : (f == 0) = false := by simpa using hf
      have hA2 : A2 = A := Hk.out.resolve_left hf
      subst hA2
      have Hf := Lib.hid (show rekeyC A2 ⟨key, true, n⟩ = (A2, ⟨0, false, 0⟩, f) by rw [Hm.out]; simp [hf, Ci.zero])
      clear hf
      go_wp2_with fail
      have hne : g ≠ w.heap.size + 2 ∧ g ≠ w.heap.size + 3 := refne (Hr.out.below hbw2) H2.out.2.2.1 H2.out.2.2.2
      have hrf : RefAt ((((((w2.setCell ⟨w.heap.size + 2, 0, none⟩ (.int .i64 A2.limit)).setCell ⟨w.heap.size + 2, 1, none⟩ (.slice (some ⟨g, 0, none⟩) A2.l.length cap)).setCell ⟨w.heap.size + 3, 0, none⟩ (.int .i64 0)).setCell ⟨w.heap.size + 3, 1, none⟩ (.bool false)).setCell ⟨w.heap.size + 3, 2, none⟩ (.int .u64 (0))).alloc (.cells #[.int .i64 A2.limit, .slice (some ⟨g2, 0, none⟩) A2.l.length cp2] 46)) g cap A2.l := (RefAt.set5 (Hr.out.below hbw2) hne.1 hne.2).below ((Below.refl _ _).alloc (Nat.le_refl _) _)
      have hfin := fin_set H2.out.2.2.1 H2.out.2.2.2 (by omega) (.int .i64 A2.limit) (.slice (some ⟨g, 0, none⟩) A2.l.length cap) (.int .i64 0) (.bool false) (.int .u64 (0))
      have hf8 := old_at (o := (.cells #[.int .i64 A2.limit, .slice (some ⟨g2, 0, none⟩) A2.l.length cp2] 46)) hfin.1
      have hf9 := old_at (o := (.cells #[.int .i64 A2.limit, .slice (some ⟨g2, 0, none⟩) A2.l.length cp2] 46)) hfin.2
      have hbe0 := ((((hbw2.setCell (p := ⟨w.heap.size + 2, 0, none⟩) (show w.heap.size ≤ w.heap.size + 2 by omega) (.int .i64 A2.limit)).setCell (p := ⟨w.heap.size + 2, 1, none⟩) (show w.heap.size ≤ w.heap.size + 2 by omega) (.slice (some ⟨g, 0, none⟩) A2.l.length cap)).setCell (p := ⟨w.heap.size + 3, 0, none⟩) (show w.heap.size ≤ w.heap.size + 3 by omega) (.int .i64 0)).setCell (p := ⟨w.heap.size + 3, 1, none⟩) (show w.heap.size ≤ w.heap.size + 3 by omega) (.bool false)).setCell (p := ⟨w.heap.size + 3, 2, none⟩) (show w.heap.size ≤ w.heap.size + 3 by omega) (.int .u64 (0))
      have hbe := hbe0.alloc hbe0.size (.cells #[.int .i64 A2.limit, .slice (some ⟨g2, 0, none⟩) A2.l.length cp2] 46)
      refine bodyPost_ret (v := .tuple #[refV A2 g cap, Ci.val ⟨0, false, 0⟩, .int .i64 f]) (by simp [results, Try.results22, go_sem, refV, Ci.val, cell_of_heap hf8, cell_of_heap hf9]) rfl ⟨g, cap, by first | (rw [Hf.out]; done) | (rw [Hf.out]; rfl), ?_, ?_, .inl rfl⟩
      · rw [Hf.out]
        first | exact hrf | exact RefAt.same (hrf) rfl
      · first | exact hbe | exact hbe.drew | exact hbe.drew.drew
end Go.Proofs.Ytgcjhmffndijhaa
