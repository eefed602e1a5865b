/- The document's Seal, Open and Rekey of layer 10. -/
import Derived.Test.YtgcjhmffndijhaaRef10
namespace Go.Proofs.Ytgcjhmffndijhaa
open Go.RowKit

theorem fin_set {w : World} {b8 b9 : Nat} {a0 a1 c0 c1 c2 : Value} {e e' : TypeId} {f f' : Nat × Nat} (h8 : w.heap[b8]? = some (.cells #[a0, a1] e f)) (h9 : w.heap[b9]? = some (.cells #[c0, c1, c2] e' f')) (hne : b8 ≠ b9) (v0 v1 u0 u1 u2 : Value) :
    (((((w.setCell ⟨b8, 0, none⟩ v0).setCell ⟨b8, 1, none⟩ v1).setCell ⟨b9, 0, none⟩ u0).setCell ⟨b9, 1, none⟩ u1).setCell ⟨b9, 2, none⟩ u2).heap[b8]? = some (.cells #[v0, v1] e f) ∧
    (((((w.setCell ⟨b8, 0, none⟩ v0).setCell ⟨b8, 1, none⟩ v1).setCell ⟨b9, 0, none⟩ u0).setCell ⟨b9, 1, none⟩ u1).setCell ⟨b9, 2, none⟩ u2).heap[b9]? = some (.cells #[u0, u1, u2] e' f') := by
  have k8 := heap_set2 (v0 := v0) (v1 := v1) h8
  have k9 : ((w.setCell ⟨b8, 0, none⟩ v0).setCell ⟨b8, 1, none⟩ v1).heap[b9]? = some (.cells #[c0, c1, c2] e' f') := by
    rw [Below.heap_setCell _ _ _ _ (by simp only; omega), Below.heap_setCell _ _ _ _ (by simp only; omega)]; exact h9
  refine ⟨?_, ?_⟩
  · rw [Below.heap_setCell _ _ _ _ (by simp only; omega), Below.heap_setCell _ _ _ _ (by simp only; omega), Below.heap_setCell _ _ _ _ (by simp only; omega)]; exact k8
  · have := heap_setCell_at (o := 2) (heap_setCell_at (o := 1) (heap_setCell_at (o := 0) k9 u0) u1) u2
    simpa using this
theorem fin_set3 {w : World} {b9 : Nat} {c0 c1 c2 : Value} {e' : TypeId} {f' : Nat × Nat} (h9 : w.heap[b9]? = some (.cells #[c0, c1, c2] e' f')) (u0 u1 u2 : Value) :
    (((w.setCell ⟨b9, 0, none⟩ u0).setCell ⟨b9, 1, none⟩ u1).setCell ⟨b9, 2, none⟩ u2).heap[b9]? = some (.cells #[u0, u1, u2] e' f') := by
  have := heap_setCell_at (o := 2) (heap_setCell_at (o := 1) (heap_setCell_at (o := 0) h9 u0) u1) u2
  simpa using this
theorem heap_size_alloc (w : World) (o : Obj) : (w.alloc o).heap.size = w.heap.size + 1 := by simp
theorem RefAt.same {w w' : World} {g cap : Nat} {l : List Nd} (h : RefAt w g cap l) (he : w'.heap = w.heap) : RefAt w' g cap l := by
  unfold RefAt World.ownsRow at h ⊢
  rw [he]; exact h
theorem refne {w : World} {g cap b8 b9 : Nat} {l : List Nd} {o8 o9 : Array Value} {f8 f9 : Nat × Nat} (h : RefAt w g cap l) (h8 : w.heap[b8]? = some (.cells o8 46 f8)) (h9 : w.heap[b9]? = some (.cells o9 56 f9)) : g ≠ b8 ∧ g ≠ b9 := by
  rcases h.2 with ⟨h0, _⟩ | ⟨g', c', cur, he, _, hg, _⟩
  · cases h0
  · simp only [Value.slice.injEq, Option.some.injEq, Addr.mk.injEq, and_true, true_and] at he
    obtain ⟨rfl, rfl⟩ := he
    refine ⟨fun e => ?_, fun e => ?_⟩
    · subst e; rw [hg] at h8; simp at h8
    · subst e; rw [hg] at h9; simp at h9
theorem RefAt.set5 {w : World} {g cap b8 b9 : Nat} {l : List Nd} (h : RefAt w g cap l) (h8 : g ≠ b8) (h9 : g ≠ b9) {v0 v1 u0 u1 u2 : Value} :
    RefAt (((((w.setCell ⟨b8, 0, none⟩ v0).setCell ⟨b8, 1, none⟩ v1).setCell ⟨b9, 0, none⟩ u0).setCell ⟨b9, 1, none⟩ u1).setCell ⟨b9, 2, none⟩ u2) g cap l :=
  ((h.upd (((Upd.refl (One b8) w).setCell (fun _ => rfl) v0).setCell (fun _ => rfl) v1) h8).upd ((((Upd.refl (One b9) _).setCell (fun _ => rfl) u0).setCell (fun _ => rfl) u1).setCell (fun _ => rfl) u2) h9)
def RSealPost (A : Ar) (g : Nat) (S : Ar × Ci × Int × Int) (w : World) (e : Ending) (w' : World) : Prop :=
  ∃ g' cap', e = .returned (.tuple #[refV S.1 g' cap', S.2.1.val, .int .i64 S.2.2.1, .int .i64 S.2.2.2]) ∧ RefAt w' g' cap' S.1.l ∧ Below w.heap.size w w' ∧ (g' = g ∨ w.heap.size ≤ g')
def ROpenPost (S : Ci × Int × Int) (w : World) (e : Ending) (w' : World) : Prop :=
  e = .returned (.tuple #[S.1.val, .int .i64 S.2.1, .int .i64 S.2.2]) ∧ Below w.heap.size w w'
def RRekeyPost (A : Ar) (g : Nat) (S : Ar × Ci × Int) (w : World) (e : Ending) (w' : World) : Prop :=
  ∃ g' cap', e = .returned (.tuple #[refV S.1 g' cap', S.2.1.val, .int .i64 S.2.2]) ∧ RefAt w' g' cap' S.1.l ∧ Below w.heap.size w w' ∧ (g' = g ∨ w.heap.size ≤ g')
set_option maxHeartbeats 3200000 in
set_option maxRecDepth 100000 in
theorem rSeal_calls {A : Ar} {g cap : Nat} {c : Ci} {w : World} (hr : RefAt w g cap A.l) (hwf : Wf A.l) (hm : A.l.length ≤ A.limit ∧ A.limit ≤ 65536) (hn0 : 0 ≤ c.n) (hn1 : c.n ≤ 18446744073709551615) (ad p : Int) :
    Calls Try.prog 20 #[refV A g cap, c.val, .int .i64 ad, .int .i64 p] w (RSealPost A g (sealC A c ad p) w) := by
  have Hr := Lib.hid hr
  have Hw := Lib.hid (And.intro hwf hm)
  obtain ⟨key, hc, n⟩ := c
  dsimp only at hn0 hn1
  have Hm := Lib.hid (show sealC A ⟨key, hc, n⟩ ad p = if mayC A.l ⟨key, hc, n⟩ [ad, p] ≠ 0 then (A, Ci.zero, 0, mayC A.l ⟨key, hc, n⟩ [ad, p]) else if hc = false then (A, ⟨key, hc, n⟩, p, 0) else if (mk A ⟨7, n, key, ad, p⟩).2.2 ≠ 0 then ((mk A ⟨7, n, key, ad, p⟩).1, Ci.zero, 0, (mk A ⟨7, n, key, ad, p⟩).2.2) else ((mk A ⟨7, n, key, ad, p⟩).1, ⟨key, hc, n + 1⟩, (mk A ⟨7, n, key, ad, p⟩).2.1, 0) from rfl)
  have Hz := Lib.hid (mayC_zero (l := A.l) (c := ⟨key, hc, n⟩) (x := ad) (y := p))
  have hb0 := below4 w (.cells #[.int .i64 A.limit, .slice (some ⟨g, 0, none⟩) A.l.length cap] 46) (.cells #[.int .i64 key, .bool hc, .int .u64 n] 56) (.cells #[.int .i64 0, .slice none 0 0] 46) (.cells #[.int .i64 0, .bool false, .int .u64 0] 56)
  have hn4 := new4 w (.cells #[.int .i64 A.limit, .slice (some ⟨g, 0, none⟩) A.l.length cap] 46) (.cells #[.int .i64 key, .bool hc, .int .u64 n] 56) (.cells #[.int .i64 0, .slice none 0 0] 46) (.cells #[.int .i64 0, .bool false, .int .u64 0] 56)
  have Hmay := Lib.hid (fun v => rMay_calls A g cap ⟨key, hc, n⟩ ad p v)
  have Hmk := Lib.hid (fun (v : World) (h : RefAt v g cap A.l) => rMk_calls (x := ⟨7, n, key, ad, p⟩) h hwf hm hn0 hn1)
  clear hr hwf hm
  simp only [refV, Ci.val] at Hmay ⊢
  simp only [refV, Nd.val] at Hmk
  go_enter Try.func20, Try.ntmps20
  go_wp2_with fail
  refine (Hmay.out _).mono ?_
  rintro e w1 ⟨rfl, hb1⟩
  have hbw := below_call hb0 hb1
  have H1 : Hid (RBox w1 w.heap.size A g cap ∧ RCiAt w1 (w.heap.size + 1) ⟨key, hc, n⟩ ∧ w1.heap[w.heap.size + 2]? = some (.cells #[.int .i64 0, .slice none 0 0] 46 (0, 0)) ∧ w1.heap[w.heap.size + 3]? = some (.cells #[.int .i64 0, .bool false, .int .u64 0] 56 (0, 0))) := Lib.hid ⟨(hb1.block _ (by simp only [heap_size_alloc]; omega)).trans hn4.1, (hb1.block _ (by simp only [heap_size_alloc]; omega)).trans hn4.2.1, (hb1.block _ (by simp only [heap_size_alloc]; omega)).trans hn4.2.2.1, (hb1.block _ (by simp only [heap_size_alloc]; omega)).trans hn4.2.2.2⟩
  obtain ⟨bx, cx, zx, zc⟩ := H1.out
  obtain ⟨b0, b1⟩ := RBox.cells bx
  obtain ⟨c0, c1, c2⟩ := RCiAt.cells cx
  dsimp only at c0 c1 c2
  have z0 := cell_of_heap (o := 0) zx
  have z1 := cell_of_heap (o := 1) zx
  have zf := fun o => frozen_of_heap (o := o) zx
  have y0 := cell_of_heap (o := 0) zc
  have y1 := cell_of_heap (o := 1) zc
  have y2 := cell_of_heap (o := 2) zc
  have yf := fun o => frozen_of_heap (o := o) zc
  simp only [List.getElem?_toArray, List.getElem?_cons_zero, List.getElem?_cons_succ] at z0 z1 y0 y1 y2
  have lb := lt_of_heap bx
  have lc := lt_of_heap cx
  have lz := lt_of_heap zx
  have ly := lt_of_heap zc
  clear bx cx zx zc
  clear hb0 hn4 hb1 Hmay
  generalize hmay : mayC A.l ⟨key, hc, n⟩ [ad, p] = e0 at *
  by_cases he0 : e0 = 0
  · subst he0
    have Hmay0 := Lib.hid hmay
    cases hc with
    | false =>
      have Hf := Lib.hid (show sealC A ⟨key, false, n⟩ ad p = (A, ⟨key, false, n⟩, p, 0) by rw [Hm.out]; simp)
      clear hmay
      go_wp2_with fail
      go_region
      all_goals go_wp2_with fail
      all_goals
        have hfin := fin_set H1.out.2.2.1 H1.out.2.2.2 (by omega) (.int .i64 A.limit) (.slice (some ⟨g, 0, none⟩) A.l.length cap) (.int .i64 key) (.bool false) (.int .u64 (n))
        have hbe := ((((hbw.setCell (p := ⟨w.heap.size + 2, 0, none⟩) (show w.heap.size ≤ w.heap.size + 2 by omega) (.int .i64 A.limit)).setCell (p := ⟨w.heap.size + 2, 1, none⟩) (show w.heap.size ≤ w.heap.size + 2 by omega) (.slice (some ⟨g, 0, none⟩) A.l.length cap)).setCell (p := ⟨w.heap.size + 3, 0, none⟩) (show w.heap.size ≤ w.heap.size + 3 by omega) (.int .i64 key)).setCell (p := ⟨w.heap.size + 3, 1, none⟩) (show w.heap.size ≤ w.heap.size + 3 by omega) (.bool false)).setCell (p := ⟨w.heap.size + 3, 2, none⟩) (show w.heap.size ≤ w.heap.size + 3 by omega) (.int .u64 (n))
        refine bodyPost_ret (v := .tuple #[refV A g cap, Ci.val ⟨key, false, n⟩, .int .i64 p, .int .i64 0]) (by simp [results, Try.results20, go_sem, refV, Ci.val, cell_of_heap hfin.1, cell_of_heap hfin.2]) rfl ⟨g, cap, by first | (rw [Hf.out]; done) | (rw [Hf.out]; rfl), ?_, ?_, .inl rfl⟩
        · rw [Hf.out]
          first | exact Hr.out.below hbe | exact RefAt.same (Hr.out.below hbe) rfl
        · first | exact hbe | exact hbe.drew | exact hbe.drew.drew
    | true =>
      have Hx := Lib.hid (Hz.out rfl)
      clear hmay
      go_wp2_with fail
      refine (Hmk.out _ (Hr.out.below hbw)).mono ?_
      rintro e w2 ⟨g2, cp2, rfl, hr2, hb2, hg2⟩
      have hbw2 := below_call hbw hb2
      clear b0 b1 c0 c1 c2 z0 z1 zf y0 y1 y2 yf lb lc lz ly
      have H2 : Hid (RBox w2 w.heap.size A g cap ∧ RCiAt w2 (w.heap.size + 1) ⟨key, true, n⟩ ∧ w2.heap[w.heap.size + 2]? = some (.cells #[.int .i64 0, .slice none 0 0] 46 (0, 0)) ∧ w2.heap[w.heap.size + 3]? = some (.cells #[.int .i64 0, .bool false, .int .u64 0] 56 (0, 0))) := Lib.hid ⟨H1.out.1.below hb2, H1.out.2.1.below hb2, (hb2.block _ (lt_of_heap H1.out.2.2.1)).trans H1.out.2.2.1, (hb2.block _ (lt_of_heap H1.out.2.2.2)).trans H1.out.2.2.2⟩
      obtain ⟨bx, cx, zx, zc⟩ := H2.out
      obtain ⟨b0, b1⟩ := RBox.cells bx
      obtain ⟨c0, c1, c2⟩ := RCiAt.cells cx
      dsimp only at c0 c1 c2
      have z0 := cell_of_heap (o := 0) zx
      have z1 := cell_of_heap (o := 1) zx
      have zf := fun o => frozen_of_heap (o := o) zx
      have y0 := cell_of_heap (o := 0) zc
      have y1 := cell_of_heap (o := 1) zc
      have y2 := cell_of_heap (o := 2) zc
      have yf := fun o => frozen_of_heap (o := o) zc
      simp only [List.getElem?_toArray, List.getElem?_cons_zero, List.getElem?_cons_succ] at z0 z1 y0 y1 y2
      have lb := lt_of_heap bx
      have lc := lt_of_heap cx
      have lz := lt_of_heap zx
      have ly := lt_of_heap zc
      clear bx cx zx zc
      have Hr2 := Lib.hid (And.intro hr2 hg2)
      have Hs1 := Lib.hid hbw.size
      clear hr2 hg2 hb2 H1
      have Hk := Lib.hid (mk_code A ⟨7, n, key, ad, p⟩)
      generalize mk A ⟨7, n, key, ad, p⟩ = M at *
      obtain ⟨A2, k, f⟩ := M
      dsimp only at Hk Hm Hr2 ⊢
      simp only [refV]
      by_cases hf : f = 0
      · subst hf
        have hnn : n ≠ 18446744073709551615 := (Hx.out.2.2 trivial).2
        have hwr : IntKind.u64.wrap (n + 1) = n + 1 := by rw [IntKind.wrap_u64]; omega
        have Hf := Lib.hid (show sealC A ⟨key, true, n⟩ ad p = (A2, ⟨key, true, n + 1⟩, k, 0) by rw [Hm.out]; simp)
        clear hnn
        have z13 := new_at (w := w2) (o := .cells #[.int .i64 A2.limit, .slice (some ⟨g2, 0, none⟩) A2.l.length cp2] 46) rfl
        have hbw3 := hbw2.alloc hbw2.size (.cells #[.int .i64 A2.limit, .slice (some ⟨g2, 0, none⟩) A2.l.length cp2] 46)
        have hba : Below w2.heap.size w2 (w2.alloc (.cells #[.int .i64 A2.limit, .slice (some ⟨g2, 0, none⟩) A2.l.length cp2] 46)) := (Below.refl _ _).alloc (Nat.le_refl _) _
        have H3 : Hid (RBox (w2.alloc (.cells #[.int .i64 A2.limit, .slice (some ⟨g2, 0, none⟩) A2.l.length cp2] 46)) w.heap.size A g cap ∧ RCiAt (w2.alloc (.cells #[.int .i64 A2.limit, .slice (some ⟨g2, 0, none⟩) A2.l.length cp2] 46)) (w.heap.size + 1) ⟨key, true, n⟩ ∧ (w2.alloc (.cells #[.int .i64 A2.limit, .slice (some ⟨g2, 0, none⟩) A2.l.length cp2] 46)).heap[w.heap.size + 2]? = some (.cells #[.int .i64 0, .slice none 0 0] 46 (0, 0)) ∧ (w2.alloc (.cells #[.int .i64 A2.limit, .slice (some ⟨g2, 0, none⟩) A2.l.length cp2] 46)).heap[w.heap.size + 3]? = some (.cells #[.int .i64 0, .bool false, .int .u64 0] 56 (0, 0))) := Lib.hid ⟨H2.out.1.below hba, H2.out.2.1.below hba, (hba.block _ (lt_of_heap H2.out.2.2.1)).trans H2.out.2.2.1, (hba.block _ (lt_of_heap H2.out.2.2.2)).trans H2.out.2.2.2⟩
        go_wp2_with fail
        go_region
        all_goals go_wp2_with fail
        all_goals
          have hne : g2 ≠ w.heap.size + 2 ∧ g2 ≠ w.heap.size + 3 := refne Hr2.out.1 H2.out.2.2.1 H2.out.2.2.2
          have hrf : RefAt ((((((w2.setCell ⟨w.heap.size + 2, 0, none⟩ (.int .i64 A2.limit)).setCell ⟨w.heap.size + 2, 1, none⟩ (.slice (some ⟨g2, 0, none⟩) A2.l.length cp2)).setCell ⟨w.heap.size + 3, 0, none⟩ (.int .i64 key)).setCell ⟨w.heap.size + 3, 1, none⟩ (.bool true)).setCell ⟨w.heap.size + 3, 2, none⟩ (.int .u64 (n + 1))).alloc (.cells #[.int .i64 A2.limit, .slice (some ⟨g2, 0, none⟩) A2.l.length cp2] 46)) g2 cp2 A2.l := (RefAt.set5 Hr2.out.1 hne.1 hne.2).below ((Below.refl _ _).alloc (Nat.le_refl _) _)
          have hfin := fin_set H2.out.2.2.1 H2.out.2.2.2 (by omega) (.int .i64 A2.limit) (.slice (some ⟨g2, 0, none⟩) A2.l.length cp2) (.int .i64 key) (.bool true) (.int .u64 (n + 1))
          have hf8 := old_at (o := (.cells #[.int .i64 A2.limit, .slice (some ⟨g2, 0, none⟩) A2.l.length cp2] 46)) hfin.1
          have hf9 := old_at (o := (.cells #[.int .i64 A2.limit, .slice (some ⟨g2, 0, none⟩) A2.l.length cp2] 46)) hfin.2
          have hbe0 := ((((hbw2.setCell (p := ⟨w.heap.size + 2, 0, none⟩) (show w.heap.size ≤ w.heap.size + 2 by omega) (.int .i64 A2.limit)).setCell (p := ⟨w.heap.size + 2, 1, none⟩) (show w.heap.size ≤ w.heap.size + 2 by omega) (.slice (some ⟨g2, 0, none⟩) A2.l.length cp2)).setCell (p := ⟨w.heap.size + 3, 0, none⟩) (show w.heap.size ≤ w.heap.size + 3 by omega) (.int .i64 key)).setCell (p := ⟨w.heap.size + 3, 1, none⟩) (show w.heap.size ≤ w.heap.size + 3 by omega) (.bool true)).setCell (p := ⟨w.heap.size + 3, 2, none⟩) (show w.heap.size ≤ w.heap.size + 3 by omega) (.int .u64 (n + 1))
          have hbe := hbe0.alloc hbe0.size (.cells #[.int .i64 A2.limit, .slice (some ⟨g2, 0, none⟩) A2.l.length cp2] 46)
          refine bodyPost_ret (v := .tuple #[refV A2 g2 cp2, Ci.val ⟨key, true, n + 1⟩, .int .i64 k, .int .i64 0]) (by simp [results, Try.results20, go_sem, refV, Ci.val, cell_of_heap hf8, cell_of_heap hf9]) rfl ⟨g2, cp2, by first | (rw [Hf.out]; done) | (rw [Hf.out]; rfl), ?_, ?_, (Hr2.out.2.imp (fun h => h) (fun h => Nat.le_trans Hs1.out h))⟩
          · rw [Hf.out]
            first | exact hrf | exact RefAt.same (hrf) rfl
          · first | exact hbe | exact hbe.drew | exact hbe.drew.drew
      · have hd : (f != 0) = true := by simpa using hf
        have hd2 : (f == 0) = false := by simpa using hf
        have hA2 : A2 = A := Hk.out.resolve_left hf
        subst hA2
        have Hf := Lib.hid (show sealC A2 ⟨key, true, n⟩ ad p = (A2, ⟨0, false, 0⟩, 0, f) by rw [Hm.out]; simp [hf, Ci.zero])
        clear hf
        go_wp2_with fail
        have hne : g ≠ w.heap.size + 2 ∧ g ≠ w.heap.size + 3 := refne (Hr.out.below hbw2) H2.out.2.2.1 H2.out.2.2.2
        have hrf : RefAt ((((((w2.setCell ⟨w.heap.size + 2, 0, none⟩ (.int .i64 A2.limit)).setCell ⟨w.heap.size + 2, 1, none⟩ (.slice (some ⟨g, 0, none⟩) A2.l.length cap)).setCell ⟨w.heap.size + 3, 0, none⟩ (.int .i64 0)).setCell ⟨w.heap.size + 3, 1, none⟩ (.bool false)).setCell ⟨w.heap.size + 3, 2, none⟩ (.int .u64 (0))).alloc (.cells #[.int .i64 A2.limit, .slice (some ⟨g2, 0, none⟩) A2.l.length cp2] 46)) g cap A2.l := (RefAt.set5 (Hr.out.below hbw2) hne.1 hne.2).below ((Below.refl _ _).alloc (Nat.le_refl _) _)
        have hfin := fin_set H2.out.2.2.1 H2.out.2.2.2 (by omega) (.int .i64 A2.limit) (.slice (some ⟨g, 0, none⟩) A2.l.length cap) (.int .i64 0) (.bool false) (.int .u64 (0))
        have hf8 := old_at (o := (.cells #[.int .i64 A2.limit, .slice (some ⟨g2, 0, none⟩) A2.l.length cp2] 46)) hfin.1
        have hf9 := old_at (o := (.cells #[.int .i64 A2.limit, .slice (some ⟨g2, 0, none⟩) A2.l.length cp2] 46)) hfin.2
        have hbe0 := ((((hbw2.setCell (p := ⟨w.heap.size + 2, 0, none⟩) (show w.heap.size ≤ w.heap.size + 2 by omega) (.int .i64 A2.limit)).setCell (p := ⟨w.heap.size + 2, 1, none⟩) (show w.heap.size ≤ w.heap.size + 2 by omega) (.slice (some ⟨g, 0, none⟩) A2.l.length cap)).setCell (p := ⟨w.heap.size + 3, 0, none⟩) (show w.heap.size ≤ w.heap.size + 3 by omega) (.int .i64 0)).setCell (p := ⟨w.heap.size + 3, 1, none⟩) (show w.heap.size ≤ w.heap.size + 3 by omega) (.bool false)).setCell (p := ⟨w.heap.size + 3, 2, none⟩) (show w.heap.size ≤ w.heap.size + 3 by omega) (.int .u64 (0))
        have hbe := hbe0.alloc hbe0.size (.cells #[.int .i64 A2.limit, .slice (some ⟨g2, 0, none⟩) A2.l.length cp2] 46)
        refine bodyPost_ret (v := .tuple #[refV A2 g cap, Ci.val ⟨0, false, 0⟩, .int .i64 0, .int .i64 f]) (by simp [results, Try.results20, go_sem, refV, Ci.val, cell_of_heap hf8, cell_of_heap hf9]) rfl ⟨g, cap, by first | (rw [Hf.out]; done) | (rw [Hf.out]; rfl), ?_, ?_, .inl rfl⟩
        · rw [Hf.out]
          first | exact hrf | exact RefAt.same (hrf) rfl
        · first | exact hbe | exact hbe.drew | exact hbe.drew.drew
  · have hd : (e0 != 0) = true := by simpa using he0
    have hd2 : (e0 == 0) = false := by simpa using he0
    have Hf := Lib.hid (show sealC A ⟨key, hc, n⟩ ad p = (A, ⟨0, false, 0⟩, 0, e0) by rw [Hm.out]; simp [he0, Ci.zero])
    clear he0
    go_wp2_with fail
    have hfin := fin_set H1.out.2.2.1 H1.out.2.2.2 (by omega) (.int .i64 A.limit) (.slice (some ⟨g, 0, none⟩) A.l.length cap) (.int .i64 0) (.bool false) (.int .u64 (0))
    have hbe := ((((hbw.setCell (p := ⟨w.heap.size + 2, 0, none⟩) (show w.heap.size ≤ w.heap.size + 2 by omega) (.int .i64 A.limit)).setCell (p := ⟨w.heap.size + 2, 1, none⟩) (show w.heap.size ≤ w.heap.size + 2 by omega) (.slice (some ⟨g, 0, none⟩) A.l.length cap)).setCell (p := ⟨w.heap.size + 3, 0, none⟩) (show w.heap.size ≤ w.heap.size + 3 by omega) (.int .i64 0)).setCell (p := ⟨w.heap.size + 3, 1, none⟩) (show w.heap.size ≤ w.heap.size + 3 by omega) (.bool false)).setCell (p := ⟨w.heap.size + 3, 2, none⟩) (show w.heap.size ≤ w.heap.size + 3 by omega) (.int .u64 (0))
    refine bodyPost_ret (v := .tuple #[refV A g cap, Ci.val ⟨0, false, 0⟩, .int .i64 0, .int .i64 e0]) (by simp [results, Try.results20, go_sem, refV, Ci.val, cell_of_heap hfin.1, cell_of_heap hfin.2]) rfl ⟨g, cap, by first | (rw [Hf.out]; done) | (rw [Hf.out]; rfl), ?_, ?_, .inl rfl⟩
    · rw [Hf.out]
      first | exact Hr.out.below hbe | exact RefAt.same (Hr.out.below hbe) rfl
    · first | exact hbe | exact hbe.drew | exact hbe.drew.drew
end Go.Proofs.Ytgcjhmffndijhaa
