/- Seal, Open, Rekey of layer 10: what they tell is Ci's; nothing but the arena changes. -/
import Derived.Test.YtgcjhmffndijhaaCip
namespace Go.Proofs.Ytgcjhmffndijhaa
open Go.RowKit

def SealPost (R : Ar) (c : Ci) (ad p : Int) (S : Nat → Prop) (r : Nat) (w : World) (e : Ending) (w' : World) : Prop :=
  e = .returned (.tuple #[(sealC R c ad p).2.1.val, .int .i64 (sealC R c ad p).2.2.1, .int .i64 (sealC R c ad p).2.2.2]) ∧ Left w r S (sealC R c ad p).1 w'
def OpenPost (R : Ar) (c : Ci) (ad x : Int) (w : World) (e : Ending) (w' : World) : Prop :=
  e = .returned (.tuple #[(openC R.l c ad x).1.val, .int .i64 (openC R.l c ad x).2.1, .int .i64 (openC R.l c ad x).2.2]) ∧ Below w.heap.size w w'
def RekeyPost (R : Ar) (c : Ci) (S : Nat → Prop) (r : Nat) (w : World) (e : Ending) (w' : World) : Prop :=
  e = .returned (.tuple #[(rekeyC R c).2.1.val, .int .i64 (rekeyC R c).2.2]) ∧ Left w r S (rekeyC R c).1 w'

theorem heap_set3 {w : World} {b : Nat} {a0 a1 a2 v0 v1 v2 : Value} {e : TypeId} {f : Nat × Nat} (h : w.heap[b]? = some (.cells #[a0, a1, a2] e f)) :
    (((w.setCell ⟨b, 0, none⟩ v0).setCell ⟨b, 1, none⟩ v1).setCell ⟨b, 2, none⟩ v2).heap[b]? = some (.cells #[v0, v1, v2] e f) := by
  have := heap_setCell_at (o := 2) (heap_setCell_at (o := 1) (heap_setCell_at (o := 0) h v0) v1) v2
  simpa using this
theorem below_set3 {B : Nat} {a w : World} {b : Nat} (h : Below B a w) (hb : B ≤ b) (v0 v1 v2 : Value) : Below B a (((w.setCell ⟨b, 0, none⟩ v0).setCell ⟨b, 1, none⟩ v1).setCell ⟨b, 2, none⟩ v2) :=
  ((h.setCell hb _).setCell hb _).setCell hb _
/-- Local blocks of a call: those made by it ahead of a certain world. -/
def Loc (w w1 : World) : Nat → Prop := fun b => w.heap.size ≤ b ∧ b < w1.heap.size
theorem left_chain {w w1 w2 w3 : World} {r : Nat} {S S2 : Nat → Prop} {A' : Ar} (hbw : Below w.heap.size w w1) (hlt : ∀ b, S b → b < w.heap.size) (hr2 : IsArena w2 r A' S2) (hu2 : Upd S w1 w2) (hs2 : ∀ b, S2 b → S b ∨ w1.heap.size ≤ b)
    (h23 : Upd (Loc w w1) w2 w3) : Left w r S A' w3 := by
  have hw1 := hbw.size
  have hw2 := hu2.size
  refine ⟨S2, hr2.keep h23 (fun b hb h => ?_), ⟨h23.os.trans (hu2.os.trans hbw.os), h23.tape.trans (hu2.tape.trans hbw.tape), h23.output.trans (hu2.output.trans hbw.output), by have := h23.size; omega, fun k hk hS => ?_⟩, fun b hb => ?_⟩
  · obtain ⟨h1, h2⟩ := h
    rcases hs2 b hb with h3 | h3
    · have := hlt b h3; omega
    · omega
  · rw [h23.block k (by omega) (fun h => by obtain ⟨h1, _⟩ := h; omega), hu2.block k (by omega) hS]
    exact hbw.block k hk
  · rcases hs2 b hb with h3 | h3
    · exact .inl h3
    · right; omega
theorem Upd.set3 {S : Nat → Prop} {a w : World} (h : Upd S a w) {b : Nat} (hb : b < a.heap.size → S b) (v0 v1 v2 : Value) : Upd S a (((w.setCell ⟨b, 0, none⟩ v0).setCell ⟨b, 1, none⟩ v1).setCell ⟨b, 2, none⟩ v2) :=
  ((h.setCell hb _).setCell hb _).setCell hb _

set_option maxHeartbeats 3200000 in
set_option maxRecDepth 100000 in
theorem cSeal_calls {S : Nat → Prop} {r : Nat} {R : Ar} {c : Ci} {ad p : Int} {w : World} (hr : IsArena w r R S) (hc0 : 0 ≤ c.n) (hc1 : c.n ≤ 18446744073709551615) :
    Calls Try.prog 27 #[c.val, .pointer (some ⟨r, 0, none⟩), .int .i64 ad, .int .i64 p] w (SealPost R c ad p S r w) := by
  have Hr := Lib.hid hr
  have hv : c.val = .agg #[.int .i64 c.key, .bool c.has, .int .u64 c.n] := rfl
  have Hlt := Lib.hid hr.lt
  clear hr
  rw [hv]
  have Hv := Lib.hid hv
  clear hv
  go_enter Try.func27, Try.ntmps27
  go_wp2_with fail
  refine (cMay_calls (c := c) (x := ad) (y := p) (Hr.out.below (below3 _ _ _ _)) (by go_simp) (by go_simp)).mono ?_
  rintro e w1 ⟨rfl, hb1⟩
  have hbw : Below w.heap.size w w1 := below_call (below3 _ _ _ _) hb1
  have hk0 : CiAt w1 w.heap.size c := (hb1.block w.heap.size (by simp; omega)).trans (new3 w _ _ _).1
  have hk1 : CiAt w1 (w.heap.size + 1) Ci.zero := (hb1.block (w.heap.size + 1) (by simp)).trans (new3 w _ _ _).2.1
  clear hb1
  obtain ⟨c0, c1, c2⟩ := hk0.cells
  obtain ⟨z0, z1, z2⟩ := hk1.cells
  have zf := fun o => frozen_of_heap (o := o) hk1
  have l0 := lt_of_heap hk0
  have l1 := lt_of_heap hk1
  have lw1 := lt_of_heap hk1
  have Hk0 := Lib.hid hk0
  have Hk1 := Lib.hid hk1
  clear hk0 hk1
  by_cases hm : mayC R.l c [ad, p] = 0
  · rw [hm]
    obtain ⟨m1, m2, m3⟩ := mayC_zero hm
    cases hc : c.has with
    | false =>
      rw [hc] at c1
      have Hf := Lib.hid (show sealC R c ad p = (R, c, p, 0) by simp [sealC, hm, hc])
      clear hm m1 m2 m3
      go_wp2_with fail
      have hfin := heap_set3 (v0 := .int .i64 c.key) (v1 := .bool false) (v2 := .int .u64 c.n) Hk1.out
      refine bodyPost_ret (v := .tuple #[c.val, .int .i64 p, .int .i64 0]) (by simp [results, Try.results27, go_sem, Ci.val, cell_of_heap hfin, hc]) rfl ⟨by rw [Hf.out], ?_⟩
      rw [Hf.out]
      exact Left.of_below Hr.out (below_set3 hbw (by omega) _ _ _)
    | true =>
      rw [hc] at c1
      have hne := (m3 hc).2
      have Hf := Lib.hid (show sealC R c ad p = if (mk R ⟨7, c.n, c.key, ad, p⟩).2.2 ≠ 0 then ((mk R ⟨7, c.n, c.key, ad, p⟩).1, Ci.zero, 0, (mk R ⟨7, c.n, c.key, ad, p⟩).2.2) else ((mk R ⟨7, c.n, c.key, ad, p⟩).1, laterC c, (mk R ⟨7, c.n, c.key, ad, p⟩).2.1, 0) by simp [sealC, hm, hc])
      clear hm m1 m2 m3
      go_wp2_with fail
      refine (mk_calls (x := ⟨7, c.n, c.key, ad, p⟩) (Hr.out.below hbw) hc0 hc1).mono ?_
      rintro e w2 ⟨rfl, S2, hr2, hu2, hs2⟩
      have hcd := mk_code R ⟨7, c.n, c.key, ad, p⟩
      generalize mk R ⟨7, c.n, c.key, ad, p⟩ = m at *
      obtain ⟨A', x, e⟩ := m
      have nS : ∀ b, w.heap.size ≤ b → ¬ S b := fun b hb h => by have := Hlt.out b h; omega
      have hk0 : CiAt w2 w.heap.size c := hu2.heap Hk0.out (nS _ (Nat.le_refl _))
      have hk1 : CiAt w2 (w.heap.size + 1) Ci.zero := hu2.heap Hk1.out (nS _ (by omega))
      clear c0 c1 c2 z0 z1 z2 zf l0 l1 Hk0 Hk1
      obtain ⟨c0, c1, c2⟩ := hk0.cells
      obtain ⟨z0, z1, z2⟩ := hk1.cells
      rw [hc] at c1
      have zf := fun o => frozen_of_heap (o := o) hk1
      have l0 := lt_of_heap hk0
      have l1 := lt_of_heap hk1
      have Hk1 := Lib.hid hk1
      have Hk0 := Lib.hid hk0
      clear hk0 hk1
      by_cases he : e = 0
      · subst he
        have Hf2 := Lib.hid (show sealC R c ad p = (A', laterC c, x, 0) by rw [Hf.out]; simp)
        clear Hf hcd
        go_wp2_with fail
        have hcv : c.val = .agg #[.int .i64 c.key, .bool true, .int .u64 c.n] := by rw [← hc]; rfl
        rw [← hcv]
        clear hcv
        refine (cLater_calls c w2 hc0 (by omega)).mono ?_
        rintro e w3 ⟨rfl, hb3⟩
        have hk1 : CiAt w3 (w.heap.size + 1) Ci.zero := (Hk1.out).below hb3
        have l1 := lt_of_heap hk1
        have zf := fun o => frozen_of_heap (o := o) hk1
        clear z0 z1 z2
        obtain ⟨z0, z1, z2⟩ := hk1.cells
        have Hk1 := Lib.hid hk1
        clear hk1
        simp only [laterC, Ci.val]
        go_wp2_with fail
        have hfin := heap_set3 (v0 := .int .i64 c.key) (v1 := .bool true) (v2 := .int .u64 (c.n + 1)) Hk1.out
        refine bodyPost_ret (v := .tuple #[(laterC c).val, .int .i64 x, .int .i64 0]) (by simp [results, Try.results27, go_sem, Ci.val, laterC, cell_of_heap hfin, hc]) rfl ⟨by rw [Hf2.out], ?_⟩
        rw [Hf2.out]
        exact left_chain hbw Hlt.out hr2 hu2 hs2 ((Upd.of_below hb3).set3 (fun _ => ⟨by omega, by omega⟩) _ _ _)
      · have Hf2 := Lib.hid (show sealC R c ad p = (A', Ci.zero, 0, e) by rw [Hf.out]; simp [he])
        have he1 : (e != 0) = true := by simp [he]
        clear Hf hcd he
        go_wp2_with fail
        have hfin := heap_set3 (v0 := .int .i64 0) (v1 := .bool false) (v2 := .int .u64 0) Hk1.out
        refine bodyPost_ret (v := .tuple #[Ci.zero.val, .int .i64 0, .int .i64 e]) (by simp [results, Try.results27, go_sem, Ci.val, Ci.zero, cell_of_heap hfin]) rfl ⟨by rw [Hf2.out], ?_⟩
        rw [Hf2.out]
        exact left_chain hbw Hlt.out hr2 hu2 hs2 ((Upd.refl _ _).set3 (fun _ => ⟨by omega, by omega⟩) _ _ _)
  · have Hf := Lib.hid (show sealC R c ad p = (R, Ci.zero, 0, mayC R.l c [ad, p]) by simp [sealC, hm])
    generalize mayC R.l c [ad, p] = e at *
    have he1 : (e != 0) = true := by simp [hm]
    clear hm
    go_wp2_with fail
    have hfin := heap_set3 (v0 := .int .i64 0) (v1 := .bool false) (v2 := .int .u64 0) Hk1.out
    refine bodyPost_ret (v := .tuple #[Ci.zero.val, .int .i64 0, .int .i64 e]) (by simp [results, Try.results27, go_sem, Ci.val, Ci.zero, cell_of_heap hfin]) rfl ⟨by rw [Hf.out], ?_⟩
    rw [Hf.out]
    exact Left.of_below Hr.out (below_set3 hbw (by omega) _ _ _)

set_option maxHeartbeats 3200000 in
set_option maxRecDepth 100000 in
theorem cOpen_calls {S : Nat → Prop} {r : Nat} {R : Ar} {c : Ci} {ad p : Int} {w : World} (hr : IsArena w r R S) (hc0 : 0 ≤ c.n) (hc1 : c.n ≤ 18446744073709551615) :
    Calls Try.prog 29 #[c.val, .pointer (some ⟨r, 0, none⟩), .int .i64 ad, .int .i64 p] w (OpenPost R c ad p w) := by
  have Hr := Lib.hid hr
  have hv : c.val = .agg #[.int .i64 c.key, .bool c.has, .int .u64 c.n] := rfl
  clear hr
  rw [hv]
  have Hv := Lib.hid hv
  clear hv
  go_enter Try.func29, Try.ntmps29
  go_wp2_with fail
  refine (cMay_calls (c := c) (x := ad) (y := p) (Hr.out.below (below3 _ _ _ _)) (by go_simp) (by go_simp)).mono ?_
  rintro e w1 ⟨rfl, hb1⟩
  have hbw : Below w.heap.size w w1 := below_call (below3 _ _ _ _) hb1
  have hk0 : CiAt w1 w.heap.size c := (hb1.block w.heap.size (by simp; omega)).trans (new3 w _ _ _).1
  have hk1 : CiAt w1 (w.heap.size + 1) Ci.zero := (hb1.block (w.heap.size + 1) (by simp)).trans (new3 w _ _ _).2.1
  clear hb1
  obtain ⟨c0, c1, c2⟩ := hk0.cells
  obtain ⟨z0, z1, z2⟩ := hk1.cells
  have zf := fun o => frozen_of_heap (o := o) hk1
  have l0 := lt_of_heap hk0
  have l1 := lt_of_heap hk1
  have Hk0 := Lib.hid hk0
  have Hk1 := Lib.hid hk1
  clear hk0 hk1
  by_cases hm : mayC R.l c [ad, p] = 0
  · rw [hm]
    obtain ⟨m1, m2, m3⟩ := mayC_zero hm
    cases hc : c.has with
    | false =>
      rw [hc] at c1
      have Hf := Lib.hid (show openC R.l c ad p = (c, p, 0) by simp [openC, hm, hc])
      clear hm m1 m2 m3
      go_wp2_with fail
      have hfin := heap_set3 (v0 := .int .i64 c.key) (v1 := .bool false) (v2 := .int .u64 c.n) Hk1.out
      refine bodyPost_ret (v := .tuple #[c.val, .int .i64 p, .int .i64 0]) (by simp [results, Try.results29, go_sem, Ci.val, cell_of_heap hfin, hc]) rfl ⟨by rw [Hf.out], ?_⟩
      exact below_set3 hbw (by omega) _ _ _
    | true =>
      rw [hc] at c1
      have hne := (m3 hc).2
      have Hf := Lib.hid (show openC R.l c ad p = if getNd R.l p = ⟨7, c.n, c.key, ad, (getNd R.l p).c⟩ then (laterC c, (getNd R.l p).c, 0) else (Ci.zero, 0, 7) by simp [openC, hm, hc])
      clear hm m1 m2 m3
      go_wp2_with fail
      refine (get_calls p (Hr.out.below hbw)).mono ?_
      rintro e w2 ⟨rfl, hb2⟩
      have hbw2 := below_call hbw hb2
      have hk0 : CiAt w2 w.heap.size c := Hk0.out.below hb2
      have hk1 : CiAt w2 (w.heap.size + 1) Ci.zero := Hk1.out.below hb2
      clear c0 c1 c2 z0 z1 z2 zf l0 l1 Hk0 Hk1 hb2
      obtain ⟨c0, c1, c2⟩ := hk0.cells
      obtain ⟨z0, z1, z2⟩ := hk1.cells
      rw [hc] at c1
      have zf := fun o => frozen_of_heap (o := o) hk1
      have l0 := lt_of_heap hk0
      have l1 := lt_of_heap hk1
      have Hk1 := Lib.hid hk1
      have Hk0 := Lib.hid hk0
      clear hk0 hk1
      generalize getNd R.l p = n at *
      by_cases heq : n = ⟨7, c.n, c.key, ad, n.c⟩
      · have Hf2 := Lib.hid (show openC R.l c ad p = (laterC c, n.c, 0) by rw [Hf.out, if_pos heq])
        clear Hf
        obtain ⟨nk, nn, na, nb, nc⟩ := n
        simp only [Nd.mk.injEq, and_true] at heq
        obtain ⟨rfl, rfl, rfl, rfl⟩ := heq
        simp only [Nd.val]
        simp only at Hf2
        go_wp2_with fail
        have hzn : w2.heap.size ≠ w.heap.size + 1 := by omega
        have hzn' : w.heap.size + 1 ≠ w2.heap.size := by omega
        have hzl : w.heap.size + 1 < w2.heap.size + 2 := by omega
        have hzl0 : w.heap.size < w2.heap.size + 2 := by omega
        have hcv : c.val = .agg #[.int .i64 c.key, .bool true, .int .u64 c.n] := by rw [← hc]; rfl
        have Hcv := Lib.hid hcv
        clear hcv
        go_region_held3 (fun w' => w'.cell? ⟨w.heap.size, 0, none⟩ = some (.int .i64 c.key) ∧ w'.cell? ⟨w.heap.size, 1, none⟩ = some (.bool true) ∧ w'.cell? ⟨w.heap.size, 2, none⟩ = some (.int .u64 c.n) ∧ w'.cell? ⟨w2.heap.size, 4, none⟩ = some (.int .i64 nc))
          (first | go_keep)
          (first | (go_at_call 42; rw [← Hcv.out]; refine (cLater_calls c _ hc0 (by omega)).mono ?_; rintro e w3 ⟨rfl, hb3⟩
                    have hbx : Below w2.heap.size w2 w3 := below_call ((below2 w2 _ _).drew) hb3
                    have hq := (hb3.cell (p := ⟨w2.heap.size, 4, none⟩) (by simp; omega)).trans (cell_of_heap (o := 4) (two_new w2 _ _).1)
                    obtain ⟨d0, d1, d2⟩ := (Hk0.out.below hbx).cells
                    rw [hc] at d1
                    obtain ⟨y0, y1, y2⟩ := (Hk1.out.below hbx).cells
                    have yf := fun o => frozen_of_heap (o := o) (Hk1.out.below hbx)
                    have ly := lt_of_heap (Hk1.out.below hbx)
                    simp only [Ci.val, laterC, hc]))
        go_wp2_with fail
        have hfin := heap_set3 (v0 := .int .i64 c.key) (v1 := .bool true) (v2 := .int .u64 (c.n + 1)) (Hk1.out.below hbx)
        refine bodyPost_ret (v := .tuple #[(laterC c).val, .int .i64 nc, .int .i64 0]) (by simp [results, Try.results29, go_sem, Ci.val, laterC, cell_of_heap hfin, hc]) rfl ⟨by rw [Hf2.out], ?_⟩
        exact below_set3 (below_call hbw2 hbx) (by omega) _ _ _
      · have Hf2 := Lib.hid (show openC R.l c ad p = (Ci.zero, 0, 7) by rw [Hf.out, if_neg heq])
        clear Hf
        have Heq := Lib.hid heq
        clear heq
        simp only [Nd.val]
        go_wp2_with fail
        all_goals first
          | (exfalso; apply Heq.out; obtain ⟨nk, nn, na, nb, nc⟩ := n; simp_all; done)
          | (have hfin : ∀ (o1 o2 : Obj) (j : Nat), ((((((w2.setCell ⟨w.heap.size + 1, 0, none⟩ (.int .i64 0)).setCell ⟨w.heap.size + 1, 1, none⟩ (.bool false)).setCell ⟨w.heap.size + 1, 2, none⟩ (.int .u64 0)).alloc o1).alloc o2)).cell? ⟨w.heap.size + 1, j, none⟩ = (#[Value.int .i64 0, .bool false, .int .u64 0])[j]? := fun o1 o2 j => cell_of_heap (old_at (old_at (heap_set3 Hk1.out)))
             refine bodyPost_ret (v := .tuple #[Ci.zero.val, .int .i64 0, .int .i64 7]) (by simp [results, Try.results29, go_sem, Ci.val, Ci.zero, hfin]) rfl ⟨by rw [Hf2.out], ?_⟩
             exact ((below_set3 hbw2 (by omega) _ _ _).alloc (by have := hbw2.size; simp [World.setCell]; omega) _).alloc (by have := hbw2.size; simp [World.setCell]; omega) _)
  · have Hf := Lib.hid (show openC R.l c ad p = (Ci.zero, 0, mayC R.l c [ad, p]) by simp [openC, hm])
    generalize mayC R.l c [ad, p] = e at *
    have he1 : (e != 0) = true := by simp [hm]
    clear hm
    go_wp2_with fail
    have hfin := heap_set3 (v0 := .int .i64 0) (v1 := .bool false) (v2 := .int .u64 0) Hk1.out
    refine bodyPost_ret (v := .tuple #[Ci.zero.val, .int .i64 0, .int .i64 e]) (by simp [results, Try.results29, go_sem, Ci.val, Ci.zero, cell_of_heap hfin]) rfl ⟨by rw [Hf.out], ?_⟩
    exact below_set3 hbw (by omega) _ _ _

set_option maxHeartbeats 3200000 in
set_option maxRecDepth 100000 in
theorem cRekey_calls {S : Nat → Prop} {r : Nat} {R : Ar} {c : Ci} {w : World} (hr : IsArena w r R S) :
    Calls Try.prog 35 #[c.val, .pointer (some ⟨r, 0, none⟩)] w (RekeyPost R c S r w) := by
  have Hr := Lib.hid hr
  have Hlt := Lib.hid hr.lt
  have hv : c.val = .agg #[.int .i64 c.key, .bool c.has, .int .u64 c.n] := rfl
  clear hr
  rw [hv]
  clear hv
  cases hc : c.has with
  | false =>
    have Hf := Lib.hid (show rekeyC R c = (R, Ci.zero, 10) by simp [rekeyC, hc])
    go_enter Try.func35, Try.ntmps35
    go_wp2_with fail
    refine bodyPost_ret (v := .tuple #[Ci.zero.val, .int .i64 10]) (by simp [results, Try.results35, go_sem, Ci.val, Ci.zero]) rfl ⟨by rw [Hf.out], ?_⟩
    rw [Hf.out]
    exact Left.of_below Hr.out (by first | exact below2 _ _ _ | exact below_set3 (below2 _ _ _) (by omega) _ _ _)
  | true =>
    have Hf := Lib.hid (show rekeyC R c = if (mk R ⟨6, 4, c.key, 0, 0⟩).2.2 ≠ 0 then ((mk R ⟨6, 4, c.key, 0, 0⟩).1, Ci.zero, (mk R ⟨6, 4, c.key, 0, 0⟩).2.2) else ((mk R ⟨6, 4, c.key, 0, 0⟩).1, ⟨(mk R ⟨6, 4, c.key, 0, 0⟩).2.1, true, c.n⟩, 0) by simp [rekeyC, hc])
    go_enter Try.func35, Try.ntmps35
    go_wp2_with fail
    refine (mk_calls (x := ⟨6, 4, c.key, 0, 0⟩) (Hr.out.below (below2 _ _ _)) (by simp) (by simp)).mono ?_
    rintro e w2 ⟨rfl, S2, hr2, hu2, hs2⟩
    generalize mk R ⟨6, 4, c.key, 0, 0⟩ = m at *
    obtain ⟨A', x, e⟩ := m
    have nS : ∀ b, w.heap.size ≤ b → ¬ S b := fun b hb h => by have := Hlt.out b h; omega
    have hk0 := hu2.heap (two_new w _ _).1 (nS _ (Nat.le_refl _))
    have hk1 := hu2.heap (two_new w _ _).2 (nS _ (by omega))
    have l0 := lt_of_heap hk0
    have l1 := lt_of_heap hk1
    have c0 := cell_of_heap (o := 0) hk0
    have c1 := cell_of_heap (o := 1) hk0
    have c2 := cell_of_heap (o := 2) hk0
    have z0 := cell_of_heap (o := 0) hk1
    have z1 := cell_of_heap (o := 1) hk1
    have z2 := cell_of_heap (o := 2) hk1
    have f0 := fun o => frozen_of_heap (o := o) hk0
    have f1 := fun o => frozen_of_heap (o := o) hk1
    simp only [List.getElem?_toArray, List.getElem?_cons_zero, List.getElem?_cons_succ] at c0 c1 c2 z0 z1 z2
    have Hk0 := Lib.hid hk0
    have Hk1 := Lib.hid hk1
    clear hk0 hk1
    by_cases he : e = 0
    · subst he
      have Hf2 := Lib.hid (show rekeyC R c = (A', ⟨x, true, c.n⟩, 0) by rw [Hf.out]; simp)
      clear Hf
      go_wp2_with fail
      have hfin := heap_set3 (b := w.heap.size + 1) (v0 := .int .i64 x) (v1 := .bool true) (v2 := .int .u64 c.n) ((Below.heap_setCell w2 ⟨w.heap.size, 0, none⟩ (.int .i64 x) (w.heap.size + 1) (by show _ ≠ w.heap.size; omega)).trans Hk1.out)
      refine bodyPost_ret (v := .tuple #[Ci.val ⟨x, true, c.n⟩, .int .i64 0]) (by simp [results, Try.results35, go_sem, Ci.val, cell_of_heap hfin]) rfl ⟨by rw [Hf2.out], ?_⟩
      rw [Hf2.out]
      exact left_chain (below2 _ _ _) Hlt.out hr2 hu2 hs2 (((Upd.refl _ _).setCell (fun _ => ⟨by omega, by simp <;> omega⟩) _).set3 (fun _ => ⟨by omega, by simp <;> omega⟩) _ _ _)
    · have Hf2 := Lib.hid (show rekeyC R c = (A', Ci.zero, e) by rw [Hf.out]; simp [he])
      have he1 : (e != 0) = true := by simp [he]
      clear Hf he
      go_wp2_with fail
      have hfin := heap_set3 (v0 := .int .i64 0) (v1 := .bool false) (v2 := .int .u64 0) Hk1.out
      refine bodyPost_ret (v := .tuple #[Ci.zero.val, .int .i64 e]) (by simp [results, Try.results35, go_sem, Ci.val, Ci.zero, cell_of_heap hfin]) rfl ⟨by rw [Hf2.out], ?_⟩
      rw [Hf2.out]
      exact left_chain (below2 _ _ _) Hlt.out hr2 hu2 hs2 ((Upd.refl _ _).set3 (fun _ => ⟨by omega, by simp <;> omega⟩) _ _ _)
end Go.Proofs.Ytgcjhmffndijhaa
