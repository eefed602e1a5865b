/- Packed by packn.py: Cip2, Tra, OwnT, Sy, ValW, PatE. -/
import Derived.Test.YtikimmgileffgaaGreatDoorQk14
import Derived.Test.YtikimmgileffgaaGreatDoorQk09
import Derived.Test.YtikimmgileffgaaGreatDoorQk01
import Derived.Test.YtikimmgileffgaaGreatDoorQk12
import Derived.Test.YtikimmgileffgaaGreatDoorQk11
import Derived.Test.YtikimmgileffgaaGreatDoorQk10
import Derived.Test.YtikimmgileffgaaGreatDoorQk05
/- Seal, Open, Rekey of layer 10: what they tell is Ci's; nothing but the arena changes. -/
section
namespace Go.Proofs.YtikimmgileffgaaGreatDoor
open Go.RowKit

def SealPost (R : Ar) (c : Ci) (ad p : Int) (S : Nat → Prop) (r : Nat) (w : World) (e : Ending) (w' : World) : Prop :=
  e = .returned (.tuple #[(sealC R c ad p).2.1.val, .int .i64 (sealC R c ad p).2.2.1, .int .i64 (sealC R c ad p).2.2.2]) ∧ Left w r S (sealC R c ad p).1 w'
def OpenPost (R : Ar) (c : Ci) (ad x : Int) (w : World) (e : Ending) (w' : World) : Prop :=
  e = .returned (.tuple #[(openC R.l c ad x).1.val, .int .i64 (openC R.l c ad x).2.1, .int .i64 (openC R.l c ad x).2.2]) ∧ Below w.heap.size w w'
theorem heap_set3 {w : World} {b : Nat} {a0 a1 a2 v0 v1 v2 : Value} {e : TypeId} {f : Nat × Nat} (h : w.heap[b]? = some (.cells #[a0, a1, a2] e f)) :
    (((w.setCell ⟨b, 0, none⟩ v0).setCell ⟨b, 1, none⟩ v1).setCell ⟨b, 2, none⟩ v2).heap[b]? = some (.cells #[v0, v1, v2] e f) := by
  have := heap_setCell_at (o := 2) (heap_setCell_at (o := 1) (heap_setCell_at (o := 0) h v0) v1) v2
  simpa using this
theorem below_set3 {B : Nat} {a w : World} {b : Nat} (h : Below B a w) (hb : B ≤ b) (v0 v1 v2 : Value) : Below B a (((w.setCell ⟨b, 0, none⟩ v0).setCell ⟨b, 1, none⟩ v1).setCell ⟨b, 2, none⟩ v2) :=
  ((h.setCell hb _).setCell hb _).setCell hb _
/-- Local blocks of a call: those made by it ahead of a certain world. -/
def Loc (w w1 : World) : Nat → Prop := fun b => w.heap.size ≤ b ∧ b < w1.heap.size
theorem left_chain {w w1 w2 w3 : World} {r : Nat} {S S2 : Nat → Prop} {A' : Ar} (hbw : Below w.heap.size w w1) (hlt : ∀ b, S b → b < w.heap.size) (hr2 : IsArena w2 r A' S2) (hu2 : Upd S w1 w2) (hs2 : ∀ b, S2 b → S b ∨ w1.heap.size ≤ b)
    (h23 : Upd (Loc w w1) w2 w3) : Left w r S A' w3 := by
  have hw1 := hbw.size
  have hw2 := hu2.size
  refine ⟨S2, hr2.keep h23 (fun b hb h => ?_), ⟨h23.os.trans (hu2.os.trans hbw.os), h23.tape.trans (hu2.tape.trans hbw.tape), h23.output.trans (hu2.output.trans hbw.output), by have := h23.size; omega, fun k hk hS => ?_⟩, fun b hb => ?_⟩
  · obtain ⟨h1, h2⟩ := h
    rcases hs2 b hb with h3 | h3
    · have := hlt b h3; omega
    · omega
  · rw [h23.block k (by omega) (fun h => by obtain ⟨h1, _⟩ := h; omega), hu2.block k (by omega) hS]
    exact hbw.block k hk
  · rcases hs2 b hb with h3 | h3
    · exact .inl h3
    · right; omega
theorem Upd.set3 {S : Nat → Prop} {a w : World} (h : Upd S a w) {b : Nat} (hb : b < a.heap.size → S b) (v0 v1 v2 : Value) : Upd S a (((w.setCell ⟨b, 0, none⟩ v0).setCell ⟨b, 1, none⟩ v1).setCell ⟨b, 2, none⟩ v2) :=
  ((h.setCell hb _).setCell hb _).setCell hb _

set_option maxHeartbeats 3200000 in
set_option maxRecDepth 100000 in
theorem cSeal_calls {S : Nat → Prop} {r : Nat} {R : Ar} {c : Ci} {ad p : Int} {w : World} (hr : IsArena w r R S) (hc0 : 0 ≤ c.n) (hc1 : c.n ≤ 18446744073709551615) :
    Calls Tryz.prog 126 #[c.val, .pointer (some ⟨r, 0, none⟩), .int .i64 ad, .int .i64 p] w (SealPost R c ad p S r w) := by
  have Hr := Lib.hid hr
  have hv : c.val = .agg #[.int .i64 c.key, .bool c.has, .int .u64 c.n] := rfl
  have Hlt := Lib.hid hr.lt
  clear hr
  rw [hv]
  have Hv := Lib.hid hv
  clear hv
  go_enter Tryz.func126, Tryz.ntmps126
  go_wp2_with fail
  refine (cMay_calls (c := c) (x := ad) (y := p) (Hr.out.below (below3 _ _ _ _)) (by go_simp) (by go_simp)).mono ?_
  rintro e w1 ⟨rfl, hb1⟩
  have hbw : Below w.heap.size w w1 := below_call (below3 _ _ _ _) hb1
  have hk0 : CiAt w1 w.heap.size c := (hb1.block w.heap.size (by simp; omega)).trans (new3 w _ _ _).1
  have hk1 : CiAt w1 (w.heap.size + 1) Ci.zero := (hb1.block (w.heap.size + 1) (by simp)).trans (new3 w _ _ _).2.1
  clear hb1
  obtain ⟨c0, c1, c2⟩ := hk0.cells
  obtain ⟨z0, z1, z2⟩ := hk1.cells
  have zf := fun o => frozen_of_heap (o := o) hk1
  have l0 := lt_of_heap hk0
  have l1 := lt_of_heap hk1
  have lw1 := lt_of_heap hk1
  have Hk0 := Lib.hid hk0
  have Hk1 := Lib.hid hk1
  clear hk0 hk1
  by_cases hm : mayC R.l c [ad, p] = 0
  · rw [hm]
    obtain ⟨m1, m2, m3⟩ := mayC_zero hm
    cases hc : c.has with
    | false =>
      rw [hc] at c1
      have Hf := Lib.hid (show sealC R c ad p = (R, c, p, 0) by simp [sealC, hm, hc])
      clear hm m1 m2 m3
      go_wp2_with fail
      have hfin := heap_set3 (v0 := .int .i64 c.key) (v1 := .bool false) (v2 := .int .u64 c.n) Hk1.out
      refine bodyPost_ret (v := .tuple #[c.val, .int .i64 p, .int .i64 0]) (by simp [results, Tryz.results126, go_sem, Ci.val, cell_of_heap hfin, hc]) rfl ⟨by rw [Hf.out], ?_⟩
      rw [Hf.out]
      exact Left.of_below Hr.out (below_set3 hbw (by omega) _ _ _)
    | true =>
      rw [hc] at c1
      have hne := (m3 hc).2
      have Hf := Lib.hid (show sealC R c ad p = if (mk R ⟨7, c.n, c.key, ad, p⟩).2.2 ≠ 0 then ((mk R ⟨7, c.n, c.key, ad, p⟩).1, Ci.zero, 0, (mk R ⟨7, c.n, c.key, ad, p⟩).2.2) else ((mk R ⟨7, c.n, c.key, ad, p⟩).1, laterC c, (mk R ⟨7, c.n, c.key, ad, p⟩).2.1, 0) by simp [sealC, hm, hc])
      clear hm m1 m2 m3
      go_wp2_with fail
      refine (mk_calls (x := ⟨7, c.n, c.key, ad, p⟩) (Hr.out.below hbw) hc0 hc1).mono ?_
      rintro e w2 ⟨rfl, S2, hr2, hu2, hs2⟩
      have hcd := mk_code R ⟨7, c.n, c.key, ad, p⟩
      generalize mk R ⟨7, c.n, c.key, ad, p⟩ = m at *
      obtain ⟨A', x, e⟩ := m
      have nS : ∀ b, w.heap.size ≤ b → ¬ S b := fun b hb h => by have := Hlt.out b h; omega
      have hk0 : CiAt w2 w.heap.size c := hu2.heap Hk0.out (nS _ (Nat.le_refl _))
      have hk1 : CiAt w2 (w.heap.size + 1) Ci.zero := hu2.heap Hk1.out (nS _ (by omega))
      clear c0 c1 c2 z0 z1 z2 zf l0 l1 Hk0 Hk1
      obtain ⟨c0, c1, c2⟩ := hk0.cells
      obtain ⟨z0, z1, z2⟩ := hk1.cells
      rw [hc] at c1
      have zf := fun o => frozen_of_heap (o := o) hk1
      have l0 := lt_of_heap hk0
      have l1 := lt_of_heap hk1
      have Hk1 := Lib.hid hk1
      have Hk0 := Lib.hid hk0
      clear hk0 hk1
      by_cases he : e = 0
      · subst he
        have Hf2 := Lib.hid (show sealC R c ad p = (A', laterC c, x, 0) by rw [Hf.out]; simp)
        clear Hf hcd
        go_wp2_with fail
        have hcv : c.val = .agg #[.int .i64 c.key, .bool true, .int .u64 c.n] := by rw [← hc]; rfl
        rw [← hcv]
        clear hcv
        refine (cLater_calls c w2 hc0 (by omega)).mono ?_
        rintro e w3 ⟨rfl, hb3⟩
        have hk1 : CiAt w3 (w.heap.size + 1) Ci.zero := (Hk1.out).below hb3
        have l1 := lt_of_heap hk1
        have zf := fun o => frozen_of_heap (o := o) hk1
        clear z0 z1 z2
        obtain ⟨z0, z1, z2⟩ := hk1.cells
        have Hk1 := Lib.hid hk1
        clear hk1
        simp only [laterC, Ci.val]
        go_wp2_with fail
        have hfin := heap_set3 (v0 := .int .i64 c.key) (v1 := .bool true) (v2 := .int .u64 (c.n + 1)) Hk1.out
        refine bodyPost_ret (v := .tuple #[(laterC c).val, .int .i64 x, .int .i64 0]) (by simp [results, Tryz.results126, go_sem, Ci.val, laterC, cell_of_heap hfin, hc]) rfl ⟨by rw [Hf2.out], ?_⟩
        rw [Hf2.out]
        exact left_chain hbw Hlt.out hr2 hu2 hs2 ((Upd.of_below hb3).set3 (fun _ => ⟨by omega, by omega⟩) _ _ _)
      · have Hf2 := Lib.hid (show sealC R c ad p = (A', Ci.zero, 0, e) by rw [Hf.out]; simp [he])
        have he1 : (e != 0) = true := by simp [he]
        clear Hf hcd he
        go_wp2_with fail
        have hfin := heap_set3 (v0 := .int .i64 0) (v1 := .bool false) (v2 := .int .u64 0) Hk1.out
        refine bodyPost_ret (v := .tuple #[Ci.zero.val, .int .i64 0, .int .i64 e]) (by simp [results, Tryz.results126, go_sem, Ci.val, Ci.zero, cell_of_heap hfin]) rfl ⟨by rw [Hf2.out], ?_⟩
        rw [Hf2.out]
        exact left_chain hbw Hlt.out hr2 hu2 hs2 ((Upd.refl _ _).set3 (fun _ => ⟨by omega, by omega⟩) _ _ _)
  · have Hf := Lib.hid (show sealC R c ad p = (R, Ci.zero, 0, mayC R.l c [ad, p]) by simp [sealC, hm])
    generalize mayC R.l c [ad, p] = e at *
    have he1 : (e != 0) = true := by simp [hm]
    clear hm
    go_wp2_with fail
    have hfin := heap_set3 (v0 := .int .i64 0) (v1 := .bool false) (v2 := .int .u64 0) Hk1.out
    refine bodyPost_ret (v := .tuple #[Ci.zero.val, .int .i64 0, .int .i64 e]) (by simp [results, Tryz.results126, go_sem, Ci.val, Ci.zero, cell_of_heap hfin]) rfl ⟨by rw [Hf.out], ?_⟩
    rw [Hf.out]
    exact Left.of_below Hr.out (below_set3 hbw (by omega) _ _ _)

set_option maxHeartbeats 3200000 in
set_option maxRecDepth 100000 in
theorem cOpen_calls {S : Nat → Prop} {r : Nat} {R : Ar} {c : Ci} {ad p : Int} {w : World} (hr : IsArena w r R S) (hc0 : 0 ≤ c.n) (hc1 : c.n ≤ 18446744073709551615) :
    Calls Tryz.prog 128 #[c.val, .pointer (some ⟨r, 0, none⟩), .int .i64 ad, .int .i64 p] w (OpenPost R c ad p w) := by
  have Hr := Lib.hid hr
  have hv : c.val = .agg #[.int .i64 c.key, .bool c.has, .int .u64 c.n] := rfl
  clear hr
  rw [hv]
  have Hv := Lib.hid hv
  clear hv
  go_enter Tryz.func128, Tryz.ntmps128
  go_wp2_with fail
  refine (cMay_calls (c := c) (x := ad) (y := p) (Hr.out.below (below3 _ _ _ _)) (by go_simp) (by go_simp)).mono ?_
  rintro e w1 ⟨rfl, hb1⟩
  have hbw : Below w.heap.size w w1 := below_call (below3 _ _ _ _) hb1
  have hk0 : CiAt w1 w.heap.size c := (hb1.block w.heap.size (by simp; omega)).trans (new3 w _ _ _).1
  have hk1 : CiAt w1 (w.heap.size + 1) Ci.zero := (hb1.block (w.heap.size + 1) (by simp)).trans (new3 w _ _ _).2.1
  clear hb1
  obtain ⟨c0, c1, c2⟩ := hk0.cells
  obtain ⟨z0, z1, z2⟩ := hk1.cells
  have zf := fun o => frozen_of_heap (o := o) hk1
  have l0 := lt_of_heap hk0
  have l1 := lt_of_heap hk1
  have Hk0 := Lib.hid hk0
  have Hk1 := Lib.hid hk1
  clear hk0 hk1
  by_cases hm : mayC R.l c [ad, p] = 0
  · rw [hm]
    obtain ⟨m1, m2, m3⟩ := mayC_zero hm
    cases hc : c.has with
    | false =>
      rw [hc] at c1
      have Hf := Lib.hid (show openC R.l c ad p = (c, p, 0) by simp [openC, hm, hc])
      clear hm m1 m2 m3
      go_wp2_with fail
      have hfin := heap_set3 (v0 := .int .i64 c.key) (v1 := .bool false) (v2 := .int .u64 c.n) Hk1.out
      refine bodyPost_ret (v := .tuple #[c.val, .int .i64 p, .int .i64 0]) (by simp [results, Tryz.results128, go_sem, Ci.val, cell_of_heap hfin, hc]) rfl ⟨by rw [Hf.out], ?_⟩
      exact below_set3 hbw (by omega) _ _ _
    | true =>
      rw [hc] at c1
      have hne := (m3 hc).2
      have Hf := Lib.hid (show openC R.l c ad p = if getNd R.l p = ⟨7, c.n, c.key, ad, (getNd R.l p).c⟩ then (laterC c, (getNd R.l p).c, 0) else (Ci.zero, 0, 7) by simp [openC, hm, hc])
      clear hm m1 m2 m3
      go_wp2_with fail
      refine (get_calls p (Hr.out.below hbw)).mono ?_
      rintro e w2 ⟨rfl, hb2⟩
      have hbw2 := below_call hbw hb2
      have hk0 : CiAt w2 w.heap.size c := Hk0.out.below hb2
      have hk1 : CiAt w2 (w.heap.size + 1) Ci.zero := Hk1.out.below hb2
      clear c0 c1 c2 z0 z1 z2 zf l0 l1 Hk0 Hk1 hb2
      obtain ⟨c0, c1, c2⟩ := hk0.cells
      obtain ⟨z0, z1, z2⟩ := hk1.cells
      rw [hc] at c1
      have zf := fun o => frozen_of_heap (o := o) hk1
      have l0 := lt_of_heap hk0
      have l1 := lt_of_heap hk1
      have Hk1 := Lib.hid hk1
      have Hk0 := Lib.hid hk0
      clear hk0 hk1
      generalize getNd R.l p = n at *
      by_cases heq : n = ⟨7, c.n, c.key, ad, n.c⟩
      · have Hf2 := Lib.hid (show openC R.l c ad p = (laterC c, n.c, 0) by rw [Hf.out, if_pos heq])
        clear Hf
        obtain ⟨nk, nn, na, nb, nc⟩ := n
        simp only [Nd.mk.injEq, and_true] at heq
        obtain ⟨rfl, rfl, rfl, rfl⟩ := heq
        simp only [Nd.val]
        simp only at Hf2
        go_wp2_with fail
        have hzn : w2.heap.size ≠ w.heap.size + 1 := by omega
        have hzn' : w.heap.size + 1 ≠ w2.heap.size := by omega
        have hzl : w.heap.size + 1 < w2.heap.size + 2 := by omega
        have hzl0 : w.heap.size < w2.heap.size + 2 := by omega
        have hcv : c.val = .agg #[.int .i64 c.key, .bool true, .int .u64 c.n] := by rw [← hc]; rfl
        have Hcv := Lib.hid hcv
        clear hcv
        go_region_held3 (fun w' => w'.cell? ⟨w.heap.size, 0, none⟩ = some (.int .i64 c.key) ∧ w'.cell? ⟨w.heap.size, 1, none⟩ = some (.bool true) ∧ w'.cell? ⟨w.heap.size, 2, none⟩ = some (.int .u64 c.n) ∧ w'.cell? ⟨w2.heap.size, 4, none⟩ = some (.int .i64 nc))
          (first | go_keep)
          (first | (go_at_call 176; rw [← Hcv.out]; refine (cLater_calls c _ hc0 (by omega)).mono ?_; rintro e w3 ⟨rfl, hb3⟩
                    have hbx : Below w2.heap.size w2 w3 := below_call ((below2 w2 _ _).drew) hb3
                    have hq := (hb3.cell (p := ⟨w2.heap.size, 4, none⟩) (by simp; omega)).trans (cell_of_heap (o := 4) (two_new w2 _ _).1)
                    obtain ⟨d0, d1, d2⟩ := (Hk0.out.below hbx).cells
                    rw [hc] at d1
                    obtain ⟨y0, y1, y2⟩ := (Hk1.out.below hbx).cells
                    have yf := fun o => frozen_of_heap (o := o) (Hk1.out.below hbx)
                    have ly := lt_of_heap (Hk1.out.below hbx)
                    simp only [Ci.val, laterC, hc]))
        go_wp2_with fail
        have hfin := heap_set3 (v0 := .int .i64 c.key) (v1 := .bool true) (v2 := .int .u64 (c.n + 1)) (Hk1.out.below hbx)
        refine bodyPost_ret (v := .tuple #[(laterC c).val, .int .i64 nc, .int .i64 0]) (by simp [results, Tryz.results128, go_sem, Ci.val, laterC, cell_of_heap hfin, hc]) rfl ⟨by rw [Hf2.out], ?_⟩
        exact below_set3 (below_call hbw2 hbx) (by omega) _ _ _
      · have Hf2 := Lib.hid (show openC R.l c ad p = (Ci.zero, 0, 7) by rw [Hf.out, if_neg heq])
        clear Hf
        have Heq := Lib.hid heq
        clear heq
        simp only [Nd.val]
        go_wp2_with fail
        all_goals first
          | (exfalso; apply Heq.out; obtain ⟨nk, nn, na, nb, nc⟩ := n; simp_all; done)
          | (have hfin : ∀ (o1 o2 : Obj) (j : Nat), ((((((w2.setCell ⟨w.heap.size + 1, 0, none⟩ (.int .i64 0)).setCell ⟨w.heap.size + 1, 1, none⟩ (.bool false)).setCell ⟨w.heap.size + 1, 2, none⟩ (.int .u64 0)).alloc o1).alloc o2)).cell? ⟨w.heap.size + 1, j, none⟩ = (#[Value.int .i64 0, .bool false, .int .u64 0])[j]? := fun o1 o2 j => cell_of_heap (old_at (old_at (heap_set3 Hk1.out)))
             refine bodyPost_ret (v := .tuple #[Ci.zero.val, .int .i64 0, .int .i64 7]) (by simp [results, Tryz.results128, go_sem, Ci.val, Ci.zero, hfin]) rfl ⟨by rw [Hf2.out], ?_⟩
             exact ((below_set3 hbw2 (by omega) _ _ _).alloc (by have := hbw2.size; simp [World.setCell]; omega) _).alloc (by have := hbw2.size; simp [World.setCell]; omega) _)
  · have Hf := Lib.hid (show openC R.l c ad p = (Ci.zero, 0, mayC R.l c [ad, p]) by simp [openC, hm])
    generalize mayC R.l c [ad, p] = e at *
    have he1 : (e != 0) = true := by simp [hm]
    clear hm
    go_wp2_with fail
    have hfin := heap_set3 (v0 := .int .i64 0) (v1 := .bool false) (v2 := .int .u64 0) Hk1.out
    refine bodyPost_ret (v := .tuple #[Ci.zero.val, .int .i64 0, .int .i64 e]) (by simp [results, Tryz.results128, go_sem, Ci.val, Ci.zero, cell_of_heap hfin]) rfl ⟨by rw [Hf.out], ?_⟩
    exact below_set3 hbw (by omega) _ _ _

end Go.Proofs.YtikimmgileffgaaGreatDoor
end
/- The calls of layer 13 behind a handshake: Seal, Open, Rekey, Turned. -/
section
namespace Go.Proofs.YtikimmgileffgaaGreatDoor
open Go.RowKit

structure Tr where
  send : Ci
  recv : Ci
  deriving DecidableEq, Inhabited
def Tr.val (t : Tr) : Value := .agg #[.int .i64 t.send.key, .bool t.send.has, .int .u64 t.send.n, .int .i64 t.recv.key, .bool t.recv.has, .int .u64 t.recv.n]
def Tr.zero : Tr := ⟨Ci.zero, Ci.zero⟩
def TrAt (w : World) (b : Nat) (t : Tr) : Prop := w.heap[b]? = some (.cells #[.int .i64 t.send.key, .bool t.send.has, .int .u64 t.send.n, .int .i64 t.recv.key, .bool t.recv.has, .int .u64 t.recv.n] 26 (0, 0))
theorem TrAt.cells {w : World} {b : Nat} {t : Tr} (h : TrAt w b t) : w.cell? ⟨b, 0, none⟩ = some (.int .i64 t.send.key) ∧ w.cell? ⟨b, 1, none⟩ = some (.bool t.send.has) ∧ w.cell? ⟨b, 2, none⟩ = some (.int .u64 t.send.n) ∧ w.cell? ⟨b, 3, none⟩ = some (.int .i64 t.recv.key) ∧ w.cell? ⟨b, 4, none⟩ = some (.bool t.recv.has) ∧ w.cell? ⟨b, 5, none⟩ = some (.int .u64 t.recv.n) := ⟨cell_of_heap h, cell_of_heap h, cell_of_heap h, cell_of_heap h, cell_of_heap h, cell_of_heap h⟩
end Go.Proofs.YtikimmgileffgaaGreatDoor
end
/- The calls of layers 10 and 13, on what a law has made. -/
section
namespace Go.Proofs.YtikimmgileffgaaGreatDoor
open Go.RowKit

end Go.Proofs.YtikimmgileffgaaGreatDoor
end
/- Layers 1 and 10 by equations; layer 11 as plain data: what a handshake mixes. -/
section
namespace Go.Proofs.YtikimmgileffgaaGreatDoor
open Go.RowKit

theorem mkE {w0 w : World} {M : List Thing} {r : Nat} {A A' : Ar} {y e k n a b c : Int} (h : Own w0 w M) (i : Nat) (hi : M[i]? = some (arena r A)) (h0 : 0 ≤ n) (h1 : n ≤ 18446744073709551615) (hm : mk A ⟨k, n, a, b, c⟩ = (A', y, e)) :
    Calls Tryz.prog 43 #[.pointer (some ⟨r, 0, none⟩), .agg #[.int .i64 k, .int .u64 n, .int .i64 a, .int .i64 b, .int .i64 c]] w fun e' w' => e' = .returned (.tuple #[.int .i64 y, .int .i64 e]) ∧ Own w0 w' (M.set i (arena r A')) := by
  have := mk_own h i hi ⟨k, n, a, b, c⟩ h0 h1
  rw [hm] at this; exact this
theorem getE {w0 w : World} {M : List Thing} {r : Nat} {A : Ar} (h : Own w0 w M) (i : Nat) (hi : M[i]? = some (arena r A)) (x : Int) {k n a b c : Int} {is : Bool} (hg : getNd A.l x = ⟨k, n, a, b, c⟩) (hh : has A.l x = is) :
    Calls Tryz.prog 71 #[.pointer (some ⟨r, 0, none⟩), .int .i64 x] w fun e w' => e = .returned (.tuple #[.agg #[.int .i64 k, .int .u64 n, .int .i64 a, .int .i64 b, .int .i64 c], .bool is]) ∧ Own w0 w' M := by
  have := get_own h i hi x
  rw [hg, hh] at this; exact this
theorem hasE {w0 w : World} {M : List Thing} {r : Nat} {A : Ar} {xs : List Int} {b : Nat} {t : TypeId} {c : Nat} {is : Bool} (h : Own w0 w M) (i j : Nat) (hi : M[i]? = some (arena r A)) (hj : M[j]? = some (blk b (.cells (intsV xs).toArray t))) (hm : xs.length ≤ 9223372036854775807) (hh : (xs.all fun x => has A.l x) = is) :
    Calls Tryz.prog 59 #[.pointer (some ⟨r, 0, none⟩), .slice (some ⟨b, 0, none⟩) xs.length c] w fun e w' => e = .returned (.bool is) ∧ Own w0 w' M := by
  obtain ⟨S, hr⟩ := h.arena hi
  refine (has_calls c hr (.inr ⟨b, 0, rfl, fun k v hk => ?_⟩) hm).mono ?_
  · rw [Nat.zero_add, cell_of_heap (h.blk hj), List.getElem?_toArray]; exact hk
  · rintro e w' ⟨rfl, hb⟩
    refine ⟨?_, h.call hb⟩
    rw [← hh]
    have : hasAll A.l.length xs = xs.all fun x => has A.l x := by
      unfold hasAll has
      rw [Bool.eq_iff_iff]; simp
    rw [this]
theorem sealE {w0 w : World} {M : List Thing} {r : Nat} {A A' : Ar} {k : Int} {b : Bool} {n ad p : Int} {c' : Ci} {x e : Int} (h : Own w0 w M) (i : Nat) (hi : M[i]? = some (arena r A)) (h0 : 0 ≤ n) (h1 : n ≤ 18446744073709551615) (hm : sealC A ⟨k, b, n⟩ ad p = (A', c', x, e)) :
    Calls Tryz.prog 126 #[.agg #[.int .i64 k, .bool b, .int .u64 n], .pointer (some ⟨r, 0, none⟩), .int .i64 ad, .int .i64 p] w fun e' w' => e' = .returned (.tuple #[.agg #[.int .i64 c'.key, .bool c'.has, .int .u64 c'.n], .int .i64 x, .int .i64 e]) ∧ Own w0 w' (M.set i (arena r A')) := by
  obtain ⟨S, hr, hk⟩ := h.left hi
  refine (cSeal_calls (c := ⟨k, b, n⟩) (ad := ad) (p := p) hr h0 h1).mono ?_
  rintro e' w' ⟨he, hl⟩
  rw [hm] at he hl
  exact ⟨he, hk _ _ hl⟩
theorem openE {w0 w : World} {M : List Thing} {r : Nat} {A : Ar} {k : Int} {b : Bool} {n ad p : Int} {c' : Ci} {x e : Int} (h : Own w0 w M) (i : Nat) (hi : M[i]? = some (arena r A)) (h0 : 0 ≤ n) (h1 : n ≤ 18446744073709551615) (hm : openC A.l ⟨k, b, n⟩ ad p = (c', x, e)) :
    Calls Tryz.prog 128 #[.agg #[.int .i64 k, .bool b, .int .u64 n], .pointer (some ⟨r, 0, none⟩), .int .i64 ad, .int .i64 p] w fun e' w' => e' = .returned (.tuple #[.agg #[.int .i64 c'.key, .bool c'.has, .int .u64 c'.n], .int .i64 x, .int .i64 e]) ∧ Own w0 w' M := by
  obtain ⟨S, hr⟩ := h.arena hi
  refine (cOpen_calls (c := ⟨k, b, n⟩) (ad := ad) (p := p) hr h0 h1).mono ?_
  rintro e' w' ⟨he, hl⟩
  rw [hm] at he
  exact ⟨he, h.call hl⟩
theorem cNewE {w0 w : World} {M : List Thing} (h : Own w0 w M) (k : Int) : Calls Tryz.prog 66 #[.int .i64 k] w fun e w' => e = .returned (.agg #[.int .i64 k, .bool true, .int .u64 0]) ∧ Own w0 w' M :=
  (cNew_calls k w).mono fun _ _ ⟨he, hb⟩ => ⟨he, h.call hb⟩
theorem sealC_n {A : Ar} {c : Ci} {ad p : Int} (h0 : 0 ≤ c.n) (h1 : c.n ≤ 18446744073709551615) : 0 ≤ (sealC A c ad p).2.1.n ∧ (sealC A c ad p).2.1.n ≤ 18446744073709551615 := by
  unfold sealC
  split
  · simp [Ci.zero]
  · rename_i hm
    have hm : mayC A.l c [ad, p] = 0 := by simpa using hm
    split
    · exact ⟨h0, h1⟩
    · rename_i hh
      have := mayC_zero hm
      dsimp only
      split
      · simp [Ci.zero]
      · have h2 := (this.2.2 (by simpa using hh)).2
        simp only [laterC]; omega
theorem openC_n {l : List Nd} {c : Ci} {ad p : Int} (h0 : 0 ≤ c.n) (h1 : c.n ≤ 18446744073709551615) : 0 ≤ (openC l c ad p).1.n ∧ (openC l c ad p).1.n ≤ 18446744073709551615 := by
  unfold openC
  split
  · simp [Ci.zero]
  · rename_i hm
    have hm : mayC l c [ad, p] = 0 := by simpa using hm
    split
    · exact ⟨h0, h1⟩
    · rename_i hh
      have := mayC_zero hm
      split
      · have h2 := (this.2.2 (by simpa using hh)).2
        simp only [laterC]; omega
      · simp [Ci.zero]

theorem strO_at {l : List UInt8} {k : Nat} {c : UInt8} (h : l[k]? = some c) : (strO l)[k]? = some c := by
  have hk := (List.getElem?_eq_some_iff.1 h).1
  have hs : k < (strO l).size := hk
  rw [getElem?_pos (strO l) k hs]
  have := (List.getElem?_eq_some_iff.1 h).2
  rw [← this]; rfl
theorem drop_at {α : Type} {l : List α} {k : Nat} {c : α} (h : l[k]? = some c) : l.drop k = c :: l.drop (k + 1) := by
  obtain ⟨hk, e⟩ := List.getElem?_eq_some_iff.1 h
  rw [List.drop_eq_getElem_cons hk, e]
theorem u8_u64 (c : UInt8) : IntKind.u64.wrap (c.toNat : Int) = (c.toNat : Int) := u64_id (by omega) (by have := c.toNat_lt; omega)
abbrev U64 (n : Int) : Prop := 0 ≤ n ∧ n ≤ 18446744073709551615
theorem sealEk {w0 w : World} {M : List Thing} {r : Nat} {A A' : Ar} {k : Int} {b : Bool} {n ad p : Int} {c' : Ci} {x e : Int} (h : Own w0 w M) (i : Nat) (hi : M[i]? = some (arena r A)) (hn : U64 n) (hm : sealC A ⟨k, b, n⟩ ad p = (A', c', x, e)) :
    Calls Tryz.prog 126 #[.agg #[.int .i64 k, .bool b, .int .u64 n], .pointer (some ⟨r, 0, none⟩), .int .i64 ad, .int .i64 p] w fun e' w' => e' = .returned (.tuple #[.agg #[.int .i64 c'.key, .bool c'.has, .int .u64 c'.n], .int .i64 x, .int .i64 e]) ∧ Own w0 w' (M.set i (arena r A')) := sealE h i hi hn.1 hn.2 hm
theorem openEk {w0 w : World} {M : List Thing} {r : Nat} {A : Ar} {k : Int} {b : Bool} {n ad p : Int} {c' : Ci} {x e : Int} (h : Own w0 w M) (i : Nat) (hi : M[i]? = some (arena r A)) (hn : U64 n) (hm : openC A.l ⟨k, b, n⟩ ad p = (c', x, e)) :
    Calls Tryz.prog 128 #[.agg #[.int .i64 k, .bool b, .int .u64 n], .pointer (some ⟨r, 0, none⟩), .int .i64 ad, .int .i64 p] w fun e' w' => e' = .returned (.tuple #[.agg #[.int .i64 c'.key, .bool c'.has, .int .u64 c'.n], .int .i64 x, .int .i64 e]) ∧ Own w0 w' M := openE h i hi hn.1 hn.2 hm
theorem sealC_nk {A : Ar} {c : Ci} {ad p : Int} (h : U64 c.n) : U64 (sealC A c ad p).2.1.n := sealC_n h.1 h.2
theorem openC_nk {l : List Nd} {c : Ci} {ad p : Int} (h : U64 c.n) : U64 (openC l c ad p).1.n := openC_n h.1 h.2
/-- A chaining key, a hash, and a cipher. -/
structure Sy where
  ck : Int
  h : Int
  c : Ci
  deriving DecidableEq, Inhabited
def Sy.zero : Sy := ⟨0, 0, Ci.zero⟩
def keys2 (A : Ar) (ck x : Int) : Ar × Int × Int × Int :=
  let m := mk A ⟨6, 1, ck, x, 0⟩
  if m.2.2 ≠ 0 then (m.1, 0, 0, m.2.2) else
  let m2 := mk m.1 ⟨6, 2, ck, x, 0⟩
  if m2.2.2 ≠ 0 then (m2.1, 0, 0, m2.2.2) else (m2.1, m.2.1, m2.2.1, 0)
def keys3 (A : Ar) (ck x : Int) : Ar × Int × Int × Int × Int :=
  let m := mk A ⟨6, 1, ck, x, 0⟩
  if m.2.2 ≠ 0 then (m.1, 0, 0, 0, m.2.2) else
  let m2 := mk m.1 ⟨6, 2, ck, x, 0⟩
  if m2.2.2 ≠ 0 then (m2.1, 0, 0, 0, m2.2.2) else
  let m3 := mk m2.1 ⟨6, 3, ck, x, 0⟩
  if m3.2.2 ≠ 0 then (m3.1, 0, 0, 0, m3.2.2) else (m3.1, m.2.1, m2.2.1, m3.2.1, 0)
def nameS : List UInt8 → Ar → Int → Ar × Int × Int
  | [], A, t => (A, t, 0)
  | c :: l, A, t =>
    let m := mk A ⟨9, c.toNat, 0, 0, 0⟩
    if m.2.2 ≠ 0 then (m.1, 0, m.2.2) else
    let m2 := mk m.1 ⟨8, 0, t, m.2.1, 0⟩
    if m2.2.2 ≠ 0 then (m2.1, 0, m2.2.2) else nameS l m2.1 m2.2.1
def mixHashS (A : Ar) (s : Sy) (x : Int) : Ar × Sy × Int :=
  let m := mk A ⟨5, 0, s.h, x, 0⟩
  if m.2.2 ≠ 0 then (m.1, Sy.zero, m.2.2) else (m.1, ⟨s.ck, m.2.1, s.c⟩, 0)
def beginS (A : Ar) (name : List UInt8) (prologue : Int) : Ar × Sy × Int :=
  if 100 < name.length ∨ has A.l prologue = false then (A, Sy.zero, 1) else
  let m := nameS name A 0
  if m.2.2 ≠ 0 then (m.1, Sy.zero, m.2.2) else mixHashS m.1 ⟨m.2.1, m.2.1, Ci.zero⟩ prologue
def mixKeyS (A : Ar) (s : Sy) (x : Int) : Ar × Sy × Int :=
  let k := keys2 A s.ck x
  if k.2.2.2 ≠ 0 then (k.1, Sy.zero, k.2.2.2) else (k.1, ⟨k.2.1, s.h, ⟨k.2.2.1, true, 0⟩⟩, 0)
def mixBothS (A : Ar) (s : Sy) (x : Int) : Ar × Sy × Int :=
  let k := keys3 A s.ck x
  if k.2.2.2.2 ≠ 0 then (k.1, Sy.zero, k.2.2.2.2) else mixHashS k.1 ⟨k.2.1, s.h, ⟨k.2.2.2.1, true, 0⟩⟩ k.2.2.1
def doneS (A : Ar) (s : Sy) (c : Ci) (sealed told : Int) : Ar × Sy × Int × Int :=
  let m := mixHashS A ⟨s.ck, s.h, c⟩ sealed
  if m.2.2 ≠ 0 then (m.1, Sy.zero, 0, m.2.2) else (m.1, m.2.1, told, 0)
def sealS (A : Ar) (s : Sy) (p : Int) : Ar × Sy × Int × Int :=
  let m := sealC A s.c s.h p
  if m.2.2.2 ≠ 0 then (m.1, Sy.zero, 0, m.2.2.2) else doneS m.1 s m.2.1 m.2.2.1 m.2.2.1
def openS (A : Ar) (s : Sy) (x : Int) : Ar × Sy × Int × Int :=
  let m := openC A.l s.c s.h x
  if m.2.2 ≠ 0 then (A, Sy.zero, 0, m.2.2) else doneS A s m.1 x m.2.1
def splitY (A : Ar) (s : Sy) : Ar × Ci × Ci × Int :=
  let k := keys2 A s.ck 0
  if k.2.2.2 ≠ 0 then (k.1, Ci.zero, Ci.zero, k.2.2.2) else (k.1, ⟨k.2.1, true, 0⟩, ⟨k.2.2.1, true, 0⟩, 0)
def Sy.ok (s : Sy) : Prop := 0 ≤ s.c.n ∧ s.c.n ≤ 18446744073709551615
theorem Sy.ok_zero : Sy.zero.ok := by constructor <;> decide
theorem mixHashS_ok {A : Ar} {s : Sy} {x : Int} (h : s.ok) : (mixHashS A s x).2.1.ok := by
  unfold mixHashS; dsimp only; split
  · exact Sy.ok_zero
  · exact h
theorem mixKeyS_ok {A : Ar} {s : Sy} {x : Int} : (mixKeyS A s x).2.1.ok := by
  unfold mixKeyS; dsimp only; split
  · exact Sy.ok_zero
  · constructor <;> simp
theorem mixBothS_ok {A : Ar} {s : Sy} {x : Int} : (mixBothS A s x).2.1.ok := by
  unfold mixBothS; dsimp only; split
  · exact Sy.ok_zero
  · exact mixHashS_ok (by constructor <;> simp)
theorem doneS_ok {A : Ar} {s : Sy} {c : Ci} {x y : Int} (h : 0 ≤ c.n ∧ c.n ≤ 18446744073709551615) : (doneS A s c x y).2.1.ok := by
  unfold doneS; dsimp only; split
  · exact Sy.ok_zero
  · exact mixHashS_ok h
theorem sealS_ok {A : Ar} {s : Sy} {x : Int} (h : s.ok) : (sealS A s x).2.1.ok := by
  unfold sealS; dsimp only; split
  · exact Sy.ok_zero
  · exact doneS_ok (sealC_n h.1 h.2)
theorem openS_ok {A : Ar} {s : Sy} {x : Int} (h : s.ok) : (openS A s x).2.1.ok := by
  unfold openS; dsimp only; split
  · exact Sy.ok_zero
  · exact doneS_ok (openC_n h.1 h.2)
end Go.Proofs.YtikimmgileffgaaGreatDoor
end
/- The rules of patterns (layer 7): messages, Check. Printed by s_valid2.py. -/
section
namespace Go.Proofs.YtikimmgileffgaaGreatDoor
open Go.RowKit
set_option warningAsError false in
set_option maxRecDepth 100000 in
set_option maxHeartbeats 2000000 in
theorem messageE {w0 w : World} {M : List Thing} {b : Nat} {f f' : Nat → Bool} {who e : Int} {ts : List Int} {A : Option Addr} {c : Nat} (O : Own w0 w M) (i : Nat) (hi : M[i]? = some (blk b (vObj f))) (hh : Holds w0 A (intsV ts)) (hw : who = 0 ∨ who = 1) (hts : ∀ t ∈ ts, 1 ≤ t ∧ t ≤ 7) (hl : ts.length ≤ 1000) (hf : msgV who.toNat ts f = (e, f')) :
    Calls Tryz.prog 152 #[.pointer (some ⟨b, 0, none⟩), .agg #[.int .i64 who, .slice A ts.length c]] w fun e' w' => e' = .returned (.int .i64 e) ∧ Own w0 w' (M.set i (blk b (vObj f'))) := by
 obtain ⟨T, _, O0, back⟩ := O.focD hi
 replace O0 : Own _ _ (List.map Ent.t (.blk b (.cells #[.bool (f 0), .bool (f 1), .bool (f 2), .bool (f 3), .bool (f 4), .bool (f 5), .bool (f 6), .bool (f 7), .bool (f 8), .bool (f 9), .bool (f 10), .bool (f 11), .bool (f 12), .bool (f 13), .bool (f 14), .bool (f 15)] 256) :: T)) := O0
 refine gent O0 Tryz.func152 ?_
 refine sg1 [.n [], .p 2, .a (.r 0), .p 2] O0 fun b1 w2 O3 => ?_
 refine gl (fun (zz : Nat × (Nat → Bool)) => match zz with | (k, f2) => [(0, .pointer (some ⟨b, 0, none⟩)), (3, .pointer (some ⟨b1, 0, none⟩)), (4, .int .i64 0), (9, .slice A ts.length c), (10, .int .i64 (ts.length : Int)), (11, .int .i64 (k : Int))]) (fun (zz : Nat × (Nat → Bool)) => match zz with | (k, f2) => (.blk b1 (.cells #[.int .i64 who, .slice A ts.length c] 61) :: .blk b (.cells #[.bool (f2 0), .bool (f2 1), .bool (f2 2), .bool (f2 3), .bool (f2 4), .bool (f2 5), .bool (f2 6), .bool (f2 7), .bool (f2 8), .bool (f2 9), .bool (f2 10), .bool (f2 11), .bool (f2 12), .bool (f2 13), .bool (f2 14), .bool (f2 15)] 256) :: T)) (fun (zz : Nat × (Nat → Bool)) w => match zz with | (k, f2) => k ≤ ts.length ∧ msgV who.toNat (ts.drop k) f2 = msgV who.toNat ts f) (fun (zz : Nat × (Nat → Bool)) => match zz with | (k, f2) => ts.length - k) (0, f) (O3.as 0) ⟨(Nat.zero_le _), rfl⟩ ?_
 rintro M6 ⟨k, f2⟩ w4 hM7 O5 ⟨hk, hq⟩
 rcases Bool.eq_false_or_eq_true (decide ((k : Int) < (ts.length : Int))) with h8 | h8
 · have h8p : ((k : Int) < (ts.length : Int)) := by simpa only [decide_eq_true_eq, decide_eq_false_iff_not] using h8
   have hk : k + 1 ≤ ts.length := by have := h8p; omega
   obtain ⟨t, ht⟩ : ∃ t, ts[k]? = some t := ⟨_, List.getElem?_eq_getElem hk⟩
   obtain ⟨qb, q, hA, hcell⟩ := holdsI_at hh ht
   have htk := hts t (List.mem_of_getElem? ht)
   have hdrop := drop_at ht
   refine sg0 [.a (bT h8), .p 1, .a (.i _ qb q ts.length k hA hk)] O5 fun w9 O10 => ?_
   refine gx [.cell qb (q + k * 1) (.int .i64 t)] O10 ⟨(hcell _ O10.below), trivial⟩ fun O11 => ?_
   refine sg0 [.a (.r 0), .p 3, .a (.r 1), .p 1] O11 fun w12 O13 => ?_
   obtain ⟨e14, f15, hm16⟩ : ∃ e14 f15, tokV f2 who.toNat t.toNat = (e14, f15) := ⟨_, _, rfl⟩
   refine gSb (args := #[.pointer (some ⟨b, 0, none⟩), .int .i64 who, .int .i64 t]) (tokenE O13 1 (by kernel_rfl) hw htk hm16) fun w17 O18 => ?_
   refine sg0 [.p 2] O18 fun w20 O21 => ?_
   rcases Bool.eq_false_or_eq_true (decide (e14 > 0)) with h22 | h22
   · have h22p : (0 < e14) := by simpa only [decide_eq_true_eq, decide_eq_false_iff_not] using h22
     refine sg0 [.a (bT h22), .p 3] O21 fun w23 O24 => ?_
     simp [← hq, hdrop, msgV, hm16, h22p] at hf
     obtain ⟨rfl, rfl⟩ := hf
     exact gret [] O24 (⟨rfl, back 1 O24⟩)
   · have h22p : ¬ (0 < e14) := by simpa only [decide_eq_true_eq, decide_eq_false_iff_not] using h22
     refine sg0 [.a (bT h22), .p 1, .a (iW ((k : Int) + 1)), .p 1] O21 fun w25 O26 => ?_
     exact gz _ fun a F => hM7 a _ (k + 1, f15) F (O26.as 0) ⟨hk, (by rw [← hq, hdrop]; simp [msgV, hm16, h22p])⟩ (show ts.length - (k + 1) < ts.length - k by omega)
 · have h8p : ¬ ((k : Int) < (ts.length : Int)) := by simpa only [decide_eq_true_eq, decide_eq_false_iff_not] using h8
   have hq2 : msgV who.toNat ts f = (if f2 15 then forbV f2 who.toNat else 0, f2) := by rw [← hq, List.drop_eq_nil_of_le (by have := h8p; omega)]; rfl
   refine sg0 [.a (bT h8), .p 4] O5 fun w27 O28 => ?_
   rcases Bool.eq_false_or_eq_true (f2 15) with h29 | h29
   · refine sg0 [.a (bR 1 h29), .p 4, .a (.r 0)] O28 fun w30 O31 => ?_
     refine gU (args := #[.pointer (some ⟨b, 0, none⟩), .int .i64 who]) (sealingE (f := f2) O31 1 (by kernel_rfl) hw) fun w32 O33 => ?_
     refine sg0 [.p 1] O33 fun w35 O36 => ?_
     simp [hq2, h29] at hf
     obtain ⟨rfl, rfl⟩ := hf
     exact gret [] O36 (⟨rfl, back 1 O36⟩)
   · refine sg0 [.a (bR 1 h29), .p 3] O28 fun w37 O38 => ?_
     simp [hq2, h29] at hf
     obtain ⟨rfl, rfl⟩ := hf
     exact gret [] O38 (⟨rfl, back 1 O38⟩)
end Go.Proofs.YtikimmgileffgaaGreatDoor
end
/- Patterns in memory, by what an index gives; slices.Contains (layers 5, 7). -/
section
namespace Go.Proofs.YtikimmgileffgaaGreatDoor
open Go.RowKit

abbrev pvx (A0 : Option Addr) (c0 : Nat) (A1 : Option Addr) (c1 : Nat) (A : Option Addr) (c : Nat) (p : Pat) : PatV := ⟨.slice A0 p.pre0.length c0, .slice A1 p.pre1.length c1, A, c⟩
theorem holds_stay {w w' : World} {A : Option Addr} {l : List Int} (h : Holds w A (intsV l)) (b : Below w.heap.size w w') : Holds w' A (intsV l) := h.below b
theorem msg_at {w : World} {A : Option Addr} {ms : List Msg} {k : Nat} {m : Msg} (h : MsgsIn w (Old w) A ms) (hk : ms[k]? = some m) :
    ∃ b q B d, A = some ⟨b, q, none⟩ ∧ Holds w B (intsV m.t) ∧ ∀ w', Below w.heap.size w w' → w'.cell? ⟨b, q + k * 2, none⟩ = some (.int .i64 m.frm) ∧ w'.cell? ⟨b, q + k * 2 + 1, none⟩ = some (.slice B m.t.length d) := by
  obtain ⟨b, q, B, d, hA, x0, x1, hh⟩ := h.at hk
  refine ⟨b, q, B, d, hA, hh, fun w' hb => ⟨?_, ?_⟩⟩
  · exact (hb.cell (World.block_lt_of_cell? w _ x0)).trans x0
  · exact (hb.cell (World.block_lt_of_cell? w _ x1)).trans x1
theorem containsE {w0 w : World} {M : List Thing} {A : Option Addr} {l : List Int} {c : Nat} {x : Int} {is : Bool} (O : Own w0 w M) (hh : Holds w0 A (intsV l)) (hl : l.length ≤ 9223372036854775807) (hm : decide (x ∈ l) = is) :
    Calls Tryz.prog 113 #[.slice A l.length c, .int .i64 x] w fun e w' => e = .returned (.bool is) ∧ Own w0 w' M := by
  have h1 := holds_stay hh O.below
  rcases h1 with h1 | ⟨b, q, rfl, h1⟩
  · have : l = [] := by simpa [intsV] using h1
    subst this
    refine (Sh.slices_Contains_int_empty A c x w).mono ?_
    rintro e w' ⟨rfl, rfl⟩
    exact ⟨by rw [← hm]; simp, O⟩
  · refine (Sh.slices_Contains_int b q l.length c l x w (Nat.le_refl _) hl (fun j hj => h1 j _ (by simp [intsV, hj]))).mono ?_
    rintro e w' ⟨rfl, rfl⟩
    exact ⟨by rw [← hm, List.take_length]; simp, O⟩
theorem rightE {w0 w : World} {M : List Thing} {A0 A1 A : Option Addr} {c0 c1 c : Nat} {p : Pat} {is : Bool} (O : Own w0 w M) (hp : PatIn w0 (Old w0) (pvx A0 c0 A1 c1 A c p) p) (hf : PatFits p) (hm : rightP p = is) :
    Calls Tryz.prog 116 #[.agg #[.string (strO p.name), .slice A0 p.pre0.length c0, .slice A1 p.pre1.length c1, .slice A p.msgs.length c]] w fun e w' => e = .returned (.bool is) ∧ Own w0 w' M := by
  refine (right5_calls (hp.below O.below) hf).mono ?_
  rintro e w' ⟨rfl, hb⟩
  exact ⟨by rw [hm], O.call hb⟩
theorem right_facts {p : Pat} (h : rightP p = true) : namedB p.name = true ∧ toldB p.pre0 = true ∧ toldB p.pre1 = true ∧ 1 ≤ p.msgs.length ∧ p.msgs.length ≤ 6 ∧ ∀ m ∈ p.msgs, (m.frm = 0 ∨ m.frm = 1) ∧ 1 ≤ m.t.length ∧ m.t.length ≤ 12 ∧ ∀ t ∈ m.t, 1 ≤ t ∧ t ≤ 7 := by
  simp only [rightP, Bool.and_eq_true, decide_eq_true_eq, Bool.not_eq_true', List.any_eq_false] at h
  obtain ⟨⟨⟨⟨⟨h1, h2⟩, h3⟩, h4⟩, h5⟩, h6⟩ := h
  refine ⟨h1, h2, h3, h4, h5, fun m hm => ?_⟩
  have := h6 m hm
  simp only [wrongM, Bool.or_eq_true, decide_eq_true_eq, List.any_eq_true, not_or, Int.not_lt, Nat.not_lt, not_exists, not_and] at this
  obtain ⟨⟨⟨⟨a, b⟩, c⟩, d⟩, e⟩ := this
  refine ⟨by omega, c, d, fun t ht => ?_⟩
  have := e t ht
  simp only [noneT, Bool.or_eq_true, decide_eq_true_eq, not_or, Int.not_lt] at this
  omega
theorem told_facts {l : List Int} (h : toldB l = true) : ∀ t ∈ l, t = 1 ∨ t = 2 := by
  simp only [toldB, Bool.or_eq_true, decide_eq_true_eq] at h
  intro t ht
  rcases h with ((h | h) | h) | h <;> subst h <;> simp at ht <;> omega
/-- What was told beforehand is had. -/
def markV (who : Nat) : List Int → (Nat → Bool) → Nat → Bool
  | [], g => g
  | t :: l, g => markV who l (putV g (3 * who + t.toNat) true)
theorem beginV_eq {p : Pat} (h0 : toldB p.pre0 = true) (h1 : toldB p.pre1 = true) {g : Nat → Bool} (hg : g = markV 1 p.pre1 (markV 0 p.pre0 (fun _ => false))) : ∀ n, n < 16 → beginV p n = if n = 14 then modeP p else if n = 15 then modeP p && (g 1 || g 4) else g n := by
  subst hg
  intro n hn
  simp only [toldB, Bool.or_eq_true, decide_eq_true_eq] at h0 h1
  unfold beginV
  rcases h0 with ((h0 | h0) | h0) | h0 <;> rcases h1 with ((h1 | h1) | h1) | h1 <;> rw [h0, h1] <;>
    (match n, hn with
    | 0, _ => rfl
    | 1, _ => rfl
    | 2, _ => rfl
    | 3, _ => rfl
    | 4, _ => rfl
    | 5, _ => rfl
    | 6, _ => rfl
    | 7, _ => rfl
    | 8, _ => rfl
    | 9, _ => rfl
    | 10, _ => rfl
    | 11, _ => rfl
    | 12, _ => rfl
    | 13, _ => rfl
    | 14, _ => rfl
    | 15, _ => rfl
    | n + 16, h => exact absurd h (by omega))
end Go.Proofs.YtikimmgileffgaaGreatDoor
end
