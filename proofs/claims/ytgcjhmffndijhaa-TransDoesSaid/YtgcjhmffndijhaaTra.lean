/- The calls of layer 13 behind a handshake: Seal, Open, Rekey, Turned. -/
import Derived.Test.YtgcjhmffndijhaaCip2
namespace Go.Proofs.Ytgcjhmffndijhaa
open Go.RowKit

structure Tr where
  send : Ci
  recv : Ci
  deriving DecidableEq, Inhabited
def Tr.val (t : Tr) : Value := .agg #[.int .i64 t.send.key, .bool t.send.has, .int .u64 t.send.n, .int .i64 t.recv.key, .bool t.recv.has, .int .u64 t.recv.n]
def Tr.zero : Tr := ⟨Ci.zero, Ci.zero⟩
def Tr.turned (t : Tr) : Tr := ⟨t.recv, t.send⟩
def TrAt (w : World) (b : Nat) (t : Tr) : Prop := w.heap[b]? = some (.cells #[.int .i64 t.send.key, .bool t.send.has, .int .u64 t.send.n, .int .i64 t.recv.key, .bool t.recv.has, .int .u64 t.recv.n] 34 (0, 0))
/-- Seal of the ciphers. -/
def sealT (A : Ar) (t : Tr) (p : Int) : Ar × Tr × Int × Int :=
  let s := sealC A t.send 0 p
  if s.2.2.2 ≠ 0 then (s.1, Tr.zero, 0, s.2.2.2) else (s.1, ⟨s.2.1, t.recv⟩, s.2.2.1, 0)
def openT (l : List Nd) (t : Tr) (x : Int) : Tr × Int × Int :=
  let s := openC l t.recv 0 x
  if s.2.2 ≠ 0 then (Tr.zero, 0, s.2.2) else (⟨t.send, s.1⟩, s.2.1, 0)
def rekeyT (A : Ar) (t : Tr) (send : Bool) : Ar × Tr × Int :=
  let s := rekeyC A (if send then t.send else t.recv)
  if s.2.2 ≠ 0 then (s.1, Tr.zero, s.2.2) else (s.1, (if send then ⟨s.2.1, t.recv⟩ else ⟨t.send, s.2.1⟩), 0)

def TSealPost (R : Ar) (t : Tr) (p : Int) (S : Nat → Prop) (r : Nat) (w : World) (e : Ending) (w' : World) : Prop :=
  e = .returned (.tuple #[(sealT R t p).2.1.val, .int .i64 (sealT R t p).2.2.1, .int .i64 (sealT R t p).2.2.2]) ∧ Left w r S (sealT R t p).1 w'

theorem new6 (w : World) (o1 o2 o3 o4 o5 o6 : Obj) : let v := (((((w.alloc o1).alloc o2).alloc o3).alloc o4).alloc o5).alloc o6
    v.heap[w.heap.size]? = some o1 ∧ v.heap[w.heap.size + 1]? = some o2 ∧ v.heap[w.heap.size + 2]? = some o3 ∧ v.heap[w.heap.size + 3]? = some o4 ∧ v.heap[w.heap.size + 4]? = some o5 ∧ v.heap[w.heap.size + 5]? = some o6 :=
  ⟨old_at (old_at (new4 _ _ _ _ _).1), old_at (old_at (new4 _ _ _ _ _).2.1), old_at (old_at (new4 _ _ _ _ _).2.2.1), old_at (old_at (new4 _ _ _ _ _).2.2.2), old_at (new_at (by simp)), new_at (by simp)⟩
theorem below6 (w : World) (o1 o2 o3 o4 o5 o6 : Obj) : Below w.heap.size w ((((((w.alloc o1).alloc o2).alloc o3).alloc o4).alloc o5).alloc o6) := ((below4 w o1 o2 o3 o4).alloc (by simp; omega) _).alloc (by simp; omega) _
theorem heap_set6 {w : World} {b : Nat} {a0 a1 a2 a3 a4 a5 v0 v1 v2 v3 v4 v5 : Value} {e : TypeId} {f : Nat × Nat} (h : w.heap[b]? = some (.cells #[a0, a1, a2, a3, a4, a5] e f)) :
    ((((((w.setCell ⟨b, 0, none⟩ v0).setCell ⟨b, 1, none⟩ v1).setCell ⟨b, 2, none⟩ v2).setCell ⟨b, 3, none⟩ v3).setCell ⟨b, 4, none⟩ v4).setCell ⟨b, 5, none⟩ v5).heap[b]? = some (.cells #[v0, v1, v2, v3, v4, v5] e f) := by
  have := heap_setCell_at (o := 5) (heap_setCell_at (o := 4) (heap_setCell_at (o := 3) (heap_setCell_at (o := 2) (heap_setCell_at (o := 1) (heap_setCell_at (o := 0) h v0) v1) v2) v3) v4) v5
  simpa using this
theorem below_set6 {B : Nat} {a w : World} {b : Nat} (h : Below B a w) (hb : B ≤ b) (v0 v1 v2 v3 v4 v5 : Value) : Below B a ((((((w.setCell ⟨b, 0, none⟩ v0).setCell ⟨b, 1, none⟩ v1).setCell ⟨b, 2, none⟩ v2).setCell ⟨b, 3, none⟩ v3).setCell ⟨b, 4, none⟩ v4).setCell ⟨b, 5, none⟩ v5) :=
  (((below_set3 h hb v0 v1 v2).setCell hb _).setCell hb _).setCell hb _
theorem below_set345 {B : Nat} {a w : World} {b : Nat} (h : Below B a w) (hb : B ≤ b) (v0 v1 v2 : Value) : Below B a (((w.setCell ⟨b, 3, none⟩ v0).setCell ⟨b, 4, none⟩ v1).setCell ⟨b, 5, none⟩ v2) :=
  ((h.setCell hb _).setCell hb _).setCell hb _
theorem heap_other {w : World} {b k o : Nat} {v : Value} {x : Obj} (h : w.heap[k]? = some x) (hn : k ≠ b) : (w.setCell ⟨b, o, none⟩ v).heap[k]? = some x := (Below.heap_setCell _ _ _ _ hn).trans h
theorem heap_other3 {w : World} {b k : Nat} {v0 v1 v2 : Value} {x : Obj} (h : w.heap[k]? = some x) (hn : k ≠ b) : (((w.setCell ⟨b, 0, none⟩ v0).setCell ⟨b, 1, none⟩ v1).setCell ⟨b, 2, none⟩ v2).heap[k]? = some x := heap_other (heap_other (heap_other h hn) hn) hn
theorem heap_other345 {w : World} {b k : Nat} {v0 v1 v2 : Value} {x : Obj} (h : w.heap[k]? = some x) (hn : k ≠ b) : (((w.setCell ⟨b, 3, none⟩ v0).setCell ⟨b, 4, none⟩ v1).setCell ⟨b, 5, none⟩ v2).heap[k]? = some x := heap_other (heap_other (heap_other h hn) hn) hn
theorem Upd.set345 {S : Nat → Prop} {a w : World} (h : Upd S a w) {b : Nat} (hb : b < a.heap.size → S b) (v0 v1 v2 : Value) : Upd S a (((w.setCell ⟨b, 3, none⟩ v0).setCell ⟨b, 4, none⟩ v1).setCell ⟨b, 5, none⟩ v2) :=
  ((h.setCell hb _).setCell hb _).setCell hb _
theorem Upd.set6 {S : Nat → Prop} {a w : World} (h : Upd S a w) {b : Nat} (hb : b < a.heap.size → S b) (v0 v1 v2 v3 v4 v5 : Value) : Upd S a ((((((w.setCell ⟨b, 0, none⟩ v0).setCell ⟨b, 1, none⟩ v1).setCell ⟨b, 2, none⟩ v2).setCell ⟨b, 3, none⟩ v3).setCell ⟨b, 4, none⟩ v4).setCell ⟨b, 5, none⟩ v5) :=
  (((h.set3 hb v0 v1 v2).setCell hb _).setCell hb _).setCell hb _
theorem TrAt.cells {w : World} {b : Nat} {t : Tr} (h : TrAt w b t) : w.cell? ⟨b, 0, none⟩ = some (.int .i64 t.send.key) ∧ w.cell? ⟨b, 1, none⟩ = some (.bool t.send.has) ∧ w.cell? ⟨b, 2, none⟩ = some (.int .u64 t.send.n) ∧ w.cell? ⟨b, 3, none⟩ = some (.int .i64 t.recv.key) ∧ w.cell? ⟨b, 4, none⟩ = some (.bool t.recv.has) ∧ w.cell? ⟨b, 5, none⟩ = some (.int .u64 t.recv.n) := ⟨cell_of_heap h, cell_of_heap h, cell_of_heap h, cell_of_heap h, cell_of_heap h, cell_of_heap h⟩
def TOpenPost (l : List Nd) (t : Tr) (p : Int) (w : World) (e : Ending) (w' : World) : Prop :=
  e = .returned (.tuple #[(openT l t p).1.val, .int .i64 (openT l t p).2.1, .int .i64 (openT l t p).2.2]) ∧ Below w.heap.size w w'
def TRekeyPost (R : Ar) (t : Tr) (b : Bool) (S : Nat → Prop) (r : Nat) (w : World) (e : Ending) (w' : World) : Prop :=
  e = .returned (.tuple #[(rekeyT R t b).2.1.val, .int .i64 (rekeyT R t b).2.2]) ∧ Left w r S (rekeyT R t b).1 w'

set_option maxHeartbeats 400000 in
theorem turned_calls (t : Tr) (w : World) : Calls Try.prog 17 #[t.val] w fun e w' => e = .returned t.turned.val ∧ Below w.heap.size w w' := by
  unfold Tr.val
  go_enter Try.func17, Try.ntmps17
  go_wp2
  refine bodyPost_ret (v := t.turned.val) (by simp [results, Try.results17, go_sem, Tr.val, Tr.turned]) rfl ⟨rfl, ?_⟩
  exact below2 _ _ _

set_option maxHeartbeats 3200000 in
set_option maxRecDepth 100000 in
theorem tSeal_calls {S : Nat → Prop} {r : Nat} {R : Ar} {t : Tr} {p : Int} {w : World} (hr : IsArena w r R S) (hc0 : 0 ≤ t.send.n) (hc1 : t.send.n ≤ 18446744073709551615) :
    Calls Try.prog 11 #[t.val, .pointer (some ⟨r, 0, none⟩), .int .i64 p] w (TSealPost R t p S r w) := by
  have Hr := Lib.hid hr
  have Hlt := Lib.hid hr.lt
  have hmf : ∀ (fn : Fn) (first cap : Array Value) (w : World), (Instr.makeFunc fn first cap).run Try.prog w = .ok (.func fn first cap) w := fun _ _ _ _ => rfl
  clear hr
  unfold Tr.val
  go_enter Try.func11, Try.ntmps11
  go_wp2_with fail
  go_in
  go_wp2_with fail
  go_in
  go_wp2_with fail
  refine (cSeal_calls (c := t.send) (ad := 0) (p := p) (Hr.out.below (below6 _ _ _ _ _ _ _)) hc0 hc1).mono ?_
  rintro e w2 ⟨rfl, S2, hr2, hu2, hs2⟩
  have Hf := Lib.hid (show sealT R t p = if (sealC R t.send 0 p).2.2.2 ≠ 0 then ((sealC R t.send 0 p).1, Tr.zero, 0, (sealC R t.send 0 p).2.2.2) else ((sealC R t.send 0 p).1, ⟨(sealC R t.send 0 p).2.1, t.recv⟩, (sealC R t.send 0 p).2.2.1, 0) from rfl)
  generalize sealC R t.send 0 p = m at *
  obtain ⟨A', c', x, e⟩ := m
  have nS : ∀ b, w.heap.size ≤ b → ¬ S b := fun b hb h => by have := Hlt.out b h; omega
  have hk0 := hu2.heap (new6 w _ _ _ _ _ _).1 (nS _ (Nat.le_refl _))
  have hk3 := hu2.heap (new6 w _ _ _ _ _ _).2.2.2.1 (nS _ (by omega))
  have hk5 := hu2.heap (new6 w _ _ _ _ _ _).2.2.2.2.2 (nS _ (by omega))
  have l0 := lt_of_heap hk0
  have l3 := lt_of_heap hk3
  have l5 := lt_of_heap hk5
  have f0 := fun o => frozen_of_heap (o := o) hk0
  have f3 := fun o => frozen_of_heap (o := o) hk3
  have f5 := fun o => frozen_of_heap (o := o) hk5
  obtain ⟨a0, a1, a2, a3, a4, a5⟩ := TrAt.cells (t := t) hk0
  obtain ⟨z0, z1, z2, z3, z4, z5⟩ := TrAt.cells (t := Tr.zero) hk3
  obtain ⟨d0, d1, d2⟩ := CiAt.cells (c := Ci.zero) hk5
  have Hk0 := Lib.hid hk0
  have Hk3 := Lib.hid hk3
  have Hk5 := Lib.hid hk5
  clear hk0 hk3 hk5
  by_cases he : e = 0
  · subst he
    have Hf2 := Lib.hid (show sealT R t p = (A', ⟨c', t.recv⟩, x, 0) by rw [Hf.out]; simp)
    clear Hf
    simp only [Ci.val]
    go_wp2_with fail
    have hfin := heap_set3 (v0 := .int .i64 c'.key) (v1 := .bool c'.has) (v2 := .int .u64 c'.n) Hk5.out
    refine bodyPost_ret (v := .tuple #[c'.val, .int .i64 x, .int .i64 0]) (by simp [results, Try.results26, go_sem, Ci.val, cell_of_heap hfin]) rfl ?_
    simp only [Ci.val]
    go_wp2_with fail
    have hfin := old_at (o := .cells #[.int .i64 c'.key, .bool c'.has, .int .u64 c'.n] 31) (heap_set6 (v0 := .int .i64 c'.key) (v1 := .bool c'.has) (v2 := .int .u64 c'.n) (v3 := .int .i64 t.recv.key) (v4 := .bool t.recv.has) (v5 := .int .u64 t.recv.n)
      (heap_other3 (b := w.heap.size) (v0 := .int .i64 c'.key) (v1 := .bool c'.has) (v2 := .int .u64 c'.n) (heap_other3 (b := w.heap.size + 5) (v0 := .int .i64 c'.key) (v1 := .bool c'.has) (v2 := .int .u64 c'.n) Hk3.out (by omega)) (by omega)))
    refine bodyPost_ret (v := .tuple #[Tr.val ⟨c', t.recv⟩, .int .i64 x, .int .i64 0]) (by simp [results, Try.results11, go_sem, Tr.val, cell_of_heap hfin]) rfl ⟨by rw [Hf2.out], ?_⟩
    rw [Hf2.out]
    exact left_chain (below6 _ _ _ _ _ _ _) Hlt.out hr2 hu2 hs2 (((((Upd.refl _ _).set3 (fun _ => ⟨by omega, by simp <;> omega⟩) _ _ _).set3 (fun _ => ⟨by omega, by simp <;> omega⟩) _ _ _).set6 (fun _ => ⟨by omega, by simp <;> omega⟩) _ _ _ _ _ _).alloc _)
  · have Hf2 := Lib.hid (show sealT R t p = (A', Tr.zero, 0, e) by rw [Hf.out]; simp [he])
    have he1 : (e != 0) = true := by simp [he]
    have he2 : (e == 0) = false := by simp [he]
    clear Hf he
    simp only [Ci.val]
    go_wp2_with fail
    have hfin := heap_set3 (v0 := .int .i64 c'.key) (v1 := .bool c'.has) (v2 := .int .u64 c'.n) Hk5.out
    refine bodyPost_ret (v := .tuple #[c'.val, .int .i64 x, .int .i64 e]) (by simp [results, Try.results26, go_sem, Ci.val, cell_of_heap hfin]) rfl ?_
    simp only [Ci.val]
    go_wp2_with fail
    have hfin := old_at (o := .cells #[.int .i64 c'.key, .bool c'.has, .int .u64 c'.n] 31) (heap_set6 (v0 := .int .i64 0) (v1 := .bool false) (v2 := .int .u64 0) (v3 := .int .i64 0) (v4 := .bool false) (v5 := .int .u64 0)
      (heap_other3 (b := w.heap.size + 5) (v0 := .int .i64 c'.key) (v1 := .bool c'.has) (v2 := .int .u64 c'.n) Hk3.out (by omega)))
    refine bodyPost_ret (v := .tuple #[Tr.zero.val, .int .i64 0, .int .i64 e]) (by simp [results, Try.results11, go_sem, Tr.val, Tr.zero, Ci.zero, cell_of_heap hfin]) rfl ⟨by rw [Hf2.out], ?_⟩
    rw [Hf2.out]
    exact left_chain (below6 _ _ _ _ _ _ _) Hlt.out hr2 hu2 hs2 ((((Upd.refl _ _).set3 (fun _ => ⟨by omega, by simp <;> omega⟩) _ _ _).set6 (fun _ => ⟨by omega, by simp <;> omega⟩) _ _ _ _ _ _).alloc _)

set_option maxHeartbeats 3200000 in
set_option maxRecDepth 100000 in
theorem tOpen_calls {S : Nat → Prop} {r : Nat} {R : Ar} {t : Tr} {p : Int} {w : World} (hr : IsArena w r R S) (hc0 : 0 ≤ t.recv.n) (hc1 : t.recv.n ≤ 18446744073709551615) :
    Calls Try.prog 13 #[t.val, .pointer (some ⟨r, 0, none⟩), .int .i64 p] w (TOpenPost R.l t p w) := by
  have Hr := Lib.hid hr
  have hmf : ∀ (fn : Fn) (first cap : Array Value) (w : World), (Instr.makeFunc fn first cap).run Try.prog w = .ok (.func fn first cap) w := fun _ _ _ _ => rfl
  clear hr
  unfold Tr.val
  go_enter Try.func13, Try.ntmps13
  go_wp2_with fail
  go_in
  go_wp2_with fail
  go_in
  go_wp2_with fail
  refine (cOpen_calls (c := t.recv) (ad := 0) (p := p) (Hr.out.below (below6 _ _ _ _ _ _ _)) hc0 hc1).mono ?_
  rintro e w2 ⟨rfl, hb2⟩
  have hbw : Below w.heap.size w w2 := below_call (below6 _ _ _ _ _ _ _) hb2
  have Hf := Lib.hid (show openT R.l t p = if (openC R.l t.recv 0 p).2.2 ≠ 0 then (Tr.zero, 0, (openC R.l t.recv 0 p).2.2) else (⟨t.send, (openC R.l t.recv 0 p).1⟩, (openC R.l t.recv 0 p).2.1, 0) from rfl)
  generalize openC R.l t.recv 0 p = m at *
  obtain ⟨c', x, e⟩ := m
  have hk0 := (hb2.block w.heap.size (by simp <;> omega)).trans (new6 w _ _ _ _ _ _).1
  have hk3 := (hb2.block (w.heap.size + 3) (by simp <;> omega)).trans (new6 w _ _ _ _ _ _).2.2.2.1
  have hk5 := (hb2.block (w.heap.size + 5) (by simp)).trans (new6 w _ _ _ _ _ _).2.2.2.2.2
  have l0 := lt_of_heap hk0
  have l3 := lt_of_heap hk3
  have l5 := lt_of_heap hk5
  have f0 := fun o => frozen_of_heap (o := o) hk0
  have f3 := fun o => frozen_of_heap (o := o) hk3
  have f5 := fun o => frozen_of_heap (o := o) hk5
  obtain ⟨a0, a1, a2, a3, a4, a5⟩ := TrAt.cells (t := t) hk0
  obtain ⟨z0, z1, z2, z3, z4, z5⟩ := TrAt.cells (t := Tr.zero) hk3
  obtain ⟨d0, d1, d2⟩ := CiAt.cells (c := Ci.zero) hk5
  have Hk0 := Lib.hid hk0
  have Hk3 := Lib.hid hk3
  have Hk5 := Lib.hid hk5
  clear hk0 hk3 hk5
  by_cases he : e = 0
  · subst he
    have Hf2 := Lib.hid (show openT R.l t p = (⟨t.send, c'⟩, x, 0) by rw [Hf.out]; simp)
    clear Hf
    simp only [Ci.val]
    go_wp2_with fail
    have hfin := heap_set3 (v0 := .int .i64 c'.key) (v1 := .bool c'.has) (v2 := .int .u64 c'.n) Hk5.out
    refine bodyPost_ret (v := .tuple #[c'.val, .int .i64 x, .int .i64 0]) (by simp [results, Try.results28, go_sem, Ci.val, cell_of_heap hfin]) rfl ?_
    simp only [Ci.val]
    go_wp2_with fail
    have hfin := old_at (o := .cells #[.int .i64 c'.key, .bool c'.has, .int .u64 c'.n] 31) (heap_set6 (v0 := .int .i64 t.send.key) (v1 := .bool t.send.has) (v2 := .int .u64 t.send.n) (v3 := .int .i64 c'.key) (v4 := .bool c'.has) (v5 := .int .u64 c'.n)
      (heap_other345 (b := w.heap.size) (v0 := .int .i64 c'.key) (v1 := .bool c'.has) (v2 := .int .u64 c'.n) (heap_other3 (b := w.heap.size + 5) (v0 := .int .i64 c'.key) (v1 := .bool c'.has) (v2 := .int .u64 c'.n) Hk3.out (by omega)) (by omega)))
    refine bodyPost_ret (v := .tuple #[Tr.val ⟨t.send, c'⟩, .int .i64 x, .int .i64 0]) (by simp [results, Try.results13, go_sem, Tr.val, cell_of_heap hfin]) rfl ⟨by rw [Hf2.out], ?_⟩
    exact (below_set6 (below_set345 (below_set3 hbw (by omega) _ _ _) (by omega) _ _ _) (by omega) _ _ _ _ _ _).alloc (by simp [World.setCell] <;> omega) _
  · have Hf2 := Lib.hid (show openT R.l t p = (Tr.zero, 0, e) by rw [Hf.out]; simp [he])
    have he1 : (e != 0) = true := by simp [he]
    have he2 : (e == 0) = false := by simp [he]
    clear Hf he
    simp only [Ci.val]
    go_wp2_with fail
    have hfin := heap_set3 (v0 := .int .i64 c'.key) (v1 := .bool c'.has) (v2 := .int .u64 c'.n) Hk5.out
    refine bodyPost_ret (v := .tuple #[c'.val, .int .i64 x, .int .i64 e]) (by simp [results, Try.results28, go_sem, Ci.val, cell_of_heap hfin]) rfl ?_
    simp only [Ci.val]
    go_wp2_with fail
    have hfin := old_at (o := .cells #[.int .i64 c'.key, .bool c'.has, .int .u64 c'.n] 31) (heap_set6 (v0 := .int .i64 0) (v1 := .bool false) (v2 := .int .u64 0) (v3 := .int .i64 0) (v4 := .bool false) (v5 := .int .u64 0)
      (heap_other3 (b := w.heap.size + 5) (v0 := .int .i64 c'.key) (v1 := .bool c'.has) (v2 := .int .u64 c'.n) Hk3.out (by omega)))
    refine bodyPost_ret (v := .tuple #[Tr.zero.val, .int .i64 0, .int .i64 e]) (by simp [results, Try.results13, go_sem, Tr.val, Tr.zero, Ci.zero, cell_of_heap hfin]) rfl ⟨by rw [Hf2.out], ?_⟩
    exact (below_set6 (below_set3 hbw (by omega) _ _ _) (by omega) _ _ _ _ _ _).alloc (by simp [World.setCell] <;> omega) _

set_option maxHeartbeats 3200000 in
set_option maxRecDepth 100000 in
theorem tRekey_calls {S : Nat → Prop} {r : Nat} {R : Ar} {t : Tr} {b : Bool} {w : World} (hr : IsArena w r R S) :
    Calls Try.prog 18 #[t.val, .pointer (some ⟨r, 0, none⟩), .bool b] w (TRekeyPost R t b S r w) := by
  have Hr := Lib.hid hr
  have Hlt := Lib.hid hr.lt
  clear hr
  unfold Tr.val
  cases b with
  | true =>
    go_enter Try.func18, Try.ntmps18
    go_wp2_with fail
    refine (cRekey_calls (c := t.send) (Hr.out.below (below2 _ _ _))).mono ?_
    rintro e w2 ⟨rfl, S2, hr2, hu2, hs2⟩
    have Hf := Lib.hid (show rekeyT R t true = if (rekeyC R t.send).2.2 ≠ 0 then ((rekeyC R t.send).1, Tr.zero, (rekeyC R t.send).2.2) else ((rekeyC R t.send).1, ⟨(rekeyC R t.send).2.1, t.recv⟩, 0) from rfl)
    generalize rekeyC R t.send = m at *
    obtain ⟨A', c', e⟩ := m
    have nS : ∀ b, w.heap.size ≤ b → ¬ S b := fun b hb h => by have := Hlt.out b h; omega
    have hk0 := hu2.heap (two_new w _ _).1 (nS _ (Nat.le_refl _))
    have hk3 := hu2.heap (two_new w _ _).2 (nS _ (by omega))
    have l0 := lt_of_heap hk0
    have l3 := lt_of_heap hk3
    have f0 := fun o => frozen_of_heap (o := o) hk0
    have f3 := fun o => frozen_of_heap (o := o) hk3
    obtain ⟨a0, a1, a2, a3, a4, a5⟩ := TrAt.cells (t := t) hk0
    obtain ⟨z0, z1, z2, z3, z4, z5⟩ := TrAt.cells (t := Tr.zero) hk3
    have Hk0 := Lib.hid hk0
    have Hk3 := Lib.hid hk3
    clear hk0 hk3
    by_cases he : e = 0
    · subst he
      have Hf2 := Lib.hid (show rekeyT R t true = (A', ⟨c', t.recv⟩, 0) by rw [Hf.out]; simp)
      clear Hf
      simp only [Ci.val]
      go_wp2_with fail
      have hfin := old_at (o := .cells #[.int .i64 c'.key, .bool c'.has, .int .u64 c'.n] 31) (heap_set6 (v0 := .int .i64 c'.key) (v1 := .bool c'.has) (v2 := .int .u64 c'.n) (v3 := .int .i64 t.recv.key) (v4 := .bool t.recv.has) (v5 := .int .u64 t.recv.n)
        (heap_other3 (b := w.heap.size) (v0 := .int .i64 c'.key) (v1 := .bool c'.has) (v2 := .int .u64 c'.n) Hk3.out (by omega)))
      refine bodyPost_ret (v := .tuple #[Tr.val ⟨c', t.recv⟩, .int .i64 0]) (by simp [results, Try.results18, go_sem, Tr.val, cell_of_heap hfin]) rfl ⟨by rw [Hf2.out], ?_⟩
      rw [Hf2.out]
      exact left_chain (below2 _ _ _) Hlt.out hr2 hu2 hs2 ((((Upd.refl _ _).set3 (fun _ => ⟨by omega, by simp <;> omega⟩) _ _ _).set6 (fun _ => ⟨by omega, by simp <;> omega⟩) _ _ _ _ _ _).alloc _)
    · have Hf2 := Lib.hid (show rekeyT R t true = (A', Tr.zero, e) by rw [Hf.out]; simp [he])
      have he1 : (e != 0) = true := by simp [he]
      clear Hf he
      simp only [Ci.val]
      go_wp2_with fail
      have hfin := old_at (o := .cells #[.int .i64 c'.key, .bool c'.has, .int .u64 c'.n] 31) (heap_set6 (v0 := .int .i64 0) (v1 := .bool false) (v2 := .int .u64 0) (v3 := .int .i64 0) (v4 := .bool false) (v5 := .int .u64 0) Hk3.out)
      refine bodyPost_ret (v := .tuple #[Tr.zero.val, .int .i64 e]) (by simp [results, Try.results18, go_sem, Tr.val, Tr.zero, Ci.zero, cell_of_heap hfin]) rfl ⟨by rw [Hf2.out], ?_⟩
      rw [Hf2.out]
      exact left_chain (below2 _ _ _) Hlt.out hr2 hu2 hs2 (((Upd.refl _ _).set6 (fun _ => ⟨by omega, by simp <;> omega⟩) _ _ _ _ _ _).alloc _)
  | false =>
    go_enter Try.func18, Try.ntmps18
    go_wp2_with fail
    refine (cRekey_calls (c := t.recv) (Hr.out.below (below2 _ _ _))).mono ?_
    rintro e w2 ⟨rfl, S2, hr2, hu2, hs2⟩
    have Hf := Lib.hid (show rekeyT R t false = if (rekeyC R t.recv).2.2 ≠ 0 then ((rekeyC R t.recv).1, Tr.zero, (rekeyC R t.recv).2.2) else ((rekeyC R t.recv).1, ⟨t.send, (rekeyC R t.recv).2.1⟩, 0) from rfl)
    generalize rekeyC R t.recv = m at *
    obtain ⟨A', c', e⟩ := m
    have nS : ∀ b, w.heap.size ≤ b → ¬ S b := fun b hb h => by have := Hlt.out b h; omega
    have hk0 := hu2.heap (two_new w _ _).1 (nS _ (Nat.le_refl _))
    have hk3 := hu2.heap (two_new w _ _).2 (nS _ (by omega))
    have l0 := lt_of_heap hk0
    have l3 := lt_of_heap hk3
    have f0 := fun o => frozen_of_heap (o := o) hk0
    have f3 := fun o => frozen_of_heap (o := o) hk3
    obtain ⟨a0, a1, a2, a3, a4, a5⟩ := TrAt.cells (t := t) hk0
    obtain ⟨z0, z1, z2, z3, z4, z5⟩ := TrAt.cells (t := Tr.zero) hk3
    have Hk0 := Lib.hid hk0
    have Hk3 := Lib.hid hk3
    clear hk0 hk3
    by_cases he : e = 0
    · subst he
      have Hf2 := Lib.hid (show rekeyT R t false = (A', ⟨t.send, c'⟩, 0) by rw [Hf.out]; simp)
      clear Hf
      simp only [Ci.val]
      go_wp2_with fail
      have hfin := old_at (o := .cells #[.int .i64 c'.key, .bool c'.has, .int .u64 c'.n] 31) (heap_set6 (v0 := .int .i64 t.send.key) (v1 := .bool t.send.has) (v2 := .int .u64 t.send.n) (v3 := .int .i64 c'.key) (v4 := .bool c'.has) (v5 := .int .u64 c'.n)
        (heap_other345 (b := w.heap.size) (v0 := .int .i64 c'.key) (v1 := .bool c'.has) (v2 := .int .u64 c'.n) Hk3.out (by omega)))
      refine bodyPost_ret (v := .tuple #[Tr.val ⟨t.send, c'⟩, .int .i64 0]) (by simp [results, Try.results18, go_sem, Tr.val, cell_of_heap hfin]) rfl ⟨by rw [Hf2.out], ?_⟩
      rw [Hf2.out]
      exact left_chain (below2 _ _ _) Hlt.out hr2 hu2 hs2 ((((Upd.refl _ _).set345 (fun _ => ⟨by omega, by simp <;> omega⟩) _ _ _).set6 (fun _ => ⟨by omega, by simp <;> omega⟩) _ _ _ _ _ _).alloc _)
    · have Hf2 := Lib.hid (show rekeyT R t false = (A', Tr.zero, e) by rw [Hf.out]; simp [he])
      have he1 : (e != 0) = true := by simp [he]
      clear Hf he
      simp only [Ci.val]
      go_wp2_with fail
      have hfin := old_at (o := .cells #[.int .i64 c'.key, .bool c'.has, .int .u64 c'.n] 31) (heap_set6 (v0 := .int .i64 0) (v1 := .bool false) (v2 := .int .u64 0) (v3 := .int .i64 0) (v4 := .bool false) (v5 := .int .u64 0) Hk3.out)
      refine bodyPost_ret (v := .tuple #[Tr.zero.val, .int .i64 e]) (by simp [results, Try.results18, go_sem, Tr.val, Tr.zero, Ci.zero, cell_of_heap hfin]) rfl ⟨by rw [Hf2.out], ?_⟩
      rw [Hf2.out]
      exact left_chain (below2 _ _ _) Hlt.out hr2 hu2 hs2 (((Upd.refl _ _).set6 (fun _ => ⟨by omega, by simp <;> omega⟩) _ _ _ _ _ _).alloc _)

end Go.Proofs.Ytgcjhmffndijhaa
