/- Packed by packn.py: Lib, Maps, Str. -/
import Derived.Test.YtikimmgileffgaaGreatDoorRows
import Derived.WalkKit
import Derived.WalkSpells
import Derived.WalkLawsBesides
import Derived.KernelRfl
import Derived.Laws.Rows
import Derived.Lib.MinMax
import Derived.Deep.AppendLies
import Derived.Laws.Concat
import Derived.Laws.Closers25
import Derived.Lib.AppendStr
/- Plain words on worlds, for every text of this seat: which blocks may have changed; slices that are read; an append of one element. No program in sight. -/
section
namespace Go.Proofs.YtikimmgileffgaaGreatDoor
open Go.RowKit

/-- Of the blocks that were there, only those in S may have changed. -/
structure Upd (S : Nat → Prop) (w w' : World) : Prop where
  os : w'.os = w.os
  tape : w'.tape = w.tape
  output : w'.output = w.output
  size : w.heap.size ≤ w'.heap.size
  block : ∀ k, k < w.heap.size → ¬ S k → w'.heap[k]? = w.heap[k]?

def One (c : Nat) : Nat → Prop := fun k => k = c
def None : Nat → Prop := fun _ => False

theorem Upd.refl (S : Nat → Prop) (w : World) : Upd S w w := ⟨rfl, rfl, rfl, Nat.le_refl _, fun _ _ _ => rfl⟩
theorem Upd.trans {S : Nat → Prop} {a b c : World} (h : Upd S a b) (h' : Upd S b c) : Upd S a c :=
  ⟨h'.os.trans h.os, h'.tape.trans h.tape, h'.output.trans h.output, Nat.le_trans h.size h'.size,
    fun k hk hs => (h'.block k (by have := h.size; omega) hs).trans (h.block k hk hs)⟩
/-- Two steps; the second may also have changed blocks that were new behind the first. -/
theorem Upd.trans' {S S' : Nat → Prop} {a b c : World} (h : Upd S a b) (h' : Upd S' b c) (hs : ∀ k, k < a.heap.size → S' k → S k) : Upd S a c :=
  ⟨h'.os.trans h.os, h'.tape.trans h.tape, h'.output.trans h.output, Nat.le_trans h.size h'.size,
    fun k hk hn => (h'.block k (by have := h.size; omega) (fun e => hn (hs k hk e))).trans (h.block k hk hn)⟩
theorem Upd.mono {S S' : Nat → Prop} {a b : World} (h : Upd S a b) (hs : ∀ k, k < a.heap.size → S k → S' k) : Upd S' a b :=
  ⟨h.os, h.tape, h.output, h.size, fun k hk hn => h.block k hk (fun e => hn (hs k hk e))⟩
theorem Upd.of_below {S : Nat → Prop} {w w' : World} (h : Below w.heap.size w w') : Upd S w w' :=
  ⟨h.os, h.tape, h.output, h.size, fun k hk _ => h.block k hk⟩
theorem Upd.below {S : Nat → Prop} {w w' : World} (h : Upd S w w') {B : Nat} (hB : B ≤ w.heap.size) (hs : ∀ k, k < B → ¬ S k) : Below B w w' :=
  ⟨h.os, h.tape, h.output, h.size, fun k hk => h.block k (by omega) (hs k hk)⟩
theorem Upd.alloc {S : Nat → Prop} {a w : World} (h : Upd S a w) (o : Obj) : Upd S a (w.alloc o) :=
  h.trans ⟨rfl, rfl, rfl, by simp, fun k hk _ => Below.heap_alloc _ _ _ hk⟩
theorem Upd.drew {S : Nat → Prop} {a w : World} (h : Upd S a w) : Upd S a w.drew := ⟨h.os, h.tape, h.output, h.size, h.block⟩
theorem Upd.drewN {S : Nat → Prop} {a w : World} (h : Upd S a w) (n : Nat) : Upd S a (w.drewN n) := ⟨h.os, h.tape, h.output, h.size, h.block⟩
theorem Upd.grown {S : Nat → Prop} {a w w' : World} {row : Option Nat} (h : Upd S a w) (hg : w.grownBy w' row) (hr : ∀ k, row = some k → k < a.heap.size → S k) : Upd S a w' :=
  h.trans' (S' := fun k => row = some k) ⟨hg.os, hg.tape, hg.output, hg.size, fun k hk hs => hg.block k hk (fun e => hs e.symm)⟩ (fun k hk e => hr k e hk)
theorem Upd.cell {S : Nat → Prop} {w w' : World} (h : Upd S w w') {p : Addr} (hp : p.block < w.heap.size) (hs : ¬ S p.block) : w'.cell? p = w.cell? p :=
  World.cell?_of_block (h.block _ hp hs)
theorem Upd.cell' {S : Nat → Prop} {w w' : World} (h : Upd S w w') {p : Addr} {v : Value} (hc : w.cell? p = some v) (hs : ¬ S p.block) : w'.cell? p = some v :=
  (h.cell (World.block_lt_of_cell? w p hc) hs).trans hc

theorem lt_of_heap {w : World} {k : Nat} {o : Obj} (h : w.heap[k]? = some o) : k < w.heap.size := by
  rcases Nat.lt_or_ge k w.heap.size with h' | h'
  · exact h'
  · rw [Array.getElem?_eq_none h'] at h; cases h
theorem Upd.heap {S : Nat → Prop} {w w' : World} (h : Upd S w w') {k : Nat} {o : Obj} (hc : w.heap[k]? = some o) (hs : ¬ S k) : w'.heap[k]? = some o :=
  (h.block k (lt_of_heap hc) hs).trans hc

/-- After a call that only makes memory: all old cells and marks read as before (of the guide's lemmas to copy). -/
theorem bcell {W w1 : World} (hb : Below W.heap.size W w1) : (∀ b o, b < W.heap.size → w1.cell? ⟨b, o, none⟩ = W.cell? ⟨b, o, none⟩) ∧ (∀ b o, b < W.heap.size → w1.frozen? ⟨b, o, none⟩ = W.frozen? ⟨b, o, none⟩) :=
  ⟨fun b o h => hb.cell (p := ⟨b, o, none⟩) h, fun b o h => hb.frozen (p := ⟨b, o, none⟩) h⟩

theorem heap_setCell_at {w : World} {b o : Nat} {c : Array Value} {e : TypeId} {f : Nat × Nat} (h : w.heap[b]? = some (.cells c e f)) (v : Value) : (w.setCell ⟨b, o, none⟩ v).heap[b]? = some (.cells (c.setIfInBounds o v) e f) := by
  have hlt := lt_of_heap h
  simp only [World.setCell, Array.getElem?_modify, if_true, h, Option.map_some]
  rfl
theorem cell_of_heap {w : World} {b o : Nat} {c : Array Value} {e : TypeId} {f : Nat × Nat} (h : w.heap[b]? = some (.cells c e f)) : w.cell? ⟨b, o, none⟩ = c[o]? := by simp [World.cell?, h]
theorem frozen_of_heap {w : World} {b o : Nat} {c : Array Value} {e : TypeId} (h : w.heap[b]? = some (.cells c e (0, 0))) : w.frozen? ⟨b, o, none⟩ = false := by simp [World.frozen?, h]
theorem heap_set5 {w : World} {b : Nat} {a0 a1 a2 a3 a4 v0 v1 v2 v3 v4 : Value} {e : TypeId} {f : Nat × Nat} (h : w.heap[b]? = some (.cells #[a0, a1, a2, a3, a4] e f)) :
    (((((w.setCell ⟨b, 0, none⟩ v0).setCell ⟨b, 1, none⟩ v1).setCell ⟨b, 2, none⟩ v2).setCell ⟨b, 3, none⟩ v3).setCell ⟨b, 4, none⟩ v4).heap[b]? = some (.cells #[v0, v1, v2, v3, v4] e f) := by
  have := heap_setCell_at (o := 4) (heap_setCell_at (o := 3) (heap_setCell_at (o := 2) (heap_setCell_at (o := 1) (heap_setCell_at (o := 0) h v0) v1) v2) v3) v4
  simpa using this

theorem two_new (w : World) (o o' : Obj) : ((w.alloc o).alloc o').heap[w.heap.size]? = some o ∧ ((w.alloc o).alloc o').heap[w.heap.size + 1]? = some o' := by
  refine ⟨(Below.heap_alloc _ _ _ (by simp)).trans (heap_alloc_new w _), ?_⟩
  have := heap_alloc_new (w.alloc o) o'
  simpa only [World.size_alloc] using this
theorem below_two {B : Nat} {a w : World} (h : Below B a w) (hB : B ≤ w.heap.size) (o o' : Obj) : Below B a ((w.alloc o).alloc o').drew :=
  ((h.alloc hB o).alloc (by simp; omega) o').drew

theorem heap_alloc_get (w : World) (o : Obj) (k : Nat) : (w.alloc o).heap[k]? = if k = w.heap.size then some o else w.heap[k]? := by
  show (w.heap.push o)[k]? = _
  rw [Array.getElem?_push]
theorem new_at {w : World} {o : Obj} {k : Nat} (h : k = w.heap.size) : (w.alloc o).heap[k]? = some o := by rw [heap_alloc_get, if_pos h]
theorem old_at {w : World} {o x : Obj} {k : Nat} (h : w.heap[k]? = some x) : (w.alloc o).heap[k]? = some x := by rw [heap_alloc_get, if_neg (by have := lt_of_heap h; omega)]; exact h
theorem new3 (w : World) (o1 o2 o3 : Obj) : (((w.alloc o1).alloc o2).alloc o3).heap[w.heap.size]? = some o1 ∧ (((w.alloc o1).alloc o2).alloc o3).heap[w.heap.size + 1]? = some o2 ∧ (((w.alloc o1).alloc o2).alloc o3).heap[w.heap.size + 2]? = some o3 :=
  ⟨old_at (old_at (new_at rfl)), old_at (new_at (by simp)), new_at (by simp)⟩
theorem below2 (w : World) (o1 o2 : Obj) : Below w.heap.size w ((w.alloc o1).alloc o2) := ((Below.refl _ _).alloc (Nat.le_refl _) _).alloc (by simp) _
theorem below3 (w : World) (o1 o2 o3 : Obj) : Below w.heap.size w (((w.alloc o1).alloc o2).alloc o3) := (below2 w o1 o2).alloc (by simp; omega) _
/-- A call behind some steps. -/
theorem below_call {w W w1 : World} (h : Below w.heap.size w W) (h1 : Below W.heap.size W w1) : Below w.heap.size w w1 := h.trans (h1.mono h.size)

/-- A slice's first element lies at A; its elements, of one cell each, are xs. -/
def Holds (w : World) (A : Option Addr) (xs : List Value) : Prop := xs = [] ∨ ∃ b o, A = some ⟨b, o, none⟩ ∧ ∀ i v, xs[i]? = some v → w.cell? ⟨b, o + i, none⟩ = some v
theorem Holds.keep {S : Nat → Prop} {w w' : World} {A : Option Addr} {xs : List Value} (h : Holds w A xs) (u : Upd S w w') (hs : ∀ a, A = some a → ¬ S a.block) : Holds w' A xs := by
  rcases h with h | ⟨b, o, rfl, h⟩
  · exact .inl h
  · exact .inr ⟨b, o, rfl, fun i v hi => u.cell' (h i v hi) (hs ⟨b, o, none⟩ rfl)⟩
theorem Holds.below {w w' : World} {A : Option Addr} {xs : List Value} (h : Holds w A xs) (u : Below w.heap.size w w') : Holds w' A xs := by
  rcases h with h | ⟨b, o, rfl, h⟩
  · exact .inl h
  · exact .inr ⟨b, o, rfl, fun i v hi => (u.cell (World.block_lt_of_cell? w _ (h i v hi))).trans (h i v hi)⟩
theorem holds_of_owns {w : World} {base : Nat} {e : TypeId} {v : Value} {n : Nat} {xs : List Value} (h : w.ownsRow base e 1 v n xs) : ∃ A c, v = .slice A n c ∧ Holds w A xs ∧ ∀ a, A = some a → base ≤ a.block ∧ a.block < w.heap.size := by
  have hl := h.lt
  rcases h.2 with ⟨rfl, rfl⟩ | ⟨g, cap, cur, rfl, hb, hg, hnc, hcm, hcs, ht⟩
  · exact ⟨none, 0, rfl, .inl (List.eq_nil_of_length_eq_zero (by simpa using h.1)), fun a ha => by cases ha⟩
  · refine ⟨_, _, rfl, .inr ⟨g, 0, rfl, fun i v hi => ?_⟩, fun a ha => by cases ha; exact hl g rfl⟩
    have := h.cells (g := g) rfl i v hi
    unfold Addr.add at this
    split at this <;> simp_all

theorem ownsRow_upd {S : Nat → Prop} {w w' : World} {base : Nat} {e : TypeId} {size : Nat} {v : Value} {n : Nat} {xs : List Value} (h : w.ownsRow base e size v n xs) (u : Upd S w w') (hs : ∀ k, base ≤ k → ¬ S k) : w'.ownsRow base e size v n xs := by
  refine ⟨h.1, ?_⟩
  rcases h.2 with hn | ⟨g, cap, cur, rfl, hb, hgg, rest⟩
  · exact .inl hn
  · exact .inr ⟨g, cap, cur, rfl, hb, u.heap hgg (hs g hb), rest⟩
theorem ownsRow_upd' {S : Nat → Prop} {w w' : World} {base : Nat} {e : TypeId} {size : Nat} {v : Value} {n : Nat} {xs : List Value} (h : w.ownsRow base e size v n xs) (u : Upd S w w') (hs : ∀ k, v.ownBlock = some k → ¬ S k) : w'.ownsRow base e size v n xs := by
  refine ⟨h.1, ?_⟩
  rcases h.2 with hn | ⟨g, cap, cur, rfl, hb, hgg, rest⟩
  · exact .inl hn
  · exact .inr ⟨g, cap, cur, rfl, hb, u.heap hgg (hs g rfl), rest⟩

theorem Upd.setCell {S : Nat → Prop} {a w : World} (h : Upd S a w) {b o : Nat} (hb : b < a.heap.size → S b) (v : Value) : Upd S a (w.setCell ⟨b, o, none⟩ v) :=
  h.trans' (S' := One b) ⟨rfl, rfl, rfl, by simp [World.setCell], fun k _ hk => Below.heap_setCell _ _ _ _ hk⟩ (fun k hk e => by unfold One at e; subst e; exact hb hk)
end Go.Proofs.YtikimmgileffgaaGreatDoor
end
/- Maps as the list of their entries: what look-up, update and delete do. Any program, any kind of key whose comparison is known. -/
section
namespace Go.Proofs.YtikimmgileffgaaGreatDoor
open Go.RowKit

/-- The first entry with such a key: its place and its value. -/
def findL {α : Type} [DecidableEq α] (a : α) : List (α × Value) → Nat → Option (Nat × Value)
  | [], _ => none
  | p :: l, i => if a = p.1 then some (i, p.2) else findL a l (i + 1)

/-- How keys of a type are compared. -/
structure KeyOk (P : Program) (K : TypeId) {α : Type} [DecidableEq α] (enc : α → Value) : Prop where
  check : ∀ (b : Bool) (a : α) (w : World), (Instr.checkKey b 10000 K (enc a)).run P w = .ok () w
  find : ∀ (a : α) (es : List MapEntry) (l : List (α × Value)) (w : World), es.map (fun e => (e.key, e.val)) = l.map (fun p => (enc p.1, p.2)) → (Instr.findKey K (enc a) es).run P w = .ok (findL a l 0) w
  same : ∀ a, Instr.sameBits 10000 (enc a) (enc a) = true

section
variable {P : Program}
theorem findNow_of {α : Type} [DecidableEq α] {enc : α → Value} {D : TypeDesc} (h : ∀ a b, Instr.sameNow D (enc a) (enc b) = some (decide (a = b))) (a : α) : ∀ (es : List MapEntry) (l : List (α × Value)) (i : Nat), es.map (fun e => (e.key, e.val)) = l.map (fun p => (enc p.1, p.2)) → Instr.findNow D (enc a) es i = some (findL a l i)
  | [], [], i, _ => rfl
  | [], p :: l, i, h' => by simp at h'
  | e :: es, [], i, h' => by simp at h'
  | e :: es, p :: l, i, h' => by
    simp only [List.map_cons, List.cons.injEq, Prod.mk.injEq] at h'
    obtain ⟨⟨hk, hv⟩, hr⟩ := h'
    unfold Instr.findNow findL
    rw [hk, h a p.1]
    by_cases he : a = p.1
    · simp [he, hv]
    · simp [he, findNow_of h a es l (i + 1) hr]

theorem bytes_beq (a b : ByteArray) : (a == b) = decide (a = b) := by
  obtain ⟨a⟩ := a
  obtain ⟨b⟩ := b
  show (a == b) = _
  rw [Bool.eq_iff_iff, decide_eq_true_iff, beq_iff_eq]
  exact ⟨fun h => by rw [h], fun h => by injection h⟩
theorem keyOk_bool {K : TypeId} (hu : P.underlying K = some .bool) : KeyOk P K Value.bool where
  check b a w := by
    have h : ∀ n : Nat, (Instr.checkKey b (n + 1) K (Value.bool a)).run P w = .ok () w := fun n => by simp [Instr.checkKey, run_underlying hu]
    exact h 9999
  find a es l w h := by
    have := findNow_of (D := .bool) (enc := Value.bool) (fun a b => by simp only [Instr.sameNow]; cases a <;> cases b <;> rfl) a es l 0 h
    simp [Instr.findKey, run_underlying hu, this]
  same a := by simp [Instr.sameBits]

theorem findAsking_of {P : Program} {K : TypeId} {α : Type} [DecidableEq α] {enc : α → Value} (h : ∀ a b w, (Op.equal K (enc a) (enc b)).run P w = .ok (decide (a = b)) w) (a : α) (w : World) : ∀ (es : List MapEntry) (l : List (α × Value)) (i : Nat), es.map (fun e => (e.key, e.val)) = l.map (fun p => (enc p.1, p.2)) → (Instr.findAsking K (enc a) es i).run P w = .ok (findL a l i) w
  | [], [], i, _ => rfl
  | [], p :: l, i, h' => by simp at h'
  | e :: es, [], i, h' => by simp at h'
  | e :: es, p :: l, i, h' => by
    simp only [List.map_cons, List.cons.injEq, Prod.mk.injEq] at h'
    obtain ⟨⟨hk, hv⟩, hr⟩ := h'
    unfold Instr.findAsking findL
    simp only [Sem.run_bind, hk, h a p.1, Result.andThen_ok]
    by_cases he : a = p.1
    · simp [he, hv]
    · simp [he, findAsking_of h a w es l (i + 1) hr]
/-- Keys that are structs. -/
theorem keyOk_struct {P : Program} {K : TypeId} {fs : Array Field} (hu : P.underlying K = some (.struct fs)) {α : Type} [DecidableEq α] {enc : α → Value} (hc : ∀ (b : Bool) (a : α) (w : World), (Instr.checkKey b 10000 K (enc a)).run P w = .ok () w)
    (h : ∀ a b w, (Op.equal K (enc a) (enc b)).run P w = .ok (decide (a = b)) w) (hs : ∀ a, Instr.sameBits 10000 (enc a) (enc a) = true) : KeyOk P K enc where
  check := hc
  find a es l w h' := by
    have h2 := findAsking_of h a w es l 0 h'
    have hn : Instr.findNow (.struct fs) (enc a) es 0 = none ∨ es = [] := by
      cases es with
      | nil => exact .inr rfl
      | cons e es => left; simp [Instr.findNow, Instr.sameNow]
    rcases hn with hn | rfl
    · simp [Instr.findKey, run_underlying hu, hn, h2]
    · cases l with
      | nil => simp [Instr.findKey, run_underlying hu, Instr.findNow, findL]
      | cons p l => simp at h'
  same := hs

/-- Block bm is a map with these entries. -/
def MapIs {α : Type} (enc : α → Value) (w : World) (bm : Nat) (l : List (α × Value)) : Prop :=
  ∃ es clock, w.heap[bm]? = some (.map es clock) ∧ es.toList.map (fun e => (e.key, e.val)) = l.map (fun p => (enc p.1, p.2))

theorem MapIs.upd {α : Type} {enc : α → Value} {w w' : World} {bm : Nat} {l : List (α × Value)} {S : Nat → Prop} (h : MapIs enc w bm l) (u : Upd S w w') (hs : ¬ S bm) : MapIs enc w' bm l := by
  obtain ⟨es, clock, h1, h2⟩ := h
  exact ⟨es, clock, u.heap h1 hs, h2⟩
theorem MapIs.drew {α : Type} {enc : α → Value} {w : World} {bm : Nat} {l : List (α × Value)} (h : MapIs enc w bm l) : MapIs enc w.drew bm l := h
theorem MapIs.lt {α : Type} {enc : α → Value} {w : World} {bm : Nat} {l : List (α × Value)} (h : MapIs enc w bm l) : bm < w.heap.size := by
  obtain ⟨es, clock, h1, h2⟩ := h; exact lt_of_heap h1

theorem run_getObj_map {w : World} {bm : Nat} {es : Array MapEntry} {clock : Nat} (h : w.heap[bm]? = some (.map es clock)) : (getObj bm).run P w = .ok (.map es clock) w := by
  simp [getObj, Sem.run, h]

section
variable {α : Type} [DecidableEq α] {enc : α → Value} {K E T : TypeId}
/-- 'v, ok := m[k]'. -/
theorem lookup_ok (hk : KeyOk P K enc) (hT : P.underlying T = some (.map K E)) {z : Value} {i : TypeInfo} (hE : P.info? E = some i) (hz : i.zero = some z) {w : World} {bm : Nat} {l : List (α × Value)} (h : MapIs enc w bm l) (a : α) :
    (Instr.lookup T (.map (some bm)) (enc a) true).run P w = .ok (.tuple #[((findL a l 0).map (·.2)).getD z, .bool (findL a l 0).isSome]) w := by
  obtain ⟨es, clock, h1, h2⟩ := h
  have hf := hk.find a es.toList l w h2
  have hg := run_getObj_map (P := P) h1
  simp only [Instr.lookup]
  simp [run_underlying hT, hg, hk.check, hf]
  cases hl : findL a l 0 with
  | none => simp [zeroValue, typeInfo, hE, hz]
  | some p => simp
theorem lookup_plain (hk : KeyOk P K enc) (hT : P.underlying T = some (.map K E)) {z : Value} {i : TypeInfo} (hE : P.info? E = some i) (hz : i.zero = some z) {w : World} {bm : Nat} {l : List (α × Value)} (h : MapIs enc w bm l) (a : α) :
    (Instr.lookup T (.map (some bm)) (enc a) false).run P w = .ok (((findL a l 0).map (·.2)).getD z) w := by
  obtain ⟨es, clock, h1, h2⟩ := h
  have hf := hk.find a es.toList l w h2
  have hg := run_getObj_map (P := P) h1
  simp only [Instr.lookup]
  simp [run_underlying hT, hg, hk.check, hf]
  cases hl : findL a l 0 with
  | none => simp [zeroValue, typeInfo, hE, hz]
  | some p => simp

/-- What 'm[k] = v' makes of the entries. -/
def setL (a : α) (v : Value) (l : List (α × Value)) : List (α × Value) :=
  match findL a l 0 with
  | some (i, _) => l.set i (a, v)
  | none => l ++ [(a, v)]

theorem findL_spec (a : α) : ∀ (l : List (α × Value)) (i j : Nat) (v : Value), findL a l i = some (j, v) → i ≤ j ∧ l[j - i]? = some (a, v)
  | [], i, j, v, h => by simp [findL] at h
  | p :: l, i, j, v, h => by
    unfold findL at h
    split at h
    · rename_i he
      simp only [Option.some.injEq, Prod.mk.injEq] at h
      obtain ⟨rfl, rfl⟩ := h
      exact ⟨Nat.le_refl _, by simp [he]⟩
    · have := findL_spec a l (i + 1) j v h
      refine ⟨by omega, ?_⟩
      rw [show j - i = (j - (i + 1)) + 1 by omega, List.getElem?_cons_succ]
      exact this.2
/-- 'm[k] = v': the map alone changes. -/
theorem update_ok (hk : KeyOk P K enc) (hT : P.underlying T = some (.map K E)) {w : World} {bm : Nat} {l : List (α × Value)} (h : MapIs enc w bm l) (a : α) (v : Value) :
    ∃ w', (Instr.mapUpdate T (.map (some bm)) (enc a) v).run P w = .ok () w' ∧ MapIs enc w' bm (setL a v l) ∧ Upd (One bm) w w' ∧ w'.heap.size = w.heap.size ∧ w'.drawn = w.drawn := by
  obtain ⟨es, clock, h1, h2⟩ := h
  have hf := hk.find a es.toList l w h2
  have hg := run_getObj_map (P := P) h1
  have hlt := lt_of_heap h1
  have hset : ∀ o, (setObj bm o).run P w = .ok () { w with heap := w.heap.setIfInBounds bm o } := fun o => by simp [setObj, Sem.run, h1]
  have hupd : ∀ o, Upd (One bm) w { w with heap := w.heap.setIfInBounds bm o } := fun o => ⟨rfl, rfl, rfl, by simp, fun k _ hs => by
    show (w.heap.setIfInBounds bm o)[k]? = _
    rw [Array.getElem?_setIfInBounds_ne (fun e => hs e.symm)]⟩
  have hhp : ∀ o, ({ w with heap := w.heap.setIfInBounds bm o } : World).heap[bm]? = some o := fun o => by
    show (w.heap.setIfInBounds bm o)[bm]? = _
    simp [hlt]
  cases hl : findL a l 0 with
  | none =>
    refine ⟨_, ?_, ⟨_, _, hhp (.map (es.push ⟨enc a, v, clock⟩) (clock + 1)), ?_⟩, hupd _, by simp, rfl⟩
    · simp only [Instr.mapUpdate]
      simp [run_underlying hT, hg, hk.check, hf, hl, hset]
    · simp [setL, hl, h2]
  | some p =>
    obtain ⟨j, u⟩ := p
    have hs := (findL_spec a l 0 j u hl).2
    simp only [Nat.sub_zero] at hs
    have hj : es.toList[j]?.map (fun e => (e.key, e.val)) = some (enc a, u) := by
      rw [← List.getElem?_map, h2, List.getElem?_map, hs]; rfl
    have hj' : (es[j]?.map (·.key)).getD (enc a) = enc a := by
      rw [← Array.getElem?_toList]
      cases he : es.toList[j]? with
      | none => rfl
      | some e => rw [he] at hj; simp at hj; simp [hj.1]
    refine ⟨_, ?_, ⟨_, _, hhp (.map (es.modify j fun e => { e with key := enc a, val := v }) clock), ?_⟩, hupd _, by simp, rfl⟩
    · simp only [Instr.mapUpdate]
      simp [run_underlying hT, hg, hk.check, hf, hl, hset, hj', Instr.keyThatStays, hk.same]
    · simp only [setL, hl]
      rw [Array.toList_modify]
      apply List.ext_getElem?
      intro k
      have h2k := congrArg (fun l => l[k]?) h2
      simp only [List.getElem?_map] at h2k
      simp only [List.getElem?_map, List.getElem?_modify, List.getElem?_set]
      by_cases hkj : j = k
      · subst hkj
        have hjl : j < l.length := (List.getElem?_eq_some_iff.1 hs).1
        cases he : es.toList[j]? with
        | none => rw [he, hs] at h2k; simp at h2k
        | some e => simp [hjl]
      · simp [hkj]; simpa using h2k

end
end
end Go.Proofs.YtikimmgileffgaaGreatDoor
end
/- Strings as lists of bytes. No program in sight. -/
section
namespace Go.Proofs.YtikimmgileffgaaGreatDoor
open Go.RowKit

def strO (l : List UInt8) : ByteArray := ⟨l.toArray⟩
theorem size_str (l : List UInt8) : (strO l).size = l.length := by simp [strO, ByteArray.size]
theorem strO_data (l : List UInt8) : (strO l).data.toList = l := by simp [strO]
theorem strO_toList (s : ByteArray) : strO s.data.toList = s := by obtain ⟨⟨l⟩⟩ := s; rfl
theorem strO_inj {a b : List UInt8} (h : strO a = strO b) : a = b := by have := congrArg (fun b : ByteArray => b.data.toList) h; simpa [strO] using this
theorem strO_eq (a b : List UInt8) : (strO a == strO b) = decide (a = b) := by
  rw [bytes_beq, Bool.eq_iff_iff, decide_eq_true_iff, decide_eq_true_iff]
  exact ⟨strO_inj, fun h => by rw [h]⟩
theorem addS {P : Program} (a b : List UInt8) (ha : a.length ≤ 8388608) (hb : b.length ≤ 8388608) (w : World) : (Op.stringOp .add (strO a) (strO b)).run P w = .ok (.string (strO (a ++ b))) w := run_string_add_lists w a b (by omega) (by omega)
end Go.Proofs.YtikimmgileffgaaGreatDoor
end
