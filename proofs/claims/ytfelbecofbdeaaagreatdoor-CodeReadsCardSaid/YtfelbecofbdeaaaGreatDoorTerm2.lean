/- Has, Len, Get, Compare, right of layer 1: they only read: the arena stays, what is made besides is new memory. -/
import Derived.Test.YtfelbecofbdeaaaGreatDoorTerm1
namespace Go.Proofs.YtfelbecofbdeaaaGreatDoor
open Go.RowKit

def hasAll (n : Nat) (xs : List Int) : Bool := decide (∀ x ∈ xs, 0 ≤ x ∧ x < n)

set_option maxHeartbeats 800000 in
theorem has_calls' {xs : List Int} {A B : Option Addr} (c : Nat) {r n cap : Nat} {w : World} (hx : Holds w A (intsV xs)) (hm : xs.length ≤ 9223372036854775807) (h2 : w.cell? ⟨r, 1, none⟩ = some (.slice B n cap)) :
    Calls Tryz.prog 65 #[.pointer (some ⟨r, 0, none⟩), .slice A xs.length c] w fun e w' => e = .returned (.bool (hasAll n xs)) ∧ Below w.heap.size w w' := by
  have hmf : ∀ (fn : Fn) (first cap : Array Value) (w : World), (Instr.makeFunc fn first cap).run Tryz.prog w = .ok (.func fn first cap) w := fun _ _ _ _ => rfl
  have hb : Below w.heap.size w (w.alloc (.cells #[.pointer (some ⟨r, 0, none⟩)] 24)) := (Below.refl _ _).alloc (Nat.le_refl _) _
  have hx1 := hx.below hb
  have h21 : (w.alloc (.cells #[.pointer (some ⟨r, 0, none⟩)] 24)).cell? ⟨r, 1, none⟩ = some (.slice B n cap) := (hb.cell (World.block_lt_of_cell? w _ h2)).trans h2
  have h11 : (w.alloc (.cells #[.pointer (some ⟨r, 0, none⟩)] 24)).cell? ⟨w.heap.size, 0, none⟩ = some (.pointer (some ⟨r, 0, none⟩)) := by rw [World.cell?_alloc_at _ _ _ _ rfl]; rfl
  go_enter Tryz.func65, Tryz.ntmps65
  go_wp2_with fail
  refine (containsFunc_calls c hx1 hm h11 h21).mono ?_
  rintro e w' ⟨rfl, rfl⟩
  go_wp2_with fail
  go_ret
  exact ⟨ret_bool (by unfold hasAll; simp), hb⟩

/-- What a call reads of an arena. -/
theorem IsArena.cells {S : Nat → Prop} {w : World} {r : Nat} {A : Ar} (h : IsArena w r A S) : ∃ g cap bm, w.cell? ⟨r, 0, none⟩ = some (.int .i64 A.limit) ∧ w.cell? ⟨r, 1, none⟩ = some (.slice (some ⟨g, 0, none⟩) A.l.length cap) ∧ w.cell? ⟨r, 2, none⟩ = some (.map (some bm)) ∧
    ∀ (i : Nat) (n : Nd), A.l[i]? = some n → w.cell? ⟨g, i * 5, none⟩ = some (.int .i64 n.kind) ∧ w.cell? ⟨g, i * 5 + 1, none⟩ = some (.int .u64 n.n) ∧ w.cell? ⟨g, i * 5 + 2, none⟩ = some (.int .i64 n.a) ∧ w.cell? ⟨g, i * 5 + 3, none⟩ = some (.int .i64 n.b) ∧ w.cell? ⟨g, i * 5 + 4, none⟩ = some (.int .i64 n.c) := by
  obtain ⟨g, bm, cap, h, _⟩ := h
  refine ⟨g, cap, bm, by rw [cell_of_heap h.root]; rfl, by rw [cell_of_heap h.root]; rfl, by rw [cell_of_heap h.root]; rfl, fun i n hi => ?_⟩
  have hc := h.row.cells (g := g) rfl
  have at_ : ∀ j u, n.cells[j]? = some u → w.cell? ⟨g, i * 5 + j, none⟩ = some u := fun j u hj => by
    have hj5 : j < 5 := (List.getElem?_eq_some_iff.1 hj).1
    have := hc (i * 5 + j) u (by
      rw [flatMap_at Nd.cells 5 (by decide) (fun _ => rfl), show (i * 5 + j) / 5 = i by omega, show (i * 5 + j) % 5 = j by omega, hi]
      exact hj)
    rwa [add_off, Nat.zero_add] at this
  exact ⟨at_ 0 _ rfl, at_ 1 _ rfl, at_ 2 _ rfl, at_ 3 _ rfl, at_ 4 _ rfl⟩

theorem has_calls {S : Nat → Prop} {r : Nat} {R : Ar} {xs : List Int} {A : Option Addr} (c : Nat) {w : World} (hr : IsArena w r R S) (hx : Holds w A (intsV xs)) (hm : xs.length ≤ 9223372036854775807) :
    Calls Tryz.prog 65 #[.pointer (some ⟨r, 0, none⟩), .slice A xs.length c] w fun e w' => e = .returned (.bool (hasAll R.l.length xs)) ∧ Below w.heap.size w w' := by
  obtain ⟨g, cap, bm, _, h2, _⟩ := hr.cells
  exact has_calls' c hx hm h2

set_option maxHeartbeats 400000 in
theorem len_calls {S : Nat → Prop} {r : Nat} {R : Ar} {w : World} (hr : IsArena w r R S) : Calls Tryz.prog 26 #[.pointer (some ⟨r, 0, none⟩)] w fun e w' => e = .returned (.int .i64 R.l.length) ∧ w = w' := by
  obtain ⟨g, cap, bm, _, h2, _⟩ := hr.cells
  clear hr
  go_enter Tryz.func26, Tryz.ntmps26
  go_wp2
  go_ret
  exact ⟨rfl, rfl⟩

theorem hasAll_one (l : List Nd) (x : Int) : hasAll l.length [x] = has l x := by unfold hasAll has; rw [Bool.eq_iff_iff]; simp
theorem has_one {S : Nat → Prop} {r : Nat} {R : Ar} {x : Int} {b c : Nat} {w : World} (hr : IsArena w r R S) (hx : w.cell? ⟨b, 0, none⟩ = some (.int .i64 x)) :
    Calls Tryz.prog 65 #[.pointer (some ⟨r, 0, none⟩), .slice (some ⟨b, 0, none⟩) 1 c] w fun e w' => e = .returned (.bool (has R.l x)) ∧ Below w.heap.size w w' := by
  have := has_calls (xs := [x]) (A := some ⟨b, 0, none⟩) c hr (.inr ⟨b, 0, rfl, fun i v hi => by
    match i, hi with
    | 0, hi => simp [intsV] at hi; subst hi; exact hx⟩) (by simp)
  rwa [hasAll_one] at this
theorem hasAll_two (l : List Nd) (x y : Int) : hasAll l.length [x, y] = (has l x && has l y) := by unfold hasAll has; rw [Bool.eq_iff_iff]; simp
theorem has_two {S : Nat → Prop} {r : Nat} {R : Ar} {x y : Int} {b c : Nat} {w : World} (hr : IsArena w r R S) (hx : w.cell? ⟨b, 0, none⟩ = some (.int .i64 x)) (hy : w.cell? ⟨b, 1, none⟩ = some (.int .i64 y)) :
    Calls Tryz.prog 65 #[.pointer (some ⟨r, 0, none⟩), .slice (some ⟨b, 0, none⟩) 2 c] w fun e w' => e = .returned (.bool (has R.l x && has R.l y)) ∧ Below w.heap.size w w' := by
  have := has_calls (xs := [x, y]) (A := some ⟨b, 0, none⟩) c hr (.inr ⟨b, 0, rfl, fun i v hi => by
    match i, hi with
    | 0, hi => simp [intsV] at hi; subst hi; exact hx
    | 1, hi => simp [intsV] at hi; subst hi; exact hy⟩) (by simp)
  rwa [hasAll_two] at this
set_option maxHeartbeats 1600000 in
set_option maxRecDepth 100000 in
theorem get_calls {S : Nat → Prop} {r : Nat} {R : Ar} (x : Int) {w : World} (hr : IsArena w r R S) :
    Calls Tryz.prog 32 #[.pointer (some ⟨r, 0, none⟩), .int .i64 x] w fun e w' => e = .returned (.tuple #[(getNd R.l x).val, .bool (has R.l x)]) ∧ Below w.heap.size w w' := by
  go_enter Tryz.func32, Tryz.ntmps32
  go_wp2_with fail
  with_reducible refine (has_one (x := x) (hr.below (((Below.refl _ _).alloc (Nat.le_refl _) _).alloc (by simp) _)) (by go_simp)).mono ?_
  rintro e w1 ⟨rfl, hb1⟩
  have hb2 : Below w.heap.size w w1 := (((Below.refl _ _).alloc (Nat.le_refl _) _).alloc (by simp) _).trans (hb1.mono (by simp; omega))
  have hr1 := hr.below hb2
  have hz : w.heap.size + 2 ≤ w1.heap.size := by have := hb1.size; simp at this; omega
  have hlt : w.heap.size < w1.heap.size := by omega
  have hblk := (hb1.block w.heap.size (by simp; omega)).trans ((Below.heap_alloc _ _ _ (by simp)).trans (heap_alloc_new w _))
  obtain ⟨hc, hf⟩ := bcell hb1
  clear hb1
  obtain ⟨g, cap, bm, h0, h1, h2, hn⟩ := hr1.cells
  have Hn := Lib.hid hn
  clear hr1 hr hn h0 h2
  cases hh : has R.l x with
  | true =>
    have hg := Hn.out x.toNat (nd R.l x) (getElem?_of_has hh)
    have hx := has_iff.1 hh
    obtain ⟨g0, g1, g2, g3, g4⟩ := hg
    have hnd := getNd_of_has hh
    generalize nd R.l x = n at *
    have Hnd := Lib.hid hnd
    clear hnd
    obtain ⟨k, rfl⟩ := Int.eq_ofNat_of_zero_le hx.1
    rw [Int.toNat_natCast] at *
    go_wp2_with fail
    have hfin := heap_set5 (v0 := .int .i64 n.kind) (v1 := .int .u64 n.n) (v2 := .int .i64 n.a) (v3 := .int .i64 n.b) (v4 := .int .i64 n.c) hblk
    refine bodyPost_ret (v := .tuple #[n.val, .bool true]) (by simp [results, Tryz.results32, go_sem, Nd.val, cell_of_heap hfin]) rfl ⟨by rw [Hnd.out, hh], ?_⟩
    exact ((((hb2.setCell (Nat.le_refl _) _).setCell (Nat.le_refl _) _).setCell (Nat.le_refl _) _).setCell (Nat.le_refl _) _).setCell (Nat.le_refl _) _
  | false =>
    have Hnd := Lib.hid (getNd_of_not hh)
    clear Hn
    go_wp2_with fail
    have hfin := heap_set5 (v0 := .int .i64 0) (v1 := .int .u64 0) (v2 := .int .i64 0) (v3 := .int .i64 0) (v4 := .int .i64 0) hblk
    refine bodyPost_ret (v := .tuple #[Nd.zero.val, .bool false]) (by simp [results, Tryz.results32, go_sem, Nd.val, Nd.zero, cell_of_heap hfin]) rfl ⟨by rw [Hnd.out, hh], ?_⟩
    exact ((((hb2.setCell (Nat.le_refl _) _).setCell (Nat.le_refl _) _).setCell (Nat.le_refl _) _).setCell (Nat.le_refl _) _).setCell (Nat.le_refl _) _
end Go.Proofs.YtfelbecofbdeaaaGreatDoor
