/- The document's calls of layer 1 that only read: Has, part, Many, Compare. -/
import Derived.Test.YtfelbecofbdeaaaGreatDoorOwn
import Derived.Test.YtfelbecofbdeaaaGreatDoorAr
import Derived.Test.YtfelbecofbdeaaaGreatDoorOpen
import Derived.Lib.Hide
import Derived.Deep.QuietTactic
import Derived.BigQuiet
import Derived.Deep.RegionHeld3
namespace Go.Proofs.YtfelbecofbdeaaaGreatDoor
open Go.RowKit

/-- The document's arena as a value: its terms lie in block g. -/
def refV (A : Ar) (g cap : Nat) : Value := .agg #[.int .i64 A.limit, .slice (some ⟨g, 0, none⟩) A.l.length cap]
def RefAt (w : World) (g cap : Nat) (l : List Nd) : Prop := w.ownsRow 0 65 5 (.slice (some ⟨g, 0, none⟩) l.length cap) l.length (l.flatMap Nd.cells)
theorem RefAt.below {w w' : World} {g cap : Nat} {l : List Nd} (h : RefAt w g cap l) (u : Below w.heap.size w w') : RefAt w' g cap l := ownsRow_upd' (S := None) h (Upd.of_below u) (fun _ _ h => h)
theorem RefAt.node {w : World} {g cap : Nat} {l : List Nd} (h : RefAt w g cap l) {i : Nat} {n : Nd} (hi : l[i]? = some n) :
    w.cell? ⟨g, i * 5, none⟩ = some (.int .i64 n.kind) ∧ w.cell? ⟨g, i * 5 + 1, none⟩ = some (.int .u64 n.n) ∧ w.cell? ⟨g, i * 5 + 2, none⟩ = some (.int .i64 n.a) ∧ w.cell? ⟨g, i * 5 + 3, none⟩ = some (.int .i64 n.b) ∧ w.cell? ⟨g, i * 5 + 4, none⟩ = some (.int .i64 n.c) := by
  have hc := h.cells (g := g) rfl
  have at_ : ∀ j u, n.cells[j]? = some u → w.cell? ⟨g, i * 5 + j, none⟩ = some u := fun j u hj => by
    have hj5 : j < 5 := (List.getElem?_eq_some_iff.1 hj).1
    have := hc (i * 5 + j) u (by
      rw [flatMap_at Nd.cells 5 (by decide) (fun _ => rfl), show (i * 5 + j) / 5 = i by omega, show (i * 5 + j) % 5 = j by omega, hi]
      exact hj)
    rwa [add_off, Nat.zero_add] at this
  exact ⟨at_ 0 _ rfl, at_ 1 _ rfl, at_ 2 _ rfl, at_ 3 _ rfl, at_ 4 _ rfl⟩

theorem ret_bool' {a b : Bool} (h : a = b) : Ending.returned (.bool a) = .returned (.bool b) := by rw [h]
set_option maxHeartbeats 400000 in
theorem rHas_calls (A : Ar) (g cap : Nat) (x : Int) (w : World) : Calls Tryz.prog 14 #[refV A g cap, .int .i64 x] w fun e w' => e = .returned (.bool (has A.l x)) ∧ Below w.heap.size w w' := by
  unfold refV
  by_cases h0 : 0 ≤ x
  · have hd : decide (0 ≤ x) = true := decide_eq_true h0
    have Hh := Lib.hid (show has A.l x = decide (x < A.l.length) by simp [has, h0])
    clear h0
    go_enter Tryz.func14, Tryz.ntmps14
    go_wp2_with (go_quiet (fail))
    go_ret
    exact ⟨by rw [Hh.out]; rfl, (Below.refl _ _).alloc (Nat.le_refl _) _⟩
  · have hd : decide (0 ≤ x) = false := decide_eq_false h0
    have Hh := Lib.hid (show has A.l x = false by simp [has, h0])
    clear h0
    go_enter Tryz.func14, Tryz.ntmps14
    go_wp2_with (go_quiet (fail))
    go_ret
    exact ⟨by rw [Hh.out]; rfl, (Below.refl _ _).alloc (Nat.le_refl _) _⟩
set_option maxHeartbeats 400000 in
theorem rPart_calls (x : Nd) (k : Nat) (w : World) : Calls Tryz.prog 90 #[x.val, .int .i64 k] w fun e w' => e = .returned (.int .i64 (x.part k)) ∧ Below w.heap.size w w' := by
  unfold Nd.val
  have hb := (Below.refl w.heap.size w).alloc (Nat.le_refl _) (.cells #[.int .i64 x.kind, .int .u64 x.n, .int .i64 x.a, .int .i64 x.b, .int .i64 x.c] 65)
  match k with
  | 0 =>
    go_enter Tryz.func90, Tryz.ntmps90
    go_wp2
    go_ret
    exact ⟨rfl, hb⟩
  | 1 =>
    go_enter Tryz.func90, Tryz.ntmps90
    go_wp2
    go_ret
    exact ⟨rfl, hb⟩
  | k + 2 =>
    have h0 : (((k + 2 : Nat) : Int) == 0) = false := by simp; omega
    have h1 : (((k + 2 : Nat) : Int) == 1) = false := by simp; omega
    have Hp := Lib.hid (show x.part (k + 2) = x.c from rfl)
    generalize ((k + 2 : Nat) : Int) = q at *
    go_enter Tryz.func90, Tryz.ntmps90
    go_wp2
    go_ret
    exact ⟨by rw [Hp.out]; rfl, hb⟩
def manyI (k : Int) : Int := if k < 0 ∨ 9 < k then -1 else many k
set_option maxHeartbeats 800000 in
theorem rMany_calls (k : Int) (w : World) : Calls Tryz.prog 52 #[.int .i64 k] w fun e w' => e = .returned (.int .i64 (manyI k)) ∧ w = w' := by
  by_cases h : 0 ≤ k ∧ k ≤ 9
  · have : k = 0 ∨ k = 1 ∨ k = 2 ∨ k = 3 ∨ k = 4 ∨ k = 5 ∨ k = 6 ∨ k = 7 ∨ k = 8 ∨ k = 9 := by omega
    rcases this with rfl | rfl | rfl | rfl | rfl | rfl | rfl | rfl | rfl | rfl
    all_goals
      go_enter Tryz.func52, Tryz.ntmps52
      go_wp2
      go_ret
      exact ⟨rfl, rfl⟩
  · have Hm := Lib.hid (show manyI k = -1 by unfold manyI; rw [if_pos (by omega)])
    have e0 : (k == 0) = false := by simp; omega
    have e1 : (k == 1) = false := by simp; omega
    have e2 : (k == 2) = false := by simp; omega
    have e3 : (k == 3) = false := by simp; omega
    have e4 : (k == 4) = false := by simp; omega
    have e5 : (k == 5) = false := by simp; omega
    have e6 : (k == 6) = false := by simp; omega
    have e7 : (k == 7) = false := by simp; omega
    have e8 : (k == 8) = false := by simp; omega
    have e9 : (k == 9) = false := by simp; omega
    clear h
    go_enter Tryz.func52, Tryz.ntmps52
    go_wp2
    go_ret
    exact ⟨by rw [Hm.out]; rfl, rfl⟩
end Go.Proofs.YtfelbecofbdeaaaGreatDoor
