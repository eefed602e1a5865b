/- How an arena lies in memory, and the small calls of layer 1 that only read: parts, numbered, Has, Len, the library's cmp. An arena is left as it was. -/
import Derived.Test.YtfelbecofbdeaaaGreatDoorAr
import Derived.Test.YtfelbecofbdeaaaGreatDoorMaps
import Derived.Test.YtfelbecofbdeaaaGreatDoorOpen
import Derived.Lib.Hide
import Derived.Deep.QuietTactic
import Derived.BigQuiet
import Derived.Deep.RegionHeld3
namespace Go.Proofs.YtfelbecofbdeaaaGreatDoor
open Go.RowKit

/-- The entries of an arena's map. -/
def entriesOf (l : List Nd) : List (Nd × Value) := l.zipIdx.map fun p => (p.1, Value.int .i64 p.2)
/-- An arena lies at block r, its terms in block g, its map in block bm. -/
structure ArenaAt (w : World) (r g bm cap : Nat) (A : Ar) : Prop where
  root : w.heap[r]? = some (.cells #[.int .i64 A.limit, .slice (some ⟨g, 0, none⟩) A.l.length cap, .map (some bm)] 101 (0, 0))
  row : w.ownsRow 0 61 5 (.slice (some ⟨g, 0, none⟩) A.l.length cap) A.l.length (A.l.flatMap Nd.cells)
  map : MapIs Nd.val w bm (entriesOf A.l)
  wf : Wf A.l
  room : A.l.length ≤ A.limit ∧ A.limit ≤ 65536

/-- An arena at block r, all of it in blocks of S. -/
def IsArena (w : World) (r : Nat) (A : Ar) (S : Nat → Prop) : Prop :=
  ∃ g bm cap, ArenaAt w r g bm cap A ∧ S r ∧ S g ∧ S bm ∧ ∀ b, S b → b < w.heap.size

theorem ArenaAt.keep {S : Nat → Prop} {w w' : World} {r g bm cap : Nat} {A : Ar} (h : ArenaAt w r g bm cap A) (u : Upd S w w') (h1 : ¬ S r) (h2 : ¬ S g) (h3 : ¬ S bm) : ArenaAt w' r g bm cap A := by
  exact ⟨u.heap h.root h1, ownsRow_upd' h.row u (fun k hk => by simp [Value.ownBlock] at hk; subst hk; exact h2), h.map.upd u h3, h.wf, h.room⟩
theorem IsArena.keep {S T : Nat → Prop} {w w' : World} {r : Nat} {A : Ar} (h : IsArena w r A S) (u : Upd T w w') (hd : ∀ b, S b → ¬ T b) : IsArena w' r A S := by
  obtain ⟨g, bm, cap, h, h1, h2, h3, h4⟩ := h
  exact ⟨g, bm, cap, h.keep u (hd _ h1) (hd _ h2) (hd _ h3), h1, h2, h3, fun b hb => Nat.lt_of_lt_of_le (h4 b hb) u.size⟩
theorem IsArena.below {S : Nat → Prop} {w w' : World} {r : Nat} {A : Ar} (h : IsArena w r A S) (u : Below w.heap.size w w') : IsArena w' r A S :=
  h.keep (Upd.of_below (S := None) u) (fun _ _ h => h)
theorem IsArena.lt {S : Nat → Prop} {w : World} {r : Nat} {A : Ar} (h : IsArena w r A S) : ∀ b, S b → b < w.heap.size := by
  obtain ⟨g, bm, cap, h, h1, h2, h3, h4⟩ := h; exact h4
theorem IsArena.wf {S : Nat → Prop} {w : World} {r : Nat} {A : Ar} (h : IsArena w r A S) : Wf A.l := by
  obtain ⟨g, bm, cap, h, _⟩ := h; exact h.wf
theorem IsArena.room {S : Nat → Prop} {w : World} {r : Nat} {A : Ar} (h : IsArena w r A S) : A.l.length ≤ A.limit ∧ A.limit ≤ 65536 := by
  obtain ⟨g, bm, cap, h, _⟩ := h; exact h.room


theorem ret_bool {a b : Bool} (h : a = b) : Ending.returned (.bool a) = .returned (.bool b) := by rw [h]
theorem ret_int {k : IntKind} {a b : Int} (h : a = b) : Ending.returned (.int k a) = .returned (.int k b) := by rw [h]
/-- [10]int: how many terms each kind is made of. -/
def tenV : Value := .agg #[.int .i64 0, .int .i64 0, .int .i64 1, .int .i64 2, .int .i64 2, .int .i64 2, .int .i64 2, .int .i64 3, .int .i64 2, .int .i64 0]
set_option maxHeartbeats 400000 in
theorem parts_calls (w : World) : Calls Tryz.prog 88 #[] w fun e w' => e = .returned tenV ∧ Below w.heap.size w w' := by
  go_enter Tryz.func88, Tryz.ntmps88
  go_wp2
  exact bodyPost_ret (v := tenV) (by simp [results, Tryz.results88, go_sem, tenV]) rfl ⟨rfl, by first | exact (Below.refl _ _).alloc (Nat.le_refl _) _ | exact ((Below.refl _ _).alloc (Nat.le_refl _) _).setCell (by simp) _⟩
set_option maxHeartbeats 800000 in
theorem numbered_calls (x : Nd) (w : World) (h0 : 0 ≤ x.n) (h1 : x.n ≤ 18446744073709551615) : Calls Tryz.prog 87 #[x.val] w fun e w' => e = .returned (.bool (numberedP x)) ∧ Below w.heap.size w w' := by
  unfold Nd.val
  go_enter Tryz.func87, Tryz.ntmps87
  go_wp2
  all_goals go_ret
  all_goals refine ⟨?_, (Below.refl _ _).alloc (Nat.le_refl _) _⟩
  all_goals simp only [beq_iff_eq, beq_eq_false_iff_ne] at *
  all_goals refine ret_bool ?_
  all_goals simp [numberedP, *]
  all_goals first | omega | (rw [Bool.eq_iff_iff]; simp)

set_option maxHeartbeats 400000 in
theorem isNaNint_calls (x : Int) (w : World) : Calls Tryz.prog 129 #[.int .i64 x] w fun e w' => e = .returned (.bool false) ∧ w = w' := by
  have h1 : (x != x) = false := by simp
  go_enter Tryz.func129, Tryz.ntmps129
  go_wp2
  go_ret
  exact ⟨rfl, rfl⟩
set_option maxHeartbeats 800000 in
theorem cmpInt_calls (x y : Int) (w : World) : Calls Tryz.prog 114 #[.int .i64 x, .int .i64 y] w fun e w' => e = .returned (.int .i64 (cmp2 x y)) ∧ w = w' := by
  go_enter Tryz.func114, Tryz.ntmps114
  go_wp2_with fail
  refine (isNaNint_calls x w).mono ?_
  rintro e w' ⟨rfl, rfl⟩
  go_wp2_with fail
  refine (isNaNint_calls y w).mono ?_
  rintro e w' ⟨rfl, rfl⟩
  go_wp2_with fail
  all_goals go_ret
  all_goals refine ⟨ret_int ?_, rfl⟩
  all_goals unfold cmp2
  all_goals (repeat' split) <;> first | rfl | omega
set_option maxHeartbeats 400000 in
theorem isNaNu64_calls (x : Int) (w : World) : Calls Tryz.prog 130 #[.int .u64 x] w fun e w' => e = .returned (.bool false) ∧ w = w' := by
  have h1 : (x != x) = false := by simp
  go_enter Tryz.func130, Tryz.ntmps130
  go_wp2
  go_ret
  exact ⟨rfl, rfl⟩
set_option maxHeartbeats 800000 in
theorem cmpU64_calls (x y : Int) (w : World) : Calls Tryz.prog 116 #[.int .u64 x, .int .u64 y] w fun e w' => e = .returned (.int .i64 (cmp2 x y)) ∧ w = w' := by
  go_enter Tryz.func116, Tryz.ntmps116
  go_wp2_with fail
  refine (isNaNu64_calls x w).mono ?_
  rintro e w' ⟨rfl, rfl⟩
  go_wp2_with fail
  refine (isNaNu64_calls y w).mono ?_
  rintro e w' ⟨rfl, rfl⟩
  go_wp2_with fail
  all_goals go_ret
  all_goals refine ⟨ret_int ?_, rfl⟩
  all_goals unfold cmp2
  all_goals (repeat' split) <;> first | rfl | omega
set_option maxHeartbeats 400000 in
theorem has1_calls (x : Int) {w : World} {pb r cap n : Nat} {A : Option Addr} (h1 : w.cell? ⟨pb, 0, none⟩ = some (.pointer (some ⟨r, 0, none⟩))) (h2 : w.cell? ⟨r, 1, none⟩ = some (.slice A n cap)) :
    Calls Tryz.prog 95 #[.int .i64 x, .pointer (some ⟨pb, 0, none⟩)] w fun e w' => e = .returned (.bool (!decide (0 ≤ x ∧ x < n))) ∧ w = w' := by
  by_cases hx : x < 0
  · have hd : decide (x < 0) = true := decide_eq_true hx
    have hd2 : decide (0 ≤ x ∧ x < n) = false := decide_eq_false (by omega)
    go_enter Tryz.func95, Tryz.ntmps95
    go_wp2
    go_ret
    exact ⟨by rw [hd2]; rfl, rfl⟩
  · have hd : decide (x < 0) = false := decide_eq_false hx
    go_enter Tryz.func95, Tryz.ntmps95
    go_wp2
    go_ret
    exact ⟨ret_bool (by rw [Bool.eq_iff_iff]; simp <;> omega), rfl⟩

/-- The place of the first that is no ref; the length, where there is none. -/
def firstBad (n : Nat) : List Int → Nat
  | [] => 0
  | x :: r => if 0 ≤ x ∧ x < n then firstBad n r + 1 else 0
theorem firstBad_le (n : Nat) : ∀ l, firstBad n l ≤ l.length
  | [] => Nat.le_refl _
  | x :: r => by
    unfold firstBad
    have := firstBad_le n r
    split
    · simp; omega
    · simp
theorem firstBad_at (n : Nat) : ∀ (l : List Int) (k : Nat) (x : Int), k ≤ firstBad n l → l[k]? = some x → ((0 ≤ x ∧ x < n) ↔ k < firstBad n l)
  | [], k, x, _, h => by simp at h
  | y :: r, 0, x, _, h => by
    simp at h; subst h
    unfold firstBad; split <;> simp_all
  | y :: r, k + 1, x, hk, h => by
    simp at h
    unfold firstBad at hk ⊢
    split at hk
    · rename_i hy
      rw [if_pos hy, firstBad_at n r k x (by omega) h]; omega
    · omega
theorem firstBad_all (n : Nat) : ∀ l, (firstBad n l = l.length) ↔ ∀ x ∈ l, 0 ≤ x ∧ x < n
  | [] => by simp [firstBad]
  | x :: r => by
    unfold firstBad
    have := firstBad_le n r
    have ih := firstBad_all n r
    split
    · rename_i h; simp [h, ih]
    · rename_i h; simp [h]

def badIx (n : Nat) (xs : List Int) : Int := if firstBad n xs = xs.length then -1 else firstBad n xs
/-- The ints as values. -/
def intsV (l : List Int) : List Value := l.map (Value.int .i64)
theorem intsV_length (l : List Int) : (intsV l).length = l.length := List.length_map ..
theorem intsV_at {w : World} {A : Option Addr} {l : List Int} (h : Holds w A (intsV l)) {k : Nat} (hk : k < l.length) : ∃ b o, A = some ⟨b, o, none⟩ ∧ w.cell? ⟨b, o + k, none⟩ = some (.int .i64 l[k]) := by
  rcases h with h | ⟨b, o, rfl, h⟩
  · simp [intsV] at h; subst h; simp at hk
  · exact ⟨b, o, rfl, h k _ (by simp [intsV, hk])⟩

set_option maxHeartbeats 1600000 in
set_option maxRecDepth 100000 in
theorem indexFunc_calls {xs : List Int} {A B : Option Addr} (c : Nat) {pb r n cap : Nat} {w : World} (hx : Holds w A (intsV xs)) (hm : xs.length ≤ 9223372036854775807) (h1 : w.cell? ⟨pb, 0, none⟩ = some (.pointer (some ⟨r, 0, none⟩))) (h2 : w.cell? ⟨r, 1, none⟩ = some (.slice B n cap)) :
    Calls Tryz.prog 81 #[.slice A xs.length c, .func (.func 95) #[] #[.pointer (some ⟨pb, 0, none⟩)]] w fun e w' => e = .returned (.int .i64 (badIx n xs)) ∧ w = w' := by
  have hle := firstBad_le n xs
  have Hat := Lib.hid (firstBad_at n xs)
  go_enter Tryz.func81, Tryz.ntmps81
  go_wp2
  go_loop [8] (fun i => ∃ k : Nat, k ≤ firstBad n xs ∧ i = .int .i64 k) (fun i => xs.length - (intOf i).toNat)
  case atStart => exact ⟨0, Nat.zero_le _, rfl⟩
  case round =>
    obtain ⟨k, hk, rfl⟩ := hrel
    by_cases hlt : k < xs.length
    · obtain ⟨b, o, hA, hc⟩ := intsV_at hx hlt
      have hat := Hat.out k xs[k] hk (by simp [hlt])
      subst hA
      generalize xs[k] = x at *
      by_cases hbad : k < firstBad n xs
      · have hd : decide (0 ≤ x ∧ x < n) = true := decide_eq_true (hat.2 hbad)
        clear hat
        go_wp2_with fail
        refine (has1_calls x h1 h2).mono ?_
        rintro e w' ⟨rfl, rfl⟩
        rw [hd]
        go_wp2_with fail
        go_round
        case rel => exact ⟨k + 1, by omega, by go_num⟩
        case measure => simp [intOf]; omega
      · have hd : decide (0 ≤ x ∧ x < n) = false := decide_eq_false (fun h => hbad (hat.1 h))
        have he : badIx n xs = k := by unfold badIx; rw [if_neg (by omega)]; omega
        have He := Lib.hid he
        clear hat he
        go_wp2_with fail
        refine (has1_calls x h1 h2).mono ?_
        rintro e w' ⟨rfl, rfl⟩
        rw [hd]
        go_wp2_with fail
        go_ret
        exact ⟨ret_int (by rw [He.out]), rfl⟩
    · have he : badIx n xs = -1 := by unfold badIx; rw [if_pos (by omega)]
      have He := Lib.hid he
      clear he
      go_wp2_with fail
      go_ret
      exact ⟨ret_int (by rw [He.out]), rfl⟩

theorem containsFunc_calls {xs : List Int} {A B : Option Addr} (c : Nat) {pb r n cap : Nat} {w : World} (hx : Holds w A (intsV xs)) (hm : xs.length ≤ 9223372036854775807) (h1 : w.cell? ⟨pb, 0, none⟩ = some (.pointer (some ⟨r, 0, none⟩))) (h2 : w.cell? ⟨r, 1, none⟩ = some (.slice B n cap)) :
    Calls Tryz.prog 94 #[.slice A xs.length c, .func (.func 95) #[] #[.pointer (some ⟨pb, 0, none⟩)]] w fun e w' => e = .returned (.bool (!decide (∀ x ∈ xs, 0 ≤ x ∧ x < n))) ∧ w = w' := by
  have ha := firstBad_all n xs
  have hl := firstBad_le n xs
  have hr : (decide ((0 : Int) ≤ badIx n xs)) = !decide (∀ x ∈ xs, 0 ≤ x ∧ x < n) := by
    unfold badIx
    by_cases h : firstBad n xs = xs.length
    · rw [if_pos h, decide_eq_true (ha.1 h)]; rfl
    · rw [if_neg h, decide_eq_false (fun e => h (ha.2 e))]; simp
  have Hr := Lib.hid hr
  clear ha hl hr
  go_enter Tryz.func94, Tryz.ntmps94
  go_wp2_with fail
  refine (indexFunc_calls c hx hm h1 h2).mono ?_
  rintro e w' ⟨rfl, rfl⟩
  generalize badIx n xs = q at *
  go_wp2_with fail
  go_ret
  exact ⟨ret_bool Hr.out, rfl⟩
/-! Has, Len, Get, Compare, right of layer 1: they only read: the arena stays, what is made besides is new memory. -/
def hasAll (n : Nat) (xs : List Int) : Bool := decide (∀ x ∈ xs, 0 ≤ x ∧ x < n)

set_option maxHeartbeats 800000 in
theorem has_calls' {xs : List Int} {A B : Option Addr} (c : Nat) {r n cap : Nat} {w : World} (hx : Holds w A (intsV xs)) (hm : xs.length ≤ 9223372036854775807) (h2 : w.cell? ⟨r, 1, none⟩ = some (.slice B n cap)) :
    Calls Tryz.prog 65 #[.pointer (some ⟨r, 0, none⟩), .slice A xs.length c] w fun e w' => e = .returned (.bool (hasAll n xs)) ∧ Below w.heap.size w w' := by
  have hmf : ∀ (fn : Fn) (first cap : Array Value) (w : World), (Instr.makeFunc fn first cap).run Tryz.prog w = .ok (.func fn first cap) w := fun _ _ _ _ => rfl
  have hb : Below w.heap.size w (w.alloc (.cells #[.pointer (some ⟨r, 0, none⟩)] 24)) := (Below.refl _ _).alloc (Nat.le_refl _) _
  have hx1 := hx.below hb
  have h21 : (w.alloc (.cells #[.pointer (some ⟨r, 0, none⟩)] 24)).cell? ⟨r, 1, none⟩ = some (.slice B n cap) := (hb.cell (World.block_lt_of_cell? w _ h2)).trans h2
  have h11 : (w.alloc (.cells #[.pointer (some ⟨r, 0, none⟩)] 24)).cell? ⟨w.heap.size, 0, none⟩ = some (.pointer (some ⟨r, 0, none⟩)) := by rw [World.cell?_alloc_at _ _ _ _ rfl]; rfl
  go_enter Tryz.func65, Tryz.ntmps65
  go_wp2_with fail
  refine (containsFunc_calls c hx1 hm h11 h21).mono ?_
  rintro e w' ⟨rfl, rfl⟩
  go_wp2_with fail
  go_ret
  exact ⟨ret_bool (by unfold hasAll; simp), hb⟩

/-- What a call reads of an arena. -/
theorem IsArena.cells {S : Nat → Prop} {w : World} {r : Nat} {A : Ar} (h : IsArena w r A S) : ∃ g cap bm, w.cell? ⟨r, 0, none⟩ = some (.int .i64 A.limit) ∧ w.cell? ⟨r, 1, none⟩ = some (.slice (some ⟨g, 0, none⟩) A.l.length cap) ∧ w.cell? ⟨r, 2, none⟩ = some (.map (some bm)) ∧
    ∀ (i : Nat) (n : Nd), A.l[i]? = some n → w.cell? ⟨g, i * 5, none⟩ = some (.int .i64 n.kind) ∧ w.cell? ⟨g, i * 5 + 1, none⟩ = some (.int .u64 n.n) ∧ w.cell? ⟨g, i * 5 + 2, none⟩ = some (.int .i64 n.a) ∧ w.cell? ⟨g, i * 5 + 3, none⟩ = some (.int .i64 n.b) ∧ w.cell? ⟨g, i * 5 + 4, none⟩ = some (.int .i64 n.c) := by
  obtain ⟨g, bm, cap, h, _⟩ := h
  refine ⟨g, cap, bm, by rw [cell_of_heap h.root]; rfl, by rw [cell_of_heap h.root]; rfl, by rw [cell_of_heap h.root]; rfl, fun i n hi => ?_⟩
  have hc := h.row.cells (g := g) rfl
  have at_ : ∀ j u, n.cells[j]? = some u → w.cell? ⟨g, i * 5 + j, none⟩ = some u := fun j u hj => by
    have hj5 : j < 5 := (List.getElem?_eq_some_iff.1 hj).1
    have := hc (i * 5 + j) u (by
      rw [flatMap_at Nd.cells 5 (by decide) (fun _ => rfl), show (i * 5 + j) / 5 = i by omega, show (i * 5 + j) % 5 = j by omega, hi]
      exact hj)
    rwa [add_off, Nat.zero_add] at this
  exact ⟨at_ 0 _ rfl, at_ 1 _ rfl, at_ 2 _ rfl, at_ 3 _ rfl, at_ 4 _ rfl⟩

theorem has_calls {S : Nat → Prop} {r : Nat} {R : Ar} {xs : List Int} {A : Option Addr} (c : Nat) {w : World} (hr : IsArena w r R S) (hx : Holds w A (intsV xs)) (hm : xs.length ≤ 9223372036854775807) :
    Calls Tryz.prog 65 #[.pointer (some ⟨r, 0, none⟩), .slice A xs.length c] w fun e w' => e = .returned (.bool (hasAll R.l.length xs)) ∧ Below w.heap.size w w' := by
  obtain ⟨g, cap, bm, _, h2, _⟩ := hr.cells
  exact has_calls' c hx hm h2

set_option maxHeartbeats 400000 in
theorem len_calls {S : Nat → Prop} {r : Nat} {R : Ar} {w : World} (hr : IsArena w r R S) : Calls Tryz.prog 26 #[.pointer (some ⟨r, 0, none⟩)] w fun e w' => e = .returned (.int .i64 R.l.length) ∧ w = w' := by
  obtain ⟨g, cap, bm, _, h2, _⟩ := hr.cells
  clear hr
  go_enter Tryz.func26, Tryz.ntmps26
  go_wp2
  go_ret
  exact ⟨rfl, rfl⟩

theorem hasAll_one (l : List Nd) (x : Int) : hasAll l.length [x] = has l x := by unfold hasAll has; rw [Bool.eq_iff_iff]; simp
theorem has_one {S : Nat → Prop} {r : Nat} {R : Ar} {x : Int} {b c : Nat} {w : World} (hr : IsArena w r R S) (hx : w.cell? ⟨b, 0, none⟩ = some (.int .i64 x)) :
    Calls Tryz.prog 65 #[.pointer (some ⟨r, 0, none⟩), .slice (some ⟨b, 0, none⟩) 1 c] w fun e w' => e = .returned (.bool (has R.l x)) ∧ Below w.heap.size w w' := by
  have := has_calls (xs := [x]) (A := some ⟨b, 0, none⟩) c hr (.inr ⟨b, 0, rfl, fun i v hi => by
    match i, hi with
    | 0, hi => simp [intsV] at hi; subst hi; exact hx⟩) (by simp)
  rwa [hasAll_one] at this
theorem hasAll_two (l : List Nd) (x y : Int) : hasAll l.length [x, y] = (has l x && has l y) := by unfold hasAll has; rw [Bool.eq_iff_iff]; simp
theorem has_two {S : Nat → Prop} {r : Nat} {R : Ar} {x y : Int} {b c : Nat} {w : World} (hr : IsArena w r R S) (hx : w.cell? ⟨b, 0, none⟩ = some (.int .i64 x)) (hy : w.cell? ⟨b, 1, none⟩ = some (.int .i64 y)) :
    Calls Tryz.prog 65 #[.pointer (some ⟨r, 0, none⟩), .slice (some ⟨b, 0, none⟩) 2 c] w fun e w' => e = .returned (.bool (has R.l x && has R.l y)) ∧ Below w.heap.size w w' := by
  have := has_calls (xs := [x, y]) (A := some ⟨b, 0, none⟩) c hr (.inr ⟨b, 0, rfl, fun i v hi => by
    match i, hi with
    | 0, hi => simp [intsV] at hi; subst hi; exact hx
    | 1, hi => simp [intsV] at hi; subst hi; exact hy⟩) (by simp)
  rwa [hasAll_two] at this
set_option maxHeartbeats 1600000 in
set_option maxRecDepth 100000 in
theorem get_calls {S : Nat → Prop} {r : Nat} {R : Ar} (x : Int) {w : World} (hr : IsArena w r R S) :
    Calls Tryz.prog 32 #[.pointer (some ⟨r, 0, none⟩), .int .i64 x] w fun e w' => e = .returned (.tuple #[(getNd R.l x).val, .bool (has R.l x)]) ∧ Below w.heap.size w w' := by
  go_enter Tryz.func32, Tryz.ntmps32
  go_wp2_with fail
  with_reducible refine (has_one (x := x) (hr.below (((Below.refl _ _).alloc (Nat.le_refl _) _).alloc (by simp) _)) (by go_simp)).mono ?_
  rintro e w1 ⟨rfl, hb1⟩
  have hb2 : Below w.heap.size w w1 := (((Below.refl _ _).alloc (Nat.le_refl _) _).alloc (by simp) _).trans (hb1.mono (by simp; omega))
  have hr1 := hr.below hb2
  have hz : w.heap.size + 2 ≤ w1.heap.size := by have := hb1.size; simp at this; omega
  have hlt : w.heap.size < w1.heap.size := by omega
  have hblk := (hb1.block w.heap.size (by simp; omega)).trans ((Below.heap_alloc _ _ _ (by simp)).trans (heap_alloc_new w _))
  obtain ⟨hc, hf⟩ := bcell hb1
  clear hb1
  obtain ⟨g, cap, bm, h0, h1, h2, hn⟩ := hr1.cells
  have Hn := Lib.hid hn
  clear hr1 hr hn h0 h2
  cases hh : has R.l x with
  | true =>
    have hg := Hn.out x.toNat (nd R.l x) (getElem?_of_has hh)
    have hx := has_iff.1 hh
    obtain ⟨g0, g1, g2, g3, g4⟩ := hg
    have hnd := getNd_of_has hh
    generalize nd R.l x = n at *
    have Hnd := Lib.hid hnd
    clear hnd
    obtain ⟨k, rfl⟩ := Int.eq_ofNat_of_zero_le hx.1
    rw [Int.toNat_natCast] at *
    go_wp2_with fail
    have hfin := heap_set5 (v0 := .int .i64 n.kind) (v1 := .int .u64 n.n) (v2 := .int .i64 n.a) (v3 := .int .i64 n.b) (v4 := .int .i64 n.c) hblk
    refine bodyPost_ret (v := .tuple #[n.val, .bool true]) (by simp [results, Tryz.results32, go_sem, Nd.val, cell_of_heap hfin]) rfl ⟨by rw [Hnd.out, hh], ?_⟩
    exact ((((hb2.setCell (Nat.le_refl _) _).setCell (Nat.le_refl _) _).setCell (Nat.le_refl _) _).setCell (Nat.le_refl _) _).setCell (Nat.le_refl _) _
  | false =>
    have Hnd := Lib.hid (getNd_of_not hh)
    clear Hn
    go_wp2_with fail
    have hfin := heap_set5 (v0 := .int .i64 0) (v1 := .int .u64 0) (v2 := .int .i64 0) (v3 := .int .i64 0) (v4 := .int .i64 0) hblk
    refine bodyPost_ret (v := .tuple #[Nd.zero.val, .bool false]) (by simp [results, Tryz.results32, go_sem, Nd.val, Nd.zero, cell_of_heap hfin]) rfl ⟨by rw [Hnd.out, hh], ?_⟩
    exact ((((hb2.setCell (Nat.le_refl _) _).setCell (Nat.le_refl _) _).setCell (Nat.le_refl _) _).setCell (Nat.le_refl _) _).setCell (Nat.le_refl _) _
end Go.Proofs.YtfelbecofbdeaaaGreatDoor
