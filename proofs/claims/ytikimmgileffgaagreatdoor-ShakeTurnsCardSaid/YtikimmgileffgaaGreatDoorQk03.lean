/- Packed by packn.py: Term1, Tok1, Cat, Own. -/
import Derived.Test.YtikimmgileffgaaGreatDoorQk02
import Derived.Test.YtikimmgileffgaaGreatDoorQk01
import Derived.Lib.Hide
import Derived.Deep.QuietTactic
import Derived.BigQuiet
import Derived.Deep.RegionHeld3
import Derived.Deep.RegionLaw
import Derived.Deep.AppendLies
import Derived.Laws.OwnMore
/- How an arena lies in memory, and the small calls of layer 1 that only read: parts, numbered, Has, Len, the library's cmp. An arena is left as it was. -/
section
namespace Go.Proofs.YtikimmgileffgaaGreatDoor
open Go.RowKit

/-- The entries of an arena's map. -/
def entriesOf (l : List Nd) : List (Nd × Value) := l.zipIdx.map fun p => (p.1, Value.int .i64 p.2)
/-- An arena lies at block r, its terms in block g, its map in block bm. -/
structure ArenaAt (w : World) (r g bm cap : Nat) (A : Ar) : Prop where
  root : w.heap[r]? = some (.cells #[.int .i64 A.limit, .slice (some ⟨g, 0, none⟩) A.l.length cap, .map (some bm)] 141 (0, 0))
  row : w.ownsRow 0 103 5 (.slice (some ⟨g, 0, none⟩) A.l.length cap) A.l.length (A.l.flatMap Nd.cells)
  map : MapIs Nd.val w bm (entriesOf A.l)
  wf : Wf A.l
  room : A.l.length ≤ A.limit ∧ A.limit ≤ 65536

/-- An arena at block r, all of it in blocks of S. -/
def IsArena (w : World) (r : Nat) (A : Ar) (S : Nat → Prop) : Prop :=
  ∃ g bm cap, ArenaAt w r g bm cap A ∧ S r ∧ S g ∧ S bm ∧ ∀ b, S b → b < w.heap.size

theorem ArenaAt.keep {S : Nat → Prop} {w w' : World} {r g bm cap : Nat} {A : Ar} (h : ArenaAt w r g bm cap A) (u : Upd S w w') (h1 : ¬ S r) (h2 : ¬ S g) (h3 : ¬ S bm) : ArenaAt w' r g bm cap A := by
  exact ⟨u.heap h.root h1, ownsRow_upd' h.row u (fun k hk => by simp [Value.ownBlock] at hk; subst hk; exact h2), h.map.upd u h3, h.wf, h.room⟩
theorem IsArena.keep {S T : Nat → Prop} {w w' : World} {r : Nat} {A : Ar} (h : IsArena w r A S) (u : Upd T w w') (hd : ∀ b, S b → ¬ T b) : IsArena w' r A S := by
  obtain ⟨g, bm, cap, h, h1, h2, h3, h4⟩ := h
  exact ⟨g, bm, cap, h.keep u (hd _ h1) (hd _ h2) (hd _ h3), h1, h2, h3, fun b hb => Nat.lt_of_lt_of_le (h4 b hb) u.size⟩
theorem IsArena.below {S : Nat → Prop} {w w' : World} {r : Nat} {A : Ar} (h : IsArena w r A S) (u : Below w.heap.size w w') : IsArena w' r A S :=
  h.keep (Upd.of_below (S := None) u) (fun _ _ h => h)
theorem IsArena.lt {S : Nat → Prop} {w : World} {r : Nat} {A : Ar} (h : IsArena w r A S) : ∀ b, S b → b < w.heap.size := by
  obtain ⟨g, bm, cap, h, h1, h2, h3, h4⟩ := h; exact h4
theorem IsArena.wf {S : Nat → Prop} {w : World} {r : Nat} {A : Ar} (h : IsArena w r A S) : Wf A.l := by
  obtain ⟨g, bm, cap, h, _⟩ := h; exact h.wf
theorem IsArena.room {S : Nat → Prop} {w : World} {r : Nat} {A : Ar} (h : IsArena w r A S) : A.l.length ≤ A.limit ∧ A.limit ≤ 65536 := by
  obtain ⟨g, bm, cap, h, _⟩ := h; exact h.room


theorem ret_bool {a b : Bool} (h : a = b) : Ending.returned (.bool a) = .returned (.bool b) := by rw [h]
theorem ret_int {k : IntKind} {a b : Int} (h : a = b) : Ending.returned (.int k a) = .returned (.int k b) := by rw [h]
/-- [10]int: how many terms each kind is made of. -/
def tenV : Value := .agg #[.int .i64 0, .int .i64 0, .int .i64 1, .int .i64 2, .int .i64 2, .int .i64 2, .int .i64 2, .int .i64 3, .int .i64 2, .int .i64 0]
set_option maxHeartbeats 400000 in
theorem parts_calls (w : World) : Calls Tryz.prog 149 #[] w fun e w' => e = .returned tenV ∧ Below w.heap.size w w' := by
  go_enter Tryz.func149, Tryz.ntmps149
  go_wp2
  exact bodyPost_ret (v := tenV) (by simp [results, Tryz.results149, go_sem, tenV]) rfl ⟨rfl, by first | exact (Below.refl _ _).alloc (Nat.le_refl _) _ | exact ((Below.refl _ _).alloc (Nat.le_refl _) _).setCell (by simp) _⟩
set_option maxHeartbeats 800000 in
theorem numbered_calls (x : Nd) (w : World) (h0 : 0 ≤ x.n) (h1 : x.n ≤ 18446744073709551615) : Calls Tryz.prog 148 #[x.val] w fun e w' => e = .returned (.bool (numberedP x)) ∧ Below w.heap.size w w' := by
  unfold Nd.val
  go_enter Tryz.func148, Tryz.ntmps148
  go_wp2
  all_goals go_ret
  all_goals refine ⟨?_, (Below.refl _ _).alloc (Nat.le_refl _) _⟩
  all_goals simp only [beq_iff_eq, beq_eq_false_iff_ne] at *
  all_goals refine ret_bool ?_
  all_goals simp [numberedP, *]
  all_goals first | omega | (rw [Bool.eq_iff_iff]; simp)

set_option maxHeartbeats 400000 in
theorem isNaNint_calls (x : Int) (w : World) : Calls Tryz.prog 200 #[.int .i64 x] w fun e w' => e = .returned (.bool false) ∧ w = w' := by
  have h1 : (x != x) = false := by simp
  go_enter Tryz.func200, Tryz.ntmps200
  go_wp2
  go_ret
  exact ⟨rfl, rfl⟩
set_option maxHeartbeats 800000 in
theorem cmpInt_calls (x y : Int) (w : World) : Calls Tryz.prog 181 #[.int .i64 x, .int .i64 y] w fun e w' => e = .returned (.int .i64 (cmp2 x y)) ∧ w = w' := by
  go_enter Tryz.func181, Tryz.ntmps181
  go_wp2_with fail
  refine (isNaNint_calls x w).mono ?_
  rintro e w' ⟨rfl, rfl⟩
  go_wp2_with fail
  refine (isNaNint_calls y w).mono ?_
  rintro e w' ⟨rfl, rfl⟩
  go_wp2_with fail
  all_goals go_ret
  all_goals refine ⟨ret_int ?_, rfl⟩
  all_goals unfold cmp2
  all_goals (repeat' split) <;> first | rfl | omega
set_option maxHeartbeats 400000 in
theorem isNaNu64_calls (x : Int) (w : World) : Calls Tryz.prog 201 #[.int .u64 x] w fun e w' => e = .returned (.bool false) ∧ w = w' := by
  have h1 : (x != x) = false := by simp
  go_enter Tryz.func201, Tryz.ntmps201
  go_wp2
  go_ret
  exact ⟨rfl, rfl⟩
set_option maxHeartbeats 800000 in
theorem cmpU64_calls (x y : Int) (w : World) : Calls Tryz.prog 183 #[.int .u64 x, .int .u64 y] w fun e w' => e = .returned (.int .i64 (cmp2 x y)) ∧ w = w' := by
  go_enter Tryz.func183, Tryz.ntmps183
  go_wp2_with fail
  refine (isNaNu64_calls x w).mono ?_
  rintro e w' ⟨rfl, rfl⟩
  go_wp2_with fail
  refine (isNaNu64_calls y w).mono ?_
  rintro e w' ⟨rfl, rfl⟩
  go_wp2_with fail
  all_goals go_ret
  all_goals refine ⟨ret_int ?_, rfl⟩
  all_goals unfold cmp2
  all_goals (repeat' split) <;> first | rfl | omega
set_option maxHeartbeats 400000 in
theorem has1_calls (x : Int) {w : World} {pb r cap n : Nat} {A : Option Addr} (h1 : w.cell? ⟨pb, 0, none⟩ = some (.pointer (some ⟨r, 0, none⟩))) (h2 : w.cell? ⟨r, 1, none⟩ = some (.slice A n cap)) :
    Calls Tryz.prog 115 #[.int .i64 x, .pointer (some ⟨pb, 0, none⟩)] w fun e w' => e = .returned (.bool (!decide (0 ≤ x ∧ x < n))) ∧ w = w' := by
  by_cases hx : x < 0
  · have hd : decide (x < 0) = true := decide_eq_true hx
    have hd2 : decide (0 ≤ x ∧ x < n) = false := decide_eq_false (by omega)
    go_enter Tryz.func115, Tryz.ntmps115
    go_wp2
    go_ret
    exact ⟨by rw [hd2]; rfl, rfl⟩
  · have hd : decide (x < 0) = false := decide_eq_false hx
    go_enter Tryz.func115, Tryz.ntmps115
    go_wp2
    go_ret
    exact ⟨ret_bool (by rw [Bool.eq_iff_iff]; simp <;> omega), rfl⟩

/-- The place of the first that is no ref; the length, where there is none. -/
def firstBad (n : Nat) : List Int → Nat
  | [] => 0
  | x :: r => if 0 ≤ x ∧ x < n then firstBad n r + 1 else 0
theorem firstBad_le (n : Nat) : ∀ l, firstBad n l ≤ l.length
  | [] => Nat.le_refl _
  | x :: r => by
    unfold firstBad
    have := firstBad_le n r
    split
    · simp; omega
    · simp
theorem firstBad_at (n : Nat) : ∀ (l : List Int) (k : Nat) (x : Int), k ≤ firstBad n l → l[k]? = some x → ((0 ≤ x ∧ x < n) ↔ k < firstBad n l)
  | [], k, x, _, h => by simp at h
  | y :: r, 0, x, _, h => by
    simp at h; subst h
    unfold firstBad; split <;> simp_all
  | y :: r, k + 1, x, hk, h => by
    simp at h
    unfold firstBad at hk ⊢
    split at hk
    · rename_i hy
      rw [if_pos hy, firstBad_at n r k x (by omega) h]; omega
    · omega
theorem firstBad_all (n : Nat) : ∀ l, (firstBad n l = l.length) ↔ ∀ x ∈ l, 0 ≤ x ∧ x < n
  | [] => by simp [firstBad]
  | x :: r => by
    unfold firstBad
    have := firstBad_le n r
    have ih := firstBad_all n r
    split
    · rename_i h; simp [h, ih]
    · rename_i h; simp [h]

def badIx (n : Nat) (xs : List Int) : Int := if firstBad n xs = xs.length then -1 else firstBad n xs
/-- The ints as values. -/
def intsV (l : List Int) : List Value := l.map (Value.int .i64)
theorem intsV_at {w : World} {A : Option Addr} {l : List Int} (h : Holds w A (intsV l)) {k : Nat} (hk : k < l.length) : ∃ b o, A = some ⟨b, o, none⟩ ∧ w.cell? ⟨b, o + k, none⟩ = some (.int .i64 l[k]) := by
  rcases h with h | ⟨b, o, rfl, h⟩
  · simp [intsV] at h; subst h; simp at hk
  · exact ⟨b, o, rfl, h k _ (by simp [intsV, hk])⟩

set_option maxHeartbeats 1600000 in
set_option maxRecDepth 100000 in
theorem indexFunc_calls {xs : List Int} {A B : Option Addr} (c : Nat) {pb r n cap : Nat} {w : World} (hx : Holds w A (intsV xs)) (hm : xs.length ≤ 9223372036854775807) (h1 : w.cell? ⟨pb, 0, none⟩ = some (.pointer (some ⟨r, 0, none⟩))) (h2 : w.cell? ⟨r, 1, none⟩ = some (.slice B n cap)) :
    Calls Tryz.prog 163 #[.slice A xs.length c, .func (.func 115) #[] #[.pointer (some ⟨pb, 0, none⟩)]] w fun e w' => e = .returned (.int .i64 (badIx n xs)) ∧ w = w' := by
  have hle := firstBad_le n xs
  have Hat := Lib.hid (firstBad_at n xs)
  go_enter Tryz.func163, Tryz.ntmps163
  go_wp2
  go_loop [8] (fun i => ∃ k : Nat, k ≤ firstBad n xs ∧ i = .int .i64 k) (fun i => xs.length - (intOf i).toNat)
  case atStart => exact ⟨0, Nat.zero_le _, rfl⟩
  case round =>
    obtain ⟨k, hk, rfl⟩ := hrel
    by_cases hlt : k < xs.length
    · obtain ⟨b, o, hA, hc⟩ := intsV_at hx hlt
      have hat := Hat.out k xs[k] hk (by simp [hlt])
      subst hA
      generalize xs[k] = x at *
      by_cases hbad : k < firstBad n xs
      · have hd : decide (0 ≤ x ∧ x < n) = true := decide_eq_true (hat.2 hbad)
        clear hat
        go_wp2_with fail
        refine (has1_calls x h1 h2).mono ?_
        rintro e w' ⟨rfl, rfl⟩
        rw [hd]
        go_wp2_with fail
        go_round
        case rel => exact ⟨k + 1, by omega, by go_num⟩
        case measure => simp [intOf]; omega
      · have hd : decide (0 ≤ x ∧ x < n) = false := decide_eq_false (fun h => hbad (hat.1 h))
        have he : badIx n xs = k := by unfold badIx; rw [if_neg (by omega)]; omega
        have He := Lib.hid he
        clear hat he
        go_wp2_with fail
        refine (has1_calls x h1 h2).mono ?_
        rintro e w' ⟨rfl, rfl⟩
        rw [hd]
        go_wp2_with fail
        go_ret
        exact ⟨ret_int (by rw [He.out]), rfl⟩
    · have he : badIx n xs = -1 := by unfold badIx; rw [if_pos (by omega)]
      have He := Lib.hid he
      clear he
      go_wp2_with fail
      go_ret
      exact ⟨ret_int (by rw [He.out]), rfl⟩

theorem containsFunc_calls {xs : List Int} {A B : Option Addr} (c : Nat) {pb r n cap : Nat} {w : World} (hx : Holds w A (intsV xs)) (hm : xs.length ≤ 9223372036854775807) (h1 : w.cell? ⟨pb, 0, none⟩ = some (.pointer (some ⟨r, 0, none⟩))) (h2 : w.cell? ⟨r, 1, none⟩ = some (.slice B n cap)) :
    Calls Tryz.prog 114 #[.slice A xs.length c, .func (.func 115) #[] #[.pointer (some ⟨pb, 0, none⟩)]] w fun e w' => e = .returned (.bool (!decide (∀ x ∈ xs, 0 ≤ x ∧ x < n))) ∧ w = w' := by
  have ha := firstBad_all n xs
  have hl := firstBad_le n xs
  have hr : (decide ((0 : Int) ≤ badIx n xs)) = !decide (∀ x ∈ xs, 0 ≤ x ∧ x < n) := by
    unfold badIx
    by_cases h : firstBad n xs = xs.length
    · rw [if_pos h, decide_eq_true (ha.1 h)]; rfl
    · rw [if_neg h, decide_eq_false (fun e => h (ha.2 e))]; simp
  have Hr := Lib.hid hr
  clear ha hl hr
  go_enter Tryz.func114, Tryz.ntmps114
  go_wp2_with fail
  refine (indexFunc_calls c hx hm h1 h2).mono ?_
  rintro e w' ⟨rfl, rfl⟩
  generalize badIx n xs = q at *
  go_wp2_with fail
  go_ret
  exact ⟨ret_bool Hr.out, rfl⟩
/-! Has, Len, Get, Compare, right of layer 1: they only read: the arena stays, what is made besides is new memory. -/
def hasAll (n : Nat) (xs : List Int) : Bool := decide (∀ x ∈ xs, 0 ≤ x ∧ x < n)

set_option maxHeartbeats 800000 in
theorem has_calls' {xs : List Int} {A B : Option Addr} (c : Nat) {r n cap : Nat} {w : World} (hx : Holds w A (intsV xs)) (hm : xs.length ≤ 9223372036854775807) (h2 : w.cell? ⟨r, 1, none⟩ = some (.slice B n cap)) :
    Calls Tryz.prog 59 #[.pointer (some ⟨r, 0, none⟩), .slice A xs.length c] w fun e w' => e = .returned (.bool (hasAll n xs)) ∧ Below w.heap.size w w' := by
  have hmf : ∀ (fn : Fn) (first cap : Array Value) (w : World), (Instr.makeFunc fn first cap).run Tryz.prog w = .ok (.func fn first cap) w := fun _ _ _ _ => rfl
  have hb : Below w.heap.size w (w.alloc (.cells #[.pointer (some ⟨r, 0, none⟩)] 27)) := (Below.refl _ _).alloc (Nat.le_refl _) _
  have hx1 := hx.below hb
  have h21 : (w.alloc (.cells #[.pointer (some ⟨r, 0, none⟩)] 27)).cell? ⟨r, 1, none⟩ = some (.slice B n cap) := (hb.cell (World.block_lt_of_cell? w _ h2)).trans h2
  have h11 : (w.alloc (.cells #[.pointer (some ⟨r, 0, none⟩)] 27)).cell? ⟨w.heap.size, 0, none⟩ = some (.pointer (some ⟨r, 0, none⟩)) := by rw [World.cell?_alloc_at _ _ _ _ rfl]; rfl
  go_enter Tryz.func59, Tryz.ntmps59
  go_wp2_with fail
  refine (containsFunc_calls c hx1 hm h11 h21).mono ?_
  rintro e w' ⟨rfl, rfl⟩
  go_wp2_with fail
  go_ret
  exact ⟨ret_bool (by unfold hasAll; simp), hb⟩

/-- What a call reads of an arena. -/
theorem IsArena.cells {S : Nat → Prop} {w : World} {r : Nat} {A : Ar} (h : IsArena w r A S) : ∃ g cap bm, w.cell? ⟨r, 0, none⟩ = some (.int .i64 A.limit) ∧ w.cell? ⟨r, 1, none⟩ = some (.slice (some ⟨g, 0, none⟩) A.l.length cap) ∧ w.cell? ⟨r, 2, none⟩ = some (.map (some bm)) ∧
    ∀ (i : Nat) (n : Nd), A.l[i]? = some n → w.cell? ⟨g, i * 5, none⟩ = some (.int .i64 n.kind) ∧ w.cell? ⟨g, i * 5 + 1, none⟩ = some (.int .u64 n.n) ∧ w.cell? ⟨g, i * 5 + 2, none⟩ = some (.int .i64 n.a) ∧ w.cell? ⟨g, i * 5 + 3, none⟩ = some (.int .i64 n.b) ∧ w.cell? ⟨g, i * 5 + 4, none⟩ = some (.int .i64 n.c) := by
  obtain ⟨g, bm, cap, h, _⟩ := h
  refine ⟨g, cap, bm, by rw [cell_of_heap h.root]; rfl, by rw [cell_of_heap h.root]; rfl, by rw [cell_of_heap h.root]; rfl, fun i n hi => ?_⟩
  have hc := h.row.cells (g := g) rfl
  have at_ : ∀ j u, n.cells[j]? = some u → w.cell? ⟨g, i * 5 + j, none⟩ = some u := fun j u hj => by
    have hj5 : j < 5 := (List.getElem?_eq_some_iff.1 hj).1
    have := hc (i * 5 + j) u (by
      rw [flatMap_at Nd.cells 5 (by decide) (fun _ => rfl), show (i * 5 + j) / 5 = i by omega, show (i * 5 + j) % 5 = j by omega, hi]
      exact hj)
    rwa [add_off, Nat.zero_add] at this
  exact ⟨at_ 0 _ rfl, at_ 1 _ rfl, at_ 2 _ rfl, at_ 3 _ rfl, at_ 4 _ rfl⟩

theorem has_calls {S : Nat → Prop} {r : Nat} {R : Ar} {xs : List Int} {A : Option Addr} (c : Nat) {w : World} (hr : IsArena w r R S) (hx : Holds w A (intsV xs)) (hm : xs.length ≤ 9223372036854775807) :
    Calls Tryz.prog 59 #[.pointer (some ⟨r, 0, none⟩), .slice A xs.length c] w fun e w' => e = .returned (.bool (hasAll R.l.length xs)) ∧ Below w.heap.size w w' := by
  obtain ⟨g, cap, bm, _, h2, _⟩ := hr.cells
  exact has_calls' c hx hm h2

set_option maxHeartbeats 400000 in
theorem len_calls {S : Nat → Prop} {r : Nat} {R : Ar} {w : World} (hr : IsArena w r R S) : Calls Tryz.prog 26 #[.pointer (some ⟨r, 0, none⟩)] w fun e w' => e = .returned (.int .i64 R.l.length) ∧ w = w' := by
  obtain ⟨g, cap, bm, _, h2, _⟩ := hr.cells
  clear hr
  go_enter Tryz.func26, Tryz.ntmps26
  go_wp2
  go_ret
  exact ⟨rfl, rfl⟩

theorem hasAll_one (l : List Nd) (x : Int) : hasAll l.length [x] = has l x := by unfold hasAll has; rw [Bool.eq_iff_iff]; simp
theorem has_one {S : Nat → Prop} {r : Nat} {R : Ar} {x : Int} {b c : Nat} {w : World} (hr : IsArena w r R S) (hx : w.cell? ⟨b, 0, none⟩ = some (.int .i64 x)) :
    Calls Tryz.prog 59 #[.pointer (some ⟨r, 0, none⟩), .slice (some ⟨b, 0, none⟩) 1 c] w fun e w' => e = .returned (.bool (has R.l x)) ∧ Below w.heap.size w w' := by
  have := has_calls (xs := [x]) (A := some ⟨b, 0, none⟩) c hr (.inr ⟨b, 0, rfl, fun i v hi => by
    match i, hi with
    | 0, hi => simp [intsV] at hi; subst hi; exact hx⟩) (by simp)
  rwa [hasAll_one] at this
theorem hasAll_two (l : List Nd) (x y : Int) : hasAll l.length [x, y] = (has l x && has l y) := by unfold hasAll has; rw [Bool.eq_iff_iff]; simp
theorem has_two {S : Nat → Prop} {r : Nat} {R : Ar} {x y : Int} {b c : Nat} {w : World} (hr : IsArena w r R S) (hx : w.cell? ⟨b, 0, none⟩ = some (.int .i64 x)) (hy : w.cell? ⟨b, 1, none⟩ = some (.int .i64 y)) :
    Calls Tryz.prog 59 #[.pointer (some ⟨r, 0, none⟩), .slice (some ⟨b, 0, none⟩) 2 c] w fun e w' => e = .returned (.bool (has R.l x && has R.l y)) ∧ Below w.heap.size w w' := by
  have := has_calls (xs := [x, y]) (A := some ⟨b, 0, none⟩) c hr (.inr ⟨b, 0, rfl, fun i v hi => by
    match i, hi with
    | 0, hi => simp [intsV] at hi; subst hi; exact hx
    | 1, hi => simp [intsV] at hi; subst hi; exact hy⟩) (by simp)
  rwa [hasAll_two] at this
set_option maxHeartbeats 1600000 in
set_option maxRecDepth 100000 in
theorem get_calls {S : Nat → Prop} {r : Nat} {R : Ar} (x : Int) {w : World} (hr : IsArena w r R S) :
    Calls Tryz.prog 71 #[.pointer (some ⟨r, 0, none⟩), .int .i64 x] w fun e w' => e = .returned (.tuple #[(getNd R.l x).val, .bool (has R.l x)]) ∧ Below w.heap.size w w' := by
  go_enter Tryz.func71, Tryz.ntmps71
  go_wp2_with fail
  with_reducible refine (has_one (x := x) (hr.below (((Below.refl _ _).alloc (Nat.le_refl _) _).alloc (by simp) _)) (by go_simp)).mono ?_
  rintro e w1 ⟨rfl, hb1⟩
  have hb2 : Below w.heap.size w w1 := (((Below.refl _ _).alloc (Nat.le_refl _) _).alloc (by simp) _).trans (hb1.mono (by simp; omega))
  have hr1 := hr.below hb2
  have hz : w.heap.size + 2 ≤ w1.heap.size := by have := hb1.size; simp at this; omega
  have hlt : w.heap.size < w1.heap.size := by omega
  have hblk := (hb1.block w.heap.size (by simp; omega)).trans ((Below.heap_alloc _ _ _ (by simp)).trans (heap_alloc_new w _))
  obtain ⟨hc, hf⟩ := bcell hb1
  clear hb1
  obtain ⟨g, cap, bm, h0, h1, h2, hn⟩ := hr1.cells
  have Hn := Lib.hid hn
  clear hr1 hr hn h0 h2
  cases hh : has R.l x with
  | true =>
    have hg := Hn.out x.toNat (nd R.l x) (getElem?_of_has hh)
    have hx := has_iff.1 hh
    obtain ⟨g0, g1, g2, g3, g4⟩ := hg
    have hnd := getNd_of_has hh
    generalize nd R.l x = n at *
    have Hnd := Lib.hid hnd
    clear hnd
    obtain ⟨k, rfl⟩ := Int.eq_ofNat_of_zero_le hx.1
    rw [Int.toNat_natCast] at *
    go_wp2_with fail
    have hfin := heap_set5 (v0 := .int .i64 n.kind) (v1 := .int .u64 n.n) (v2 := .int .i64 n.a) (v3 := .int .i64 n.b) (v4 := .int .i64 n.c) hblk
    refine bodyPost_ret (v := .tuple #[n.val, .bool true]) (by simp [results, Tryz.results71, go_sem, Nd.val, cell_of_heap hfin]) rfl ⟨by rw [Hnd.out, hh], ?_⟩
    exact ((((hb2.setCell (Nat.le_refl _) _).setCell (Nat.le_refl _) _).setCell (Nat.le_refl _) _).setCell (Nat.le_refl _) _).setCell (Nat.le_refl _) _
  | false =>
    have Hnd := Lib.hid (getNd_of_not hh)
    clear Hn
    go_wp2_with fail
    have hfin := heap_set5 (v0 := .int .i64 0) (v1 := .int .u64 0) (v2 := .int .i64 0) (v3 := .int .i64 0) (v4 := .int .i64 0) hblk
    refine bodyPost_ret (v := .tuple #[Nd.zero.val, .bool false]) (by simp [results, Tryz.results71, go_sem, Nd.val, Nd.zero, cell_of_heap hfin]) rfl ⟨by rw [Hnd.out, hh], ?_⟩
    exact ((((hb2.setCell (Nat.le_refl _) _).setCell (Nat.le_refl _) _).setCell (Nat.le_refl _) _).setCell (Nat.le_refl _) _).setCell (Nat.le_refl _) _
end Go.Proofs.YtikimmgileffgaaGreatDoor
end
/- Tokens' names, and whether a pattern may be (layer 5): the small calls. -/
section
namespace Go.Proofs.YtikimmgileffgaaGreatDoor
open Go.RowKit

def tokName (t : Int) : List UInt8 := if t = 1 then [101] else if t = 2 then [115] else if t = 3 then [101, 101] else if t = 4 then [101, 115] else if t = 5 then [115, 101] else if t = 6 then [115, 115] else if t = 7 then [112, 115, 107] else [63]
def namesV : Value := .agg #[.string ⟨#[63]⟩, .string ⟨#[101]⟩, .string ⟨#[115]⟩, .string ⟨#[101, 101]⟩, .string ⟨#[101, 115]⟩, .string ⟨#[115, 101]⟩, .string ⟨#[115, 115]⟩, .string ⟨#[112, 115, 107]⟩]
def arrowsV : Value := .agg #[.string ⟨#[45, 62]⟩, .string ⟨#[60, 45]⟩]
set_option maxHeartbeats 800000 in
theorem names_calls (w : World) : Calls Tryz.prog 158 #[] w fun e w' => e = .returned namesV ∧ Below w.heap.size w w' := by
  go_enter Tryz.func158, Tryz.ntmps158
  go_wp2
  exact bodyPost_ret (v := namesV) (by simp [results, Tryz.results158, go_sem, namesV]) rfl ⟨rfl, by first | exact (Below.refl _ _).alloc (Nat.le_refl _) _ | exact ((Below.refl _ _).alloc (Nat.le_refl _) _).setCell (by simp) _⟩
set_option maxHeartbeats 800000 in
theorem arrows_calls (w : World) : Calls Tryz.prog 169 #[] w fun e w' => e = .returned arrowsV ∧ Below w.heap.size w w' := by
  go_enter Tryz.func169, Tryz.ntmps169
  go_wp2
  exact bodyPost_ret (v := arrowsV) (by simp [results, Tryz.results169, go_sem, arrowsV]) rfl ⟨rfl, by first | exact (Below.refl _ _).alloc (Nat.le_refl _) _ | exact ((Below.refl _ _).alloc (Nat.le_refl _) _).setCell (by simp) _⟩
theorem indexN1 (w : World) : (Instr.index 262 namesV (.int .i64 1)).run Tryz.prog w = .ok (.string (strO (tokName 1))) w := by kernel_rfl
theorem indexN2 (w : World) : (Instr.index 262 namesV (.int .i64 2)).run Tryz.prog w = .ok (.string (strO (tokName 2))) w := by kernel_rfl
theorem indexN3 (w : World) : (Instr.index 262 namesV (.int .i64 3)).run Tryz.prog w = .ok (.string (strO (tokName 3))) w := by kernel_rfl
theorem indexN4 (w : World) : (Instr.index 262 namesV (.int .i64 4)).run Tryz.prog w = .ok (.string (strO (tokName 4))) w := by kernel_rfl
theorem indexN5 (w : World) : (Instr.index 262 namesV (.int .i64 5)).run Tryz.prog w = .ok (.string (strO (tokName 5))) w := by kernel_rfl
theorem indexN6 (w : World) : (Instr.index 262 namesV (.int .i64 6)).run Tryz.prog w = .ok (.string (strO (tokName 6))) w := by kernel_rfl
theorem indexN7 (w : World) : (Instr.index 262 namesV (.int .i64 7)).run Tryz.prog w = .ok (.string (strO (tokName 7))) w := by kernel_rfl
theorem indexN {t : Int} (h0 : 1 ≤ t) (h7 : t ≤ 7) (w : World) : (Instr.index 262 namesV (.int .i64 t)).run Tryz.prog w = .ok (.string (strO (tokName t))) w := by
  have : t = 1 ∨ t = 2 ∨ t = 3 ∨ t = 4 ∨ t = 5 ∨ t = 6 ∨ t = 7 := by omega
  rcases this with rfl | rfl | rfl | rfl | rfl | rfl | rfl
  · exact indexN1 w
  · exact indexN2 w
  · exact indexN3 w
  · exact indexN4 w
  · exact indexN5 w
  · exact indexN6 w
  · exact indexN7 w
theorem indexN0 (w : World) : (Instr.index 262 namesV (.int .i64 0)).run Tryz.prog w = .ok (.string ⟨#[63]⟩) w := by kernel_rfl
set_option maxHeartbeats 1600000 in
set_option maxRecDepth 100000 in
theorem name_calls (t : Int) (w : World) : Calls Tryz.prog 111 #[.int .i64 t] w fun e w' => e = .returned (.string (strO (tokName t))) ∧ Below w.heap.size w w' := by
  by_cases hbad : t < 1 ∨ 7 < t
  · have hd : decide (t < 1) = true ∨ (decide (t < 1) = false ∧ decide (7 < t) = true) := by
      by_cases h1 : t < 1
      · exact .inl (decide_eq_true h1)
      · exact .inr ⟨decide_eq_false h1, decide_eq_true (by omega)⟩
    have Hn := Lib.hid (show tokName t = [63] by unfold tokName; (repeat rw [if_neg (by omega)]))
    have hi := indexN0
    clear hbad
    rcases hd with d1 | ⟨d1, d2⟩
    all_goals
      go_enter Tryz.func111, Tryz.ntmps111
      go_wp2_with fail
      refine (names_calls _).mono ?_
      rintro e w1 ⟨rfl, b1⟩
      go_wp2_with fail
      go_ret
      exact ⟨by rw [Hn.out]; rfl, b1⟩
  · have d1 : decide (t < 1) = false := decide_eq_false (by omega)
    have d2 : decide (7 < t) = false := decide_eq_false (by omega)
    have hi := fun w => indexN (t := t) (by omega) (by omega) w
    clear hbad
    go_enter Tryz.func111, Tryz.ntmps111
    go_wp2_with fail
    refine (names_calls _).mono ?_
    rintro e w1 ⟨rfl, b1⟩
    go_wp2_with fail
    go_ret
    exact ⟨rfl, b1⟩
end Go.Proofs.YtikimmgileffgaaGreatDoor
end
/- An append onto a slice that was made since some world, as a step of a region that draws: whatever is appended, nothing of that world changes. Any program. -/
section
namespace Go.Proofs.YtikimmgileffgaaGreatDoor
open Go.RowKit

theorem owns_empty {w : World} {B k : Nat} {e : TypeId} (size : Nat) (hB : B ≤ k) (h : w.heap[k]? = some (.cells #[] e (0, 0))) : w.ownsRow B e size (.slice (some ⟨k, 0, none⟩) 0 0) 0 [] :=
  ⟨by simp, .inr ⟨k, 0, #[], rfl, hB, h, Nat.le_refl _, by unfold maxLen; omega, by simp, by simp⟩⟩
/-- Cells that are to be appended: m elements of such a size. -/
def News (w : World) (A : Option Addr) (size m : Nat) (news : List Value) : Prop := news.length = m * size ∧ ((A = none ∧ m = 0) ∨ ∃ ad, A = some ad ∧ ∀ j u, news[j]? = some u → w.cell? (ad.add j) = some u)
theorem run_append_none0 {P : Program} {w : World} (base : Nat) (t ty e : TypeId) (i : TypeInfo) (size : Nat) (ht : P.underlying t = some (.slice e)) (hi : P.info? e = some i)
    (v : Value) (n : Nat) (xs : List Value) (hown : w.ownsRow base e size v n xs) (c : Nat) :
    (Builtin.append_ #[t, t] ty #[v, .slice none 0 c]).run P w = .ok v w := by
  rcases hown.2 with ⟨rfl, rfl⟩ | ⟨g, cap, cur, rfl, _, _, hnc, _⟩
  · simp [Builtin.append_, run_underlying ht, sizeOf, typeInfo, hi, Builtin.lenOf, Builtin.firstCells]
  · simp [Builtin.append_, run_underlying ht, sizeOf, typeInfo, hi, Builtin.lenOf, Builtin.firstCells, hnc, storeCells]
theorem run_cat {P : Program} {W w : World} (hb : Below W.heap.size W w) (t ty : TypeId) (e : TypeId) (z : Value) (size bytes : Nat) (ht : P.underlying t = some (.slice e))
    (hinfo : (P.info? e).map (fun i => (i.zero, i.size, i.bytes)) = some (some z, size, bytes)) (hzs : z.cells.size = size) (hsz : 0 < size)
    (v : Value) (n : Nat) (xs : List Value) (hown : w.ownsRow W.heap.size e size v n xs)
    (A : Option Addr) (m c : Nat) (news : List Value) (hnews : News w A size m news) (h1 : ∀ u ∈ news, u.oneCell' = true)
    (h63 : n + m ≤ maxLen) (hbytes : (n + m) * bytes ≤ 140737488355328) :
    ∃ v' w', (Builtin.append_ #[t, t] ty #[v, .slice A m c]).run P w = .ok v' w' ∧ w'.ownsRow W.heap.size e size v' (n + m) (xs ++ news) ∧ Below W.heap.size W w' ∧ (∀ k ob, w.heap[k]? = some ob → v.ownBlock ≠ some k → w'.heap[k]? = some ob) := by
  obtain ⟨i, hi, hz, hsize, hby⟩ := info_parts hinfo
  obtain ⟨hl, ⟨rfl, rfl⟩ | ⟨ad, rfl, hn⟩⟩ := hnews
  · rw [Nat.zero_mul] at hl
    have := List.eq_nil_of_length_eq_zero hl
    subst this
    exact ⟨v, w, run_append_none0 _ t ty e i size ht hi v n xs hown c, by simpa using hown, hb, fun _ _ h _ => h⟩
  · obtain ⟨v', w', hr, h2, h3, _, h5⟩ := run_append_own_at (P := P) w W.heap.size t ty e i z size bytes ht hi hz hsize hby hzs hsz v n xs hown ad m c news hl hn h1 h63 hbytes hb.size
    refine ⟨v', w', hr, h2, hb.grown h3 hb.size (fun k hk => (hown.lt k hk).1), fun k ob hk hne => ?_⟩
    rw [h3.block k (lt_of_heap hk) (Ne.symm hne)]; exact hk
theorem wp_cat {P : Program} {W w : World} {o : Oper} {a : Act} {K : Act → World → Prop} {Q : Exit → Act → World → Prop} (hb : Below W.heap.size W w) (s x : Operand) (t : TypeId)
    (ho : o.op = .call { callee := .builtin .append, args := #[s, x], argTypes := #[t, t] })
    (e : TypeId) (z : Value) (size bytes : Nat) (ht : P.underlying t = some (.slice e))
    (hinfo : (P.info? e).map (fun i => (i.zero, i.size, i.bytes)) = some (some z, size, bytes)) (hzs : z.cells.size = size) (hsz : 0 < size)
    (v : Value) (n : Nat) (xs : List Value) (hs : a.eval s = v) (hown : w.ownsRow W.heap.size e size v n xs)
    (A : Option Addr) (m c : Nat) (news : List Value) (hx : a.eval x = .slice A m c) (hnews : News w A size m news) (h1 : ∀ u ∈ news, u.oneCell' = true)
    (h63 : n + m ≤ maxLen) (hbytes : (n + m) * bytes ≤ 140737488355328)
    (h : ∀ v' w', w'.ownsRow W.heap.size e size v' (n + m) (xs ++ news) → Below W.heap.size W w' → (∀ k ob, w.heap[k]? = some ob → v.ownBlock ≠ some k → w'.heap[k]? = some ob) → K (a.put o.dst v') w') :
    o.wp P a w K Q := by
  obtain ⟨v', w', hr, h2, h3, h4⟩ := run_cat (P := P) hb t o.type e z size bytes ht hinfo hzs hsz v n xs hown A m c news hnews h1 h63 hbytes
  unfold Oper.wp execOp
  simp only [ho, resolve, invoke, builtin, Sem.run_bind, Sem.run_pure, Result.andThen_ok, List.map_toArray, List.map_cons, List.map_nil, hs, hx, hr]
  exact h v' w' h2 h3 h4
theorem wpList_cat {P : Program} {W w : World} {ops : Array Oper} {rest : List Oper} {o : Oper} {a : Act} {Q : Exit → Act → World → Prop} (hb : Below W.heap.size W w) (hgd : o.guard = none) (s x : Operand) (t : TypeId)
    (ho : o.op = .call { callee := .builtin .append, args := #[s, x], argTypes := #[t, t] })
    (e : TypeId) (z : Value) (size bytes : Nat) (ht : P.underlying t = some (.slice e))
    (hinfo : (P.info? e).map (fun i => (i.zero, i.size, i.bytes)) = some (some z, size, bytes)) (hzs : z.cells.size = size) (hsz : 0 < size)
    (v : Value) (n : Nat) (xs : List Value) (hs : a.eval s = v) (hown : w.ownsRow W.heap.size e size v n xs)
    (A : Option Addr) (m c : Nat) (news : List Value) (hx : a.eval x = .slice A m c) (hnews : News w A size m news) (h1 : ∀ u ∈ news, u.oneCell' = true)
    (h63 : n + m ≤ maxLen) (hbytes : (n + m) * bytes ≤ 140737488355328)
    (h : ∀ v' w', w'.ownsRow W.heap.size e size v' (n + m) (xs ++ news) → Below W.heap.size W w' → (∀ k ob, w.heap[k]? = some ob → v.ownBlock ≠ some k → w'.heap[k]? = some ob) → wpList P ops Q rest (a.put o.dst v') w') :
    wpList P ops Q (o :: rest) a w :=
  wpList_plain hgd fun _ hK => wp_cat hb s x t ho e z size bytes ht hinfo hzs hsz v n xs hs hown A m c news hx hnews h1 h63 hbytes fun v' w' h2 h3 h4 => hK _ _ (h v' w' h2 h3 h4)
theorem belowAlloc {W w : World} (h : Below W.heap.size W w) (o : Obj) : Below W.heap.size W (w.alloc o) := h.alloc h.size o
theorem News.upd {w w' : World} {A : Option Addr} {size m : Nat} {news : List Value} (h : News w A size m news) (u : Below w.heap.size w w') (hlt : ∀ ad, A = some ad → ad.block < w.heap.size) : News w' A size m news := by
  refine ⟨h.1, h.2.imp id fun ⟨ad, ha, hc⟩ => ⟨ad, ha, fun j v hv => ?_⟩⟩
  have hb : (ad.add j).block < w.heap.size := by
    have := hlt ad ha
    exact (by unfold Addr.add; split <;> rfl : (ad.add j).block = ad.block) ▸ this
  rw [u.cell hb]; exact hc j v hv
theorem News.of_owns {w : World} {base : Nat} {e : TypeId} {size n : Nat} {v : Value} {xs : List Value} (h : w.ownsRow base e size v n xs) : ∃ A c, v = .slice A n c ∧ News w A size n xs ∧ ∀ ad, A = some ad → base ≤ ad.block ∧ ad.block < w.heap.size := by
  rcases h.2 with ⟨rfl, rfl⟩ | ⟨g, cap, cur, rfl, hB, hg, _⟩
  · exact ⟨none, 0, rfl, ⟨h.1, .inl ⟨rfl, rfl⟩⟩, by simp⟩
  · exact ⟨_, _, rfl, ⟨h.1, .inr ⟨_, rfl, h.cells rfl⟩⟩, fun ad e => by cases e; exact ⟨hB, lt_of_heap hg⟩⟩
theorem News.block {w : World} {b : Nat} {cs : List Value} {t : TypeId} {fr : Nat × Nat} {size m : Nat} (h : w.heap[b]? = some (.cells cs.toArray t fr)) (hl : cs.length = m * size) : News w (some ⟨b, 0, none⟩) size m cs :=
  ⟨hl, .inr ⟨_, rfl, by simpa using World.news_of_block h⟩⟩
end Go.Proofs.YtikimmgileffgaaGreatDoor
end
/- What a law has made so far: a list of things in memory, each in blocks of its own, none of which were there ahead of it. A call changes one of them; all others stay. -/
section
namespace Go.Proofs.YtikimmgileffgaaGreatDoor
open Go.RowKit

/-- Something that lies in the blocks of a set, and stays as it is while these do. -/
structure Thing where
  P : World → (Nat → Prop) → Prop
  lt : ∀ w S, P w S → ∀ b, S b → b < w.heap.size
  keep : ∀ w w' S T, P w S → Upd T w w' → (∀ b, S b → ¬ T b) → P w' S

def blk (b : Nat) (o : Obj) : Thing where
  P w S := w.heap[b]? = some o ∧ ∀ k, S k ↔ k = b
  lt w S h k hk := by rw [h.2] at hk; subst hk; exact lt_of_heap h.1
  keep w w' S T h u hd := ⟨u.heap h.1 (hd b ((h.2 b).2 rfl)), h.2⟩
def Own (w0 w : World) (L : List Thing) : Prop :=
  Below w0.heap.size w0 w ∧ ∃ f : Nat → Nat → Prop, (∀ (i : Nat) P, L[i]? = some P → P.P w (f i)) ∧ (∀ i j b, i < L.length → j < L.length → f i b → f j b → i = j) ∧ ∀ i b, i < L.length → f i b → w0.heap.size ≤ b

theorem idx_lt {α : Type} {L : List α} {i : Nat} {x : α} (h : L[i]? = some x) : i < L.length := (List.getElem?_eq_some_iff.1 h).1
theorem Own.start (w0 : World) : Own w0 w0 [] := ⟨Below.refl _ _, fun _ _ => False, fun i P h => by simp at h, fun i j b hi => by simp at hi, fun i b hi => by simp at hi⟩
theorem Own.below {w0 w : World} {L : List Thing} (h : Own w0 w L) : Below w0.heap.size w0 w := h.1
theorem Own.size {w0 w : World} {L : List Thing} (h : Own w0 w L) : w0.heap.size ≤ w.heap.size := h.1.size
/-- What is at i. -/
theorem Own.at {w0 w : World} {L : List Thing} {i : Nat} {P : Thing} (h : Own w0 w L) (hi : L[i]? = some P) : ∃ S, P.P w S ∧ ∀ b, S b → w0.heap.size ≤ b := by
  obtain ⟨_, f, h1, _, h3⟩ := h
  exact ⟨f i, h1 i P hi, fun b hb => h3 i b (idx_lt hi) hb⟩
theorem Own.blk {w0 w : World} {L : List Thing} {i : Nat} {b : Nat} {o : Obj} (h : Own w0 w L) (hi : L[i]? = some (blk b o)) : w.heap[b]? = some o := by
  obtain ⟨S, h1, _⟩ := h.at hi; exact h1.1
theorem Own.blk_le {w0 w : World} {L : List Thing} {i : Nat} {b : Nat} {o : Obj} (h : Own w0 w L) (hi : L[i]? = some (Go.Proofs.YtikimmgileffgaaGreatDoor.blk b o)) : w0.heap.size ≤ b := by
  obtain ⟨S, h1, h2⟩ := h.at hi; exact h2 b ((h1.2 b).2 rfl)
/-- What is at i changes; it may be another thing then. -/
theorem Own.upd {w0 w : World} {L : List Thing} {i : Nat} {P : Thing} (h : Own w0 w L) (hi : L[i]? = some P) :
    ∃ S, P.P w S ∧ ∀ w' Q S', Upd S w w' → Q.P w' S' → (∀ b, S' b → S b ∨ w.heap.size ≤ b) → Own w0 w' (L.set i Q) := by
  obtain ⟨hb, f, h1, h2, h3⟩ := h
  have hil := idx_lt hi
  refine ⟨f i, h1 i P hi, fun w' Q S' hu hq hs => ⟨⟨hu.os.trans hb.os, hu.tape.trans hb.tape, hu.output.trans hb.output, Nat.le_trans hb.size hu.size, fun k hk => ?_⟩, fun j => if j = i then S' else f j, ?_, ?_, ?_⟩⟩
  · rw [hu.block k (Nat.lt_of_lt_of_le hk hb.size) (fun hf => by have := h3 i k hil hf; omega)]
    exact hb.block k hk
  · intro j R hj
    rw [List.getElem?_set] at hj
    by_cases e : i = j
    · subst e
      simp only [if_true] at hj ⊢
      rw [if_pos hil] at hj
      cases hj; exact hq
    · simp only [if_neg e] at hj
      simp only [if_neg (Ne.symm e)]
      refine R.keep _ _ _ _ (h1 j R hj) hu (fun b hjb hib => e (h2 i j b hil (idx_lt hj) hib hjb))
  · intro j k b hj hk hfj hfk
    simp only [List.length_set] at hj hk
    by_cases e1 : j = i <;> by_cases e2 : k = i
    · omega
    · subst e1
      simp only [if_true] at hfj
      simp only [if_neg e2] at hfk
      rcases hs b hfj with hc | hc
      · exact h2 _ _ b hil hk hc hfk
      · obtain ⟨R, hR⟩ : ∃ R, L[k]? = some R := ⟨_, List.getElem?_eq_getElem hk⟩
        have := R.lt _ _ (h1 k R hR) b hfk
        omega
    · subst e2
      simp only [if_true] at hfk
      simp only [if_neg e1] at hfj
      rcases hs b hfk with hc | hc
      · exact h2 _ _ b hj hil hfj hc
      · obtain ⟨R, hR⟩ : ∃ R, L[j]? = some R := ⟨_, List.getElem?_eq_getElem hj⟩
        have := R.lt _ _ (h1 j R hR) b hfj
        omega
    · simp only [if_neg e1] at hfj
      simp only [if_neg e2] at hfk
      exact h2 _ _ b hj hk hfj hfk
  · intro j b hj hf
    simp only [List.length_set] at hj
    by_cases e : j = i
    · subst e
      simp only [if_true] at hf
      rcases hs b hf with hc | hc
      · exact h3 _ b hil hc
      · have := hb.size; omega
    · simp only [if_neg e] at hf
      exact h3 j b hj hf
/-- A call that changes nothing of what was there, and makes a thing. -/
theorem Own.new {w0 w w' : World} {L : List Thing} (h : Own w0 w L) (hu : Below w.heap.size w w') {Q : Thing} {S : Nat → Prop} (hq : Q.P w' S) (hs : ∀ b, S b → w.heap.size ≤ b) : Own w0 w' (Q :: L) := by
  obtain ⟨hb, f, h1, h2, h3⟩ := h
  refine ⟨hb.trans (hu.mono hb.size), fun j => match j with | 0 => S | k + 1 => f k, ?_, ?_, ?_⟩
  · intro j R hj
    match j, hj with
    | 0, hj => cases hj; exact hq
    | k + 1, hj => exact R.keep _ _ _ _ (h1 k R (by simpa using hj)) (Upd.of_below (S := None) hu) (fun _ _ h => h)
  · intro j k b hj hk hfj hfk
    match j, k, hj, hk, hfj, hfk with
    | 0, 0, _, _, _, _ => rfl
    | 0, k + 1, _, hk, hfj, hfk =>
      have hk' : k < L.length := by simpa using hk
      obtain ⟨R, hR⟩ : ∃ R, L[k]? = some R := ⟨_, List.getElem?_eq_getElem hk'⟩
      have := R.lt _ _ (h1 k R hR) b hfk
      have := hs b hfj
      omega
    | j + 1, 0, hj, _, hfj, hfk =>
      have hj' : j < L.length := by simpa using hj
      obtain ⟨R, hR⟩ : ∃ R, L[j]? = some R := ⟨_, List.getElem?_eq_getElem hj'⟩
      have := R.lt _ _ (h1 j R hR) b hfj
      have := hs b hfk
      omega
    | j + 1, k + 1, hj, hk, hfj, hfk => have := h2 j k b (by simpa using hj) (by simpa using hk) hfj hfk; omega
  · intro j b hj hf
    match j, hj, hf with
    | 0, _, hf => have := hs b hf; have := hb.size; omega
    | k + 1, hj, hf => exact h3 k b (by simpa using hj) hf
theorem Own.call {w0 w w' : World} {L : List Thing} (h : Own w0 w L) (hu : Below w.heap.size w w') : Own w0 w' L := by
  obtain ⟨hb, f, h1, h2, h3⟩ := h
  exact ⟨hb.trans (hu.mono hb.size), f, fun j R hj => R.keep _ _ _ _ (h1 j R hj) (Upd.of_below (S := None) hu) (fun _ _ h => h), h2, h3⟩
theorem Own.drew {w0 w : World} {L : List Thing} (h : Own w0 w L) : Own w0 w.drew L := h.call ((Below.refl _ _).drew)
theorem Own.alloc {w0 w : World} {L : List Thing} (h : Own w0 w L) (o : Obj) : Own w0 (w.alloc o) (Go.Proofs.YtikimmgileffgaaGreatDoor.blk w.heap.size o :: L) :=
  h.new ((Below.refl _ _).alloc (Nat.le_refl _) o) (Q := Go.Proofs.YtikimmgileffgaaGreatDoor.blk w.heap.size o) (S := One w.heap.size) ⟨new_at rfl, fun _ => Iff.rfl⟩ (fun b hb => by unfold One at hb; omega)
theorem Own.tail {w0 w : World} {P : Thing} {L : List Thing} (h : Own w0 w (P :: L)) : Own w0 w L := by
  obtain ⟨hb, f, h1, h2, h3⟩ := h
  exact ⟨hb, fun j => f (j + 1), fun j R hj => h1 (j + 1) R (by simpa using hj), fun j k b hj hk h h' => by have := h2 (j + 1) (k + 1) b (by simpa using hj) (by simpa using hk) h h'; omega, fun j b hj hf => h3 (j + 1) b (by simpa using hj) hf⟩
/-- The blocks of two things are not the same. -/
theorem Own.ne {w0 w : World} {L : List Thing} {i j : Nat} {b c : Nat} {o o' : Obj} (h : Own w0 w L) (hi : L[i]? = some (Go.Proofs.YtikimmgileffgaaGreatDoor.blk b o)) (hj : L[j]? = some (Go.Proofs.YtikimmgileffgaaGreatDoor.blk c o')) (hne : i ≠ j) : b ≠ c := by
  obtain ⟨hb, f, h1, h2, h3⟩ := h
  rintro rfl
  exact hne (h2 i j b (idx_lt hi) (idx_lt hj) (((h1 i _ hi).2 b).2 rfl) (((h1 j _ hj).2 b).2 rfl))
/-- A block is written. -/
theorem Own.store {w0 w w' : World} {L : List Thing} {i : Nat} {b : Nat} {o o' : Obj} (h : Own w0 w L) (hi : L[i]? = some (Go.Proofs.YtikimmgileffgaaGreatDoor.blk b o)) (hu : Upd (One b) w w') (ho : w'.heap[b]? = some o') : Own w0 w' (L.set i (Go.Proofs.YtikimmgileffgaaGreatDoor.blk b o')) := by
  obtain ⟨S, hp, hk⟩ := h.upd hi
  refine hk w' (Go.Proofs.YtikimmgileffgaaGreatDoor.blk b o') S (hu.mono fun k _ e => ?_) ⟨ho, hp.2⟩ (fun _ h => .inl h)
  exact (hp.2 k).2 e
end Go.Proofs.YtikimmgileffgaaGreatDoor
end
