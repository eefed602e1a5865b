/- Arguments opened: a slice of ints, of structs of two one-cell fields, of slices of ints, as the cells that it holds. Any program. -/
import Derived.Test.YtfelbecofbdeaaaGreatDoorLib
import Derived.ProofKit
import Derived.OpenShut
import Derived.Deep.Slices
import Derived.Deep.Fields
namespace Go.Proofs.YtfelbecofbdeaaaGreatDoor
open Go.ChangeShapes Go.WideShapes Go.ChangeAt Go.RowKit Go.Deep

section
variable {H : Type} {enc : TypeId × Value → H} {P : Program} {w : World} {base : Nat} {spare : Nat → Bool} {held : Bool}

theorem add_of_cell {w : World} {a : Addr} {v : Value} (h : w.cell? a = some v) : ∃ b o, a = ⟨b, o, none⟩ := by
  obtain ⟨b, o, s⟩ := a
  cases s with
  | none => exact ⟨b, o, rfl⟩
  | some s =>
    simp only [World.cell?] at h
    split at h <;> simp at h

theorem add_off (b o i : Nat) : (⟨b, o, none⟩ : Addr).add i = ⟨b, o + i, none⟩ := by
  unfold Addr.add
  by_cases h : i = 0 <;> simp [h]

/-- Cells by index make a row that is held. -/
theorem holds_of_index {w : World} {a : Addr} {xs : List Value} (h : ∀ i v, xs[i]? = some v → w.cell? (a.add i) = some v) : Holds w (some a) xs := by
  match xs, h with
  | [], _ => exact .inl rfl
  | x :: r, h =>
    have h0 := h 0 x rfl
    simp only [Addr.add, if_true] at h0
    obtain ⟨b, o, rfl⟩ := add_of_cell h0
    exact .inr ⟨b, o, rfl, fun i v hi => by rw [← add_off]; exact h i v hi⟩

theorem holds_lt {w : World} {A : Option Addr} {xs : List Value} (h : Holds w A xs) (hne : xs ≠ []) : ∀ a, A = some a → a.block < w.heap.size := by
  rcases h with h | ⟨b, o, rfl, h⟩
  · exact absurd h hne
  · intro a ha
    cases ha
    match xs, hne, h with
    | x :: r, _, h => exact World.block_lt_of_cell? w _ (h 0 x rfl)

theorem open_ints_holds {t e : TypeId} {k : IntKind} {r : Reach} {b0 : Nat} {v : Value} {d : DataW H} {p : List MemPlace} (ht : P.underlying t = some (.slice e)) (he : P.underlying e = some (.int k)) (hce : P.cellsOf e = 1)
    (hv : Value.okWide P w r b0 t v) (h : DataW.Trod enc P w base spare held t v d p) :
    ∃ (A : Option Addr) (c : Nat) (xs : List Int), v = .slice A xs.length c ∧ Holds w A (xs.map (Value.int k)) ∧ xs.length ≤ maxLen ∧ ∀ x ∈ xs, (Lit.int k x).wf = true := by
  obtain ⟨a0, len, cap, rfl⟩ := okWide_slice ht hv
  obtain ⟨fuel, hf⟩ := h
  rcases open_ints ht he hce hf with ⟨hcs, _⟩ | ⟨x, l, c, zs, hcs, _, hl, hm, hz, _, hcell, hwz⟩
  · simp [Value.cells] at hcs
    obtain ⟨rfl, rfl, rfl⟩ := hcs
    exact ⟨none, 0, [], rfl, .inl rfl, Nat.zero_le _, by simp⟩
  · simp [Value.cells] at hcs
    obtain ⟨rfl, rfl, rfl⟩ := hcs
    have hlz : len ≤ zs.length := by rw [hz]; split <;> omega
    refine ⟨some x, cap, zs.take len, by rw [List.length_take, Nat.min_eq_left hlz], holds_of_index fun i v hi => ?_, by rw [List.length_take]; omega, fun y hy => hwz y (List.mem_of_mem_take hy)⟩
    rw [List.getElem?_map, List.getElem?_take] at hi
    split at hi
    · have hi2 : i < zs.length := by omega
      have := hcell i hi2
      rw [List.getElem?_eq_getElem hi2] at hi
      simp only [Option.map_some, Option.some.injEq] at hi
      rw [this, ← hi]; simp [List.getD, hi2]
    · simp at hi

/-- A list from what is known at each index. -/
theorem list_of_index {α : Type} [Inhabited α] {n : Nat} {p : Nat → α → Prop} (h : ∀ i, i < n → ∃ x, p i x) : ∃ l : List α, l.length = n ∧ ∀ i x, l[i]? = some x → p i x := by
  obtain ⟨f, hf⟩ := choose_lt h
  refine ⟨(List.range n).map f, by simp, fun i x hi => ?_⟩
  have hin : i < n := by
    rcases Nat.lt_or_ge i n with h' | h'
    · exact h'
    · rw [List.getElem?_eq_none (by simpa using h')] at hi; cases hi
  simp [hin] at hi
  subst hi; exact hf i hin

/-- A slice of ints as a value: where it begins, what it holds, its capacity. -/
structure RowV where
  a : Option Addr
  xs : List Int
  c : Nat
  deriving Inhabited
def RowV.val (r : RowV) : Value := .slice r.a r.xs.length r.c

theorem open_rows_holds {t e f : TypeId} {k : IntKind} {r : Reach} {b0 : Nat} {v : Value} {d : DataW H} {p : List MemPlace} (ht : P.underlying t = some (.slice e)) (he : P.underlying e = some (.slice f)) (hf : P.underlying f = some (.int k)) (hce : P.cellsOf e = 1) (hcf : P.cellsOf f = 1)
    (hv : Value.okWide P w r b0 t v) (h : DataW.Trod enc P w base spare held t v d p) :
    ∃ (A : Option Addr) (c : Nat) (rows : List RowV), v = .slice A rows.length c ∧ Holds w A (rows.map RowV.val) ∧ rows.length ≤ maxLen ∧ ∀ x ∈ rows, Holds w x.a (x.xs.map (Value.int k)) ∧ x.xs.length ≤ maxLen := by
  obtain ⟨a0, len, cap, rfl⟩ := okWide_slice ht hv
  obtain ⟨fuel, hfu⟩ := h
  rcases open_slice1 ht hce hfu with ⟨hcs, _⟩ | ⟨x, l, c, m, n, V, D, Pl, hcs, _, hl, hm, hmm, _, hi⟩
  · simp [Value.cells] at hcs
    obtain ⟨rfl, rfl, rfl⟩ := hcs
    exact ⟨none, 0, [], rfl, .inl rfl, Nat.zero_le _, by simp⟩
  · simp [Value.cells] at hcs
    obtain ⟨rfl, rfl, rfl⟩ := hcs
    have hlm : len ≤ m := by rw [hmm]; split <;> omega
    obtain ⟨rows, hrl, hr⟩ := list_of_index (n := len) (p := fun i (r : RowV) => w.cell? (x.add i) = some r.val ∧ Holds w r.a (r.xs.map (Value.int k)) ∧ r.xs.length ≤ maxLen) (fun i hil => by
      obtain ⟨h1, h2⟩ := hi i (by omega)
      rcases open_ints he hf hcf h2 with ⟨hcs, _⟩ | ⟨y, l', c', zs, hcs, _, hl', hm', hz, _, hcell, hwz⟩
      · refine ⟨⟨none, [], 0⟩, ?_, .inl rfl, Nat.zero_le _⟩
        rw [h1]; simpa [RowV.val] using hcs
      · have hlz : l' ≤ zs.length := by rw [hz]; split <;> omega
        refine ⟨⟨some y, zs.take l', c'⟩, ?_, holds_of_index fun j v hj => ?_, by simp only [List.length_take]; omega⟩
        · rw [h1]
          simp only [List.cons.injEq, and_true] at hcs
          rw [hcs, RowV.val, List.length_take, Nat.min_eq_left hlz]
        · rw [List.getElem?_map, List.getElem?_take] at hj
          split at hj
          · have hi2 : j < zs.length := by omega
            have := hcell j hi2
            rw [List.getElem?_eq_getElem hi2] at hj
            simp only [Option.map_some, Option.some.injEq] at hj
            rw [this, ← hj]; simp [List.getD, hi2]
          · simp at hj)
    refine ⟨some x, cap, rows, by rw [hrl], holds_of_index fun i v hv => ?_, by omega, fun y hy => ?_⟩
    · rw [List.getElem?_map] at hv
      obtain ⟨r, hr1, rfl⟩ := Option.map_eq_some_iff.1 hv
      exact (hr i r hr1).1
    · obtain ⟨i, hi1⟩ := List.getElem?_of_mem hy
      exact (hr i y hi1).2

/-! Of the guide's page of lemmas to copy: a slice of structs, field by field. -/
theorem open_slice_fields {t e : TypeId} {fs : Array Field} {fuel : Nat} {cs : List Value} {x : DataW H × List MemPlace} (ht : P.underlying t = some (.slice e)) (he : P.underlying e = some (.struct fs))
    (hone : oneCellFields P fs = true) (hC : P.cellsOf e = fs.size) (h : DataW.trod enc P w base spare held fuel t cs = some x) :
    (cs = [.slice none 0 0] ∧ x = (.nil, [])) ∨
    ∃ (a : Addr) (len cap m : Nat) (D : Nat → DataW H) (Pl : Nat → List MemPlace), cs = [.slice (some a) len cap] ∧ base ≤ a.block ∧ len ≤ cap ∧ cap ≤ maxLen ∧ m = (if spare a.block then cap else len) ∧
      x = (.slice ((List.range len).map D) ((List.range (m - len)).map fun j => D (len + j)), MemPlace.row a (m * fs.size) ++ (List.range m).flatMap Pl) ∧
      ∀ i, i < m → ∃ (ys : List (DataW H × List MemPlace)) (n : Nat), D i = .agg (ys.map (·.1)) ∧ Pl i = ys.flatMap (·.2) ∧ ys.length = fs.size ∧
        ∀ (j : Nat) (f : Field), fs[j]? = some f → ∃ (v : Value) (y : DataW H × List MemPlace), w.cell? (a.add (i * fs.size + j)) = some v ∧ ys[j]? = some y ∧ DataW.trod enc P w base spare held n f.type [v] = some y := by
  rcases open_slice ht h with h0 | ⟨a, len, cap, m, n, D, Pl, hcs, hb, hl, hm, hmm, hx, hi⟩
  · exact .inl h0
  · refine .inr ⟨a, len, cap, m, D, Pl, hcs, hb, hl, hm, hmm, by rw [hC] at hx; exact hx, fun i him => ?_⟩
    obtain ⟨cs', hc, ht'⟩ := hi i him
    rw [hC] at hc
    obtain ⟨ys, n', hn', hy, hlen, hyl, hf⟩ := DataW.trod_struct he ht'
    obtain ⟨_, hcl, hat⟩ := World.cells?_some hc
    simp only [Prod.mk.injEq] at hy
    refine ⟨ys, n', hy.1, hy.2, hyl, fun j f hj => ?_⟩
    obtain ⟨ho, hk⟩ := hone_of hone j f hj
    have hjl : j < fs.size := (Array.getElem?_eq_some_iff.1 hj).1
    have hcell := hat j hjl
    have hv : cs'[j]? = some (cs'[j]'(by omega)) := List.getElem?_eq_getElem (by omega)
    have h1 := hf j f hj
    rw [ho, hk] at h1
    have hone' : (cs'.drop j).take 1 = [cs'[j]'(by omega)] := by
      rw [List.drop_eq_getElem_cons (by omega)]
      rfl
    rw [hone'] at h1
    have hys : ys[j]? = some (ys[j]'(by omega)) := List.getElem?_eq_getElem (by omega)
    refine ⟨_, _, ?_, hys, h1.trans hys⟩
    rw [← Go.Deep.add_add, hcell, hv]

theorem flatMap_at {α β : Type} (f : α → List β) (k : Nat) (hk : 0 < k) (hf : ∀ x, (f x).length = k) : ∀ (l : List α) (m : Nat), (l.flatMap f)[m]? = (l[m / k]?).bind fun x => (f x)[m % k]?
  | [], m => by simp
  | x :: l, m => by
    rw [List.flatMap_cons, List.getElem?_append, hf x]
    by_cases h : m < k
    · rw [if_pos h, Nat.div_eq_of_lt h, Nat.mod_eq_of_lt h]; simp
    · rw [if_neg h, flatMap_at f k hk hf l (m - k)]
      have h1 : m / k = (m - k) / k + 1 := by rw [Nat.div_eq_sub_div hk (by omega)]
      have h2 : m % k = (m - k) % k := by rw [Nat.mod_eq_sub_mod (by omega)]
      rw [h1, h2, List.getElem?_cons_succ]

/-- Two ints. -/
def two (o : Int × Int) : List Value := [.int .i64 o.1, .int .i64 o.2]
theorem open_twos_holds {t e : TypeId} {f0 f1 : Field} {r : Reach} {b0 : Nat} {v : Value} {d : DataW H} {p : List MemPlace} (ht : P.underlying t = some (.slice e)) (he : P.underlying e = some (.struct #[f0, f1])) (h0 : P.underlying f0.type = some (.int .i64)) (h1 : P.underlying f1.type = some (.int .i64))
    (hone : oneCellFields P #[f0, f1] = true) (hC : P.cellsOf e = 2) (hv : Value.okWide P w r b0 t v) (h : DataW.Trod enc P w base spare held t v d p) :
    ∃ (A : Option Addr) (c : Nat) (os : List (Int × Int)), v = .slice A os.length c ∧ Holds w A (os.flatMap two) ∧ os.length ≤ maxLen := by
  obtain ⟨a0, len, cap, rfl⟩ := okWide_slice ht hv
  obtain ⟨fuel, hfu⟩ := h
  rcases open_slice_fields ht he hone hC hfu with ⟨hcs, _⟩ | ⟨x, l, c, m, D, Pl, hcs, _, hl, hm, hmm, _, hi⟩
  · simp [Value.cells] at hcs
    obtain ⟨rfl, rfl, rfl⟩ := hcs
    exact ⟨none, 0, [], rfl, .inl rfl, Nat.zero_le _⟩
  · simp [Value.cells] at hcs
    obtain ⟨rfl, rfl, rfl⟩ := hcs
    have hlm : len ≤ m := by rw [hmm]; split <;> omega
    obtain ⟨os, hrl, hr⟩ := list_of_index (n := len) (p := fun i (o : Int × Int) => w.cell? (x.add (i * 2)) = some (.int .i64 o.1) ∧ w.cell? (x.add (i * 2 + 1)) = some (.int .i64 o.2)) (fun i hil => by
      obtain ⟨ys, n, _, _, _, hf⟩ := hi i (by omega)
      obtain ⟨v0, y0, hc0, _, ht0⟩ := hf 0 f0 rfl
      obtain ⟨v1, y1, hc1, _, ht1⟩ := hf 1 f1 rfl
      obtain ⟨a, e0, _, _⟩ := DataW.trod_int h0 ht0
      obtain ⟨b, e1, _, _⟩ := DataW.trod_int h1 ht1
      simp only [List.cons.injEq, and_true] at e0 e1
      subst e0 e1
      exact ⟨(a, b), hc0, hc1⟩)
    refine ⟨some x, cap, os, by rw [hrl], holds_of_index fun i v hv => ?_, by omega⟩
    rw [flatMap_at two 2 (by decide) (fun _ => rfl)] at hv
    obtain ⟨o, ho, hv⟩ := Option.bind_eq_some_iff.1 hv
    obtain ⟨hc0, hc1⟩ := hr _ o ho
    rcases Nat.mod_two_eq_zero_or_one i with h | h
    · rw [h] at hv
      simp [two] at hv
      subst hv
      rw [← hc0]; congr 2; omega
    · rw [h] at hv
      simp [two] at hv
      subst hv
      rw [← hc1]; congr 2; omega
end
end Go.Proofs.YtfelbecofbdeaaaGreatDoor
