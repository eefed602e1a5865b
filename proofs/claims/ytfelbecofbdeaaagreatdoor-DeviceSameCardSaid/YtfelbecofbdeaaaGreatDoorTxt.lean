/- A term's text, as plain data. No program in sight. -/
import Derived.Test.YtfelbecofbdeaaaGreatDoorRw
import Derived.Test.YtfelbecofbdeaaaGreatDoorMaps
import Derived.Lib.ItoaMem
namespace Go.Proofs.YtfelbecofbdeaaaGreatDoor
open Go.RowKit

def digs (n : Nat) : List UInt8 := Lib.decDigits n
/-- A row of a text: kind, number, where the parts stand. -/
def partT (rows : List Int) (p : Int) : List UInt8 := 32 :: digs (rows.idxOf p)
def rowT1 (n : Nd) : List UInt8 := digs n.kind.toNat ++ 32 :: digs n.n.toNat
def rowText (rows : List Int) (n : Nd) : List UInt8 := rowT1 n ++ (kids n).flatMap (partT rows) ++ [59]
def textR (l : List Nd) (rows : List Int) (ys : List Int) : List UInt8 := ys.flatMap fun y => rowText rows (nd l y)
def text (l : List Nd) (x : Int) : List UInt8 := textR l (rowsA l [] x) (rowsA l [] x)
def atE (ys : List Int) : List (Int × Value) := ys.zipIdx.map fun p => (p.1, Value.int .i64 p.2)
theorem findL_zip (x : Int) : ∀ (ys : List Int) (m i : Nat), x ∈ ys → findL x ((ys.zipIdx m).map fun p => (p.1, Value.int .i64 p.2)) i = some (i + ys.idxOf x, .int .i64 (m + ys.idxOf x : Nat))
  | [], m, i, h => by simp at h
  | y :: ys, m, i, h => by
    rw [List.zipIdx_cons, List.map_cons, findL]
    by_cases e : x = y
    · subst e; simp
    · rw [if_neg e]
      have hm : x ∈ ys := by rcases List.mem_cons.1 h with h | h; exact absurd h e; exact h
      rw [findL_zip x ys (m + 1) (i + 1) hm, List.idxOf_cons]
      have : (y == x) = false := by simpa using Ne.symm e
      simp [this]; omega
theorem findL_atE {x : Int} {ys : List Int} (h : x ∈ ys) : ((findL x (atE ys) 0).map (·.2)).getD (.int .i64 0) = .int .i64 (ys.idxOf x : Nat) := by
  unfold atE; rw [findL_zip x ys 0 0 h]; simp
theorem setL_atE {x : Int} {ys : List Int} (h : x ∉ ys) : setL x (.int .i64 (ys.length : Nat)) (atE ys) = atE (ys ++ [x]) := by
  have : findL x (atE ys) 0 = none := by
    rw [findL_none]; intro p hp e
    simp only [atE, List.mem_map] at hp
    obtain ⟨q, hq, rfl⟩ := hp
    have := List.fst_mem_of_mem_zipIdx hq
    exact h (e ▸ this)
  unfold setL
  rw [this]
  simp [atE, List.zipIdx_append]
theorem idxOf_take {x : Int} {ys : List Int} {k : Nat} (h : x ∈ ys.take k) : (ys.take k).idxOf x = ys.idxOf x := by
  conv => rhs; rw [← List.take_append_drop k ys, List.idxOf_append, if_pos h]
theorem digs_len (n : Nat) (h : n < 18446744073709551616) : (digs n).length ≤ 20 := by
  unfold digs; rw [Lib.decDigits_length]
  rcases Nat.eq_zero_or_pos n with rfl | hp
  · decide +kernel
  · have := Lib.numDigits_eq n hp h; split at this <;> omega
theorem rowText_len {l : List Nd} (w : Wf l) {rows : List Int} {y : Int} (hr : rows.length ≤ 65536) (hy : has l y = true) : (rowText rows (nd l y)).length ≤ 200 := by
  have hf := w.fits _ (nd_mem hy)
  have h1 := digs_len (nd l y).kind.toNat (by omega)
  have h2 := digs_len (nd l y).n.toNat (by omega)
  have h3 : ∀ p : Int, (partT rows p).length ≤ 21 := fun p => by
    have := digs_len (rows.idxOf p) (by have := List.idxOf_le_length (a := p) (l := rows); omega)
    simp [partT]; omega
  have h4 : ∀ ks : List Int, (ks.flatMap (partT rows)).length ≤ 21 * ks.length := fun ks => by
    induction ks with
    | nil => simp
    | cons p ks ih => have := h3 p; simp [List.flatMap_cons] at ih ⊢; omega
  have h5 := h4 (kids (nd l y))
  rw [kids_length] at h5
  have := many_le (nd l y).kind
  unfold rowText rowT1
  simp only [List.length_append, List.length_cons, List.length_nil]
  omega
theorem textR_len {l : List Nd} (w : Wf l) {rows : List Int} (hr : rows.length ≤ 65536) : ∀ (ys : List Int), (∀ y ∈ ys, has l y = true) → (textR l rows ys).length ≤ 200 * ys.length
  | [], _ => by simp [textR]
  | y :: ys, h => by
    have h1 := rowText_len w hr (h y (by simp))
    have h2 := textR_len w hr ys (fun z hz => h z (by simp [hz]))
    unfold textR at h2 ⊢
    rw [List.flatMap_cons, List.length_append, List.length_cons]
    omega
/-- Of the rows each has its parts ahead of it. -/
theorem rows_closed {l : List Nd} (w : Wf l) (x : Int) : ∀ (k : Nat) (y : Int), (rowsA l [] x)[k]? = some y → ∀ p ∈ kids (nd l y), p ∈ (rowsA l [] x).take k := by
  have := (rows_ind w (fun a b => ∃ t, b = a ++ t ∧ ∀ (k : Nat) (y : Int), t[k]? = some y → ∀ p ∈ kids (nd l y), p ∈ a ++ t.take k) (fun a => ⟨[], by simp, by simp⟩)
    (fun a b c ⟨t, h1, h2⟩ ⟨u, h3, h4⟩ => ⟨t ++ u, by rw [h3, h1, List.append_assoc], fun k y hk p hp => by
      rcases Nat.lt_or_ge k t.length with hlt | hge
      · rw [List.getElem?_append_left hlt] at hk
        rw [List.take_append_of_le_length (by omega)]
        exact h2 k y hk p hp
      · rw [List.getElem?_append_right hge] at hk
        have := h4 _ y hk p hp
        rw [h1] at this
        rw [List.take_append, List.take_of_length_le hge, ← List.append_assoc]
        exact this⟩)
    (fun acc acc' y hy _ _ hk _ => ⟨[y], rfl, fun k z hz p hp => by
      match k, hz with
      | 0, hz => simp at hz; subst hz; simpa using hk p hp⟩)
    (fun a b y ⟨t, h1, _⟩ hy => by rw [h1]; exact List.mem_append_left _ hy) (x.toNat + 1) [] x (by omega)).1
  obtain ⟨t, h1, h2⟩ := this
  simp only [List.nil_append] at h1 h2
  rw [h1]; exact h2
end Go.Proofs.YtfelbecofbdeaaaGreatDoor
