/- What the calls of layers 1, 10, 13 come to where nothing is in the way. No program in sight. -/
import Derived.Test.YtgcjhmffndijhaaTra
namespace Go.Proofs.Ytgcjhmffndijhaa
open Go.RowKit

theorem idx_none {l : List Nd} {x : Nd} (h : x ∉ l) : l.idxOf? x = none := List.idxOf?_eq_none_iff.2 h
theorem mk_new {A : Ar} {x : Nd} (hr : right A.l x = true) (hn : x ∉ A.l) (hroom : A.l.length < A.limit) : mk A x = ((⟨A.limit, A.l ++ [x]⟩ : Ar), ((A.l.length : Nat) : Int), (0 : Int)) := by
  unfold mk
  rw [if_neg (by simp [hr]), idx_none hn]
  simp only
  rw [if_neg (by omega)]
theorem right_name (l : List Nd) (n : Int) : right l ⟨1, n, 0, 0, 0⟩ = true := by
  simp [right, numberedP, partsOk, many, Nd.part, List.range, List.range.loop]
theorem right_seal {l : List Nd} {n a b c : Int} (ha : has l a = true) (hb : has l b = true) (hc : has l c = true) : right l ⟨7, n, a, b, c⟩ = true := by
  simp [right, numberedP, partsOk, many, Nd.part, List.range, List.range.loop, ha, hb, hc]
theorem right_key {l : List Nd} {n a b : Int} (h1 : 1 ≤ n) (h4 : n ≤ 4) (ha : has l a = true) (hb : has l b = true) : right l ⟨6, n, a, b, 0⟩ = true := by
  simp [right, numberedP, partsOk, many, Nd.part, List.range, List.range.loop, ha, hb, h1, h4]
theorem seal_new {A : Ar} {n k p : Int} (h0 : has A.l 0 = true) (hp : has A.l p = true) (hk : has A.l k = true) (hn : n ≠ 18446744073709551615) (hm : (⟨7, n, k, 0, p⟩ : Nd) ∉ A.l) (hroom : A.l.length < A.limit) :
    sealC A ⟨k, true, n⟩ 0 p = ((⟨A.limit, A.l ++ [⟨7, n, k, 0, p⟩]⟩ : Ar), (⟨k, true, n + 1⟩ : Ci), ((A.l.length : Nat) : Int), (0 : Int)) := by
  have hmay : mayC A.l ⟨k, true, n⟩ [0, p] = 0 := by rw [mayC_two]; simp [h0, hp, hk, hn]
  simp [sealC, hmay, mk_new (right_seal hk h0 hp) hm hroom, laterC]
theorem open_of {l : List Nd} {n k x p : Int} (h0 : has l 0 = true) (hx : has l x = true) (hk : has l k = true) (hn : n ≠ 18446744073709551615) (hm : getNd l x = ⟨7, n, k, 0, p⟩) :
    openC l ⟨k, true, n⟩ 0 x = (⟨k, true, n + 1⟩, p, 0) := by
  have hmay : mayC l ⟨k, true, n⟩ [0, x] = 0 := by rw [mayC_two]; simp [h0, hx, hk, hn]
  simp [openC, hmay, hm, laterC]
theorem open_not {l : List Nd} {n k x : Int} (h0 : has l 0 = true) (hx : has l x = true) (hk : has l k = true) (hn : n ≠ 18446744073709551615) (hm : getNd l x ≠ ⟨7, n, k, 0, (getNd l x).c⟩) :
    openC l ⟨k, true, n⟩ 0 x = (Ci.zero, 0, 7) := by
  have hmay : mayC l ⟨k, true, n⟩ [0, x] = 0 := by rw [mayC_two]; simp [h0, hx, hk, hn]
  simp [openC, hmay, hm]
theorem get_last (l : List Nd) (x : Nd) : getNd (l ++ [x]) l.length = x := by
  have : has (l ++ [x]) l.length = true := by rw [has_iff]; simp; omega
  simp [getNd, this, nd, List.getD]
theorem get_old {l : List Nd} {x : Int} (h : has l x = true) (m : List Nd) : getNd (l ++ m) x = getNd l x := by
  rw [has_iff] at h
  have h1 : x.toNat < l.length := by omega
  have h2 : has (l ++ m) x = true := by rw [has_iff]; simp; omega
  have h3 : has l x = true := by rw [has_iff]; omega
  simp [getNd, h2, h3, nd, List.getD, List.getElem?_append_left h1]
theorem has_app {l : List Nd} {x : Int} (h : has l x = true) (m : List Nd) : has (l ++ m) x = true := by
  rw [has_iff] at *; simp; omega

/-- What an arena has behind so many messages there, and so many back. -/
def numL (n : Int) (i j : Nat) : List Nd := [Nd.zero, ⟨1, n, 0, 0, 0⟩] ++ (List.range i).map (fun k => ⟨7, (k : Int), 1, 0, 1⟩) ++ (List.range j).map (fun k => ⟨7, (k : Int), 0, 0, 1⟩)
theorem numL_len (n : Int) (i j : Nat) : (numL n i j).length = 2 + i + j := by simp [numL]; omega
theorem numL_there (n : Int) (i : Nat) : numL n i 0 ++ [⟨7, (i : Int), 1, 0, 1⟩] = numL n (i + 1) 0 := by simp [numL, List.range_succ]
theorem numL_back (n : Int) (i j : Nat) : numL n i j ++ [⟨7, (j : Int), 0, 0, 1⟩] = numL n i (j + 1) := by simp [numL, List.range_succ]
theorem numL_not (n : Int) (i : Nat) : (⟨7, (i : Int), 1, 0, 1⟩ : Nd) ∉ numL n i 0 := by
  simp [numL, Nd.zero]; omega
theorem numL_not' (n : Int) (i j : Nat) : (⟨7, (j : Int), 0, 0, 1⟩ : Nd) ∉ numL n i j := by
  simp [numL, Nd.zero]; omega
theorem numL_has (n : Int) (i j : Nat) (k : Int) (h0 : 0 ≤ k) (h1 : k < 2) : has (numL n i j) k = true := by rw [has_iff, numL_len]; omega
theorem num_seal (n : Int) (i : Nat) (hi : i < 20) : sealT ⟨200, numL n i 0⟩ ⟨⟨1, true, i⟩, ⟨0, true, 0⟩⟩ 1 = (⟨200, numL n (i + 1) 0⟩, ⟨⟨1, true, (i : Int) + 1⟩, ⟨0, true, 0⟩⟩, 2 + (i : Int), 0) := by
  have := seal_new (A := ⟨200, numL n i 0⟩) (n := i) (k := 1) (p := 1) (numL_has _ _ _ _ (by decide) (by decide)) (numL_has _ _ _ _ (by decide) (by decide)) (numL_has _ _ _ _ (by decide) (by decide)) (by omega) (numL_not n i) (by rw [numL_len]; simp; omega)
  simp only [sealT, this, numL_there, numL_len]
  simp
theorem num_get (n : Int) (i : Nat) : getNd (numL n (i + 1) 0) (2 + (i : Int)) = ⟨7, (i : Int), 1, 0, 1⟩ := by
  have := get_last (numL n i 0) ⟨7, (i : Int), 1, 0, 1⟩
  rw [numL_there, numL_len] at this
  simpa using this
theorem num_mk (n : Int) (i j : Nat) (hi : i < 20) (hj : j < 20) : mk ⟨200, numL n i j⟩ ⟨7, (j : Int), 0, 0, 1⟩ = (⟨200, numL n i (j + 1)⟩, 2 + (i : Int) + j, 0) := by
  have := mk_new (A := ⟨200, numL n i j⟩) (x := ⟨7, (j : Int), 0, 0, 1⟩) (right_seal (numL_has _ _ _ _ (by decide) (by decide)) (numL_has _ _ _ _ (by decide) (by decide)) (numL_has _ _ _ _ (by decide) (by decide))) (numL_not' n i j) (by rw [numL_len]; simp; omega)
  rw [this]
  simp [numL_back, numL_len]
theorem num_open (n : Int) (i j : Nat) (c : Ci) (hj : j < 20) : openT (numL n i (j + 1)) ⟨c, ⟨0, true, j⟩⟩ (2 + (i : Int) + j) = (⟨c, ⟨0, true, (j : Int) + 1⟩⟩, 1, 0) := by
  have hg := get_last (numL n i j) ⟨7, (j : Int), 0, 0, 1⟩
  rw [numL_back, numL_len] at hg
  simp at hg
  have := open_of (l := numL n i (j + 1)) (n := j) (k := 0) (x := 2 + (i : Int) + j) (p := 1) (numL_has _ _ _ _ (by decide) (by decide)) (by rw [has_iff, numL_len]; omega) (numL_has _ _ _ _ (by decide) (by decide)) (by omega) hg
  simp [openT, this]
theorem num_start (n : Int) : mk (newAr 200) ⟨1, n, 0, 0, 0⟩ = (⟨200, numL n 0 0⟩, 1, 0) := by
  have := mk_new (A := newAr 200) (x := ⟨1, n, 0, 0, 0⟩) (right_name _ _) (by simp [newAr, Nd.zero]) (by decide)
  rw [this]; rfl
end Go.Proofs.Ytgcjhmffndijhaa
