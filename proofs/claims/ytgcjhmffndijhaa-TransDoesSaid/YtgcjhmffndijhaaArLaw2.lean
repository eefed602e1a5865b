/- What the calls of TransApart and TransKeys come to. No program in sight. -/
import Derived.Test.YtgcjhmffndijhaaArLaw
namespace Go.Proofs.Ytgcjhmffndijhaa
open Go.RowKit

theorem mk_old {A : Ar} {x : Nd} {i : Nat} (hr : right A.l x = true) (hi : A.l.idxOf? x = some i) : mk A x = (A, ((i : Nat) : Int), (0 : Int)) := by
  unfold mk
  rw [if_neg (by simp [hr]), hi]
theorem idx_some : ∀ {l : List Nd}, l.Nodup → ∀ {x : Nd} {i : Nat}, l[i]? = some x → l.idxOf? x = some i
  | [], _, x, i, h => by simp at h
  | a :: l, hd, x, 0, h => by simp at h; subst h; simp [List.idxOf?_cons]
  | a :: l, hd, x, i + 1, h => by
    simp only [List.getElem?_cons_succ] at h
    have hx : x ∈ l := List.mem_of_getElem? h
    rw [List.nodup_cons] at hd
    have hne : (a == x) = false := by simp; rintro rfl; exact hd.1 hx
    simp [List.idxOf?_cons, hne, idx_some hd.2 h]

def apB (n m : Int) : List Nd := if n = m then [Nd.zero, ⟨1, n, 0, 0, 0⟩] else [Nd.zero, ⟨1, n, 0, 0, 0⟩, ⟨1, m, 0, 0, 0⟩]
def apJ (n m : Int) : Int := if n = m then 1 else 2
def apL (n m : Int) (i : Nat) : List Nd := apB n m ++ (List.range i).map (fun k => ⟨7, (k : Int), 1, 0, 1⟩)
def apX (n m : Int) (i : Nat) : Int := apJ n m + 1 + i
def apT (n m : Int) (i : Nat) : Tr := ⟨⟨1, true, i⟩, ⟨apJ n m, true, 0⟩⟩
theorem apL_len (n m : Int) (i : Nat) : ((apL n m i).length : Int) = apX n m i := by
  unfold apL apX apB apJ; split <;> simp <;> omega
theorem apJ_pos (n m : Int) : 1 ≤ apJ n m ∧ apJ n m ≤ 2 := by unfold apJ; split <;> omega
theorem ap_start1 (n : Int) : mk (newAr 100) ⟨1, n, 0, 0, 0⟩ = ((⟨100, [Nd.zero, ⟨1, n, 0, 0, 0⟩]⟩ : Ar), (1 : Int), (0 : Int)) := by
  have := mk_new (A := newAr 100) (x := ⟨1, n, 0, 0, 0⟩) (right_name _ _) (by simp [newAr, Nd.zero]) (by decide)
  rw [this]; rfl
theorem ap_start2 (n m : Int) : mk ⟨100, [Nd.zero, ⟨1, n, 0, 0, 0⟩]⟩ ⟨1, m, 0, 0, 0⟩ = ((⟨100, apL n m 0⟩ : Ar), apJ n m, (0 : Int)) := by
  by_cases h : n = m
  · subst h
    have := mk_old (A := ⟨100, [Nd.zero, ⟨1, n, 0, 0, 0⟩]⟩) (x := ⟨1, n, 0, 0, 0⟩) (i := 1) (right_name _ _) (idx_some (by simp [Nd.zero]) rfl)
    rw [this]; simp [apL, apB, apJ]
  · have := mk_new (A := ⟨100, [Nd.zero, ⟨1, n, 0, 0, 0⟩]⟩) (x := ⟨1, m, 0, 0, 0⟩) (right_name _ _) (by simp [Nd.zero]; omega) (by simp)
    rw [this]; simp [apL, apB, apJ, h]
theorem apL_has {n m : Int} {i : Nat} {k : Int} (h0 : 0 ≤ k) (h1 : k ≤ apJ n m) : has (apL n m i) k = true := by
  rw [has_iff, apL_len]; unfold apX; omega
theorem apL_not (n m : Int) (i : Nat) : (⟨7, (i : Int), 1, 0, 1⟩ : Nd) ∉ apL n m i := by
  unfold apL apB; split <;> (simp [Nd.zero]; omega)
theorem apL_next (n m : Int) (i : Nat) : apL n m i ++ [⟨7, (i : Int), 1, 0, 1⟩] = apL n m (i + 1) := by simp [apL, List.range_succ]
theorem ap_seal (n m : Int) (i : Nat) (hi : i < 9) : sealT ⟨100, apL n m i⟩ (apT n m i) 1 = ((⟨100, apL n m (i + 1)⟩ : Ar), apT n m (i + 1), apX n m i, (0 : Int)) := by
  have hj := apJ_pos n m
  have h0 : has (apL n m i) 0 = true := apL_has (by omega) (by omega)
  have h1 : has (apL n m i) 1 = true := apL_has (by omega) (by omega)
  have := seal_new (A := ⟨100, apL n m i⟩) (n := i) (k := 1) (p := 1) h0 h1 h1 (by omega) (apL_not n m i) (by have := apL_len n m i; unfold apX at this; simp; omega)
  simp only [sealT, apT, this, apL_next, apL_len]
  simp
theorem ap_get (n m : Int) (i : Nat) : getNd (apL n m (i + 1)) (apX n m i) = ⟨7, (i : Int), 1, 0, 1⟩ := by
  have := get_last (apL n m i) ⟨7, (i : Int), 1, 0, 1⟩
  rwa [apL_next, apL_len] at this
theorem ap_open (n m : Int) (i : Nat) : openT (apL n m (i + 1)) (apT n m i) (apX n m i) = if n = m ∧ i = 0 then (((⟨⟨1, true, 0⟩, ⟨1, true, 1⟩⟩ : Tr), (1 : Int), (0 : Int)) : Tr × Int × Int) else (Tr.zero, 0, 7) := by
  have hj := apJ_pos n m
  have h0 : has (apL n m (i + 1)) 0 = true := apL_has (by omega) (by omega)
  have h1 : has (apL n m (i + 1)) (apJ n m) = true := apL_has (by omega) (by omega)
  have hx : has (apL n m (i + 1)) (apX n m i) = true := by rw [has_iff, apL_len]; unfold apX; omega
  have hg := ap_get n m i
  by_cases h : n = m ∧ i = 0
  · obtain ⟨rfl, rfl⟩ := h
    have hJ : apJ n n = 1 := by simp [apJ]
    rw [hJ] at h1
    have := open_of (n := 0) (k := 1) (p := 1) h0 hx h1 (by omega) hg
    simp [openT, apT, hJ, this]
  · have := open_not (n := 0) (k := apJ n m) h0 hx h1 (by omega) (by rw [hg]; simp; intro h2 h3; apply h; unfold apJ at h3; split at h3 <;> first | (exact ⟨by assumption, by omega⟩) | omega)
    rw [if_neg h]
    simp [openT, apT, this]

/-- The keys that come of one another. -/
def kyL (n : Int) (i : Nat) : List Nd := [Nd.zero, ⟨1, n, 0, 0, 0⟩] ++ (List.range i).map (fun k => ⟨6, 4, (k : Int) + 1, 0, 0⟩)
theorem kyL_len (n : Int) (i : Nat) : (kyL n i).length = 2 + i := by simp [kyL]; omega
theorem kyL_has {n : Int} {i : Nat} {k : Int} (h0 : 0 ≤ k) (h1 : k < 2 + i) : has (kyL n i) k = true := by rw [has_iff, kyL_len]; omega
theorem kyL_next (n : Int) (i : Nat) : kyL n i ++ [⟨6, 4, (i : Int) + 1, 0, 0⟩] = kyL n (i + 1) := by simp [kyL, List.range_succ]
theorem kyL_nodup (n : Int) : ∀ i, (kyL n i).Nodup
  | 0 => by simp [kyL, Nd.zero]
  | i + 1 => by
    rw [← kyL_next]
    refine List.nodup_append.2 ⟨kyL_nodup n i, by simp, ?_⟩
    intro a ha b hb
    simp at hb; subst hb
    simp [kyL, Nd.zero] at ha
    rintro rfl
    simp at ha; omega
theorem ky_start (n : Int) : mk (newAr 200) ⟨1, n, 0, 0, 0⟩ = ((⟨200, kyL n 0⟩ : Ar), (1 : Int), (0 : Int)) := num_start n
theorem ky_mk (n : Int) (M m : Nat) (h : m ≤ M) (hM : M < 20) : mk ⟨200, kyL n M⟩ ⟨6, 4, (m : Int) + 1, 0, 0⟩ = ((⟨200, kyL n (max M (m + 1))⟩ : Ar), (m : Int) + 2, (0 : Int)) := by
  have hr : right (kyL n M) ⟨6, 4, (m : Int) + 1, 0, 0⟩ = true := right_key (by decide) (by decide) (kyL_has (by omega) (by omega)) (kyL_has (by omega) (by omega))
  by_cases hlt : m < M
  · have hg : (kyL n M)[m + 2]? = some ⟨6, 4, (m : Int) + 1, 0, 0⟩ := by
      simp [kyL, List.getElem?_append_right, hlt]
    rw [mk_old (A := ⟨200, kyL n M⟩) hr (idx_some (kyL_nodup n M) hg), show max M (m + 1) = M by omega]
    simp
  · obtain rfl : m = M := by omega
    have hm : (⟨6, 4, (m : Int) + 1, 0, 0⟩ : Nd) ∉ kyL n m := by simp [kyL, Nd.zero]; omega
    rw [mk_new (A := ⟨200, kyL n m⟩) hr hm (by rw [kyL_len]; simp; omega)]
    simp only [kyL_next, kyL_len, show max m (m + 1) = m + 1 by omega]
    simp; omega
def kyT (i : Nat) : Tr := ⟨⟨(i : Int) + 1, true, 0⟩, ⟨1, true, 0⟩⟩
def kyU (m : Nat) : Tr := ⟨⟨1, true, 0⟩, ⟨(m : Int) + 1, true, 0⟩⟩
theorem ky_send (n : Int) (i : Nat) (hi : i < 9) : rekeyT ⟨200, kyL n i⟩ (kyT i) true = ((⟨200, kyL n (i + 1)⟩ : Ar), kyT (i + 1), (0 : Int)) := by
  have := ky_mk n i i (by omega) (by omega)
  rw [show max i (i + 1) = i + 1 by omega] at this
  simp [rekeyT, rekeyC, kyT, this]; omega
theorem ky_recv (n : Int) (i m : Nat) (hi : i < 9) (hm : m < 9) : rekeyT ⟨200, kyL n (max i m)⟩ (kyU m) false = ((⟨200, kyL n (max i (m + 1))⟩ : Ar), kyU (m + 1), (0 : Int)) := by
  have := ky_mk n (max i m) m (by omega) (by omega)
  rw [show max (max i m) (m + 1) = max i (m + 1) by omega] at this
  simp [rekeyT, rekeyC, kyU, this]; omega
theorem ky_seal (n : Int) (i M : Nat) (hi : i ≤ M) (hM : M < 20) : sealT ⟨200, kyL n M⟩ (kyT i) 1 = ((⟨200, kyL n M ++ [⟨7, 0, (i : Int) + 1, 0, 1⟩]⟩ : Ar), (⟨⟨(i : Int) + 1, true, 1⟩, ⟨1, true, 0⟩⟩ : Tr), 2 + (M : Int), (0 : Int)) := by
  have := seal_new (A := ⟨200, kyL n M⟩) (n := 0) (k := (i : Int) + 1) (p := 1) (kyL_has (by omega) (by omega)) (kyL_has (by omega) (by omega)) (kyL_has (by omega) (by omega)) (by omega) (by simp [kyL, Nd.zero]) (by rw [kyL_len]; simp; omega)
  simp [sealT, kyT, this, kyL_len]
theorem ky_open (n : Int) (i m M : Nat) (hi : i ≤ M) (hm : m ≤ M) : openT (kyL n M ++ [⟨7, 0, (i : Int) + 1, 0, 1⟩]) (kyU m) (2 + (M : Int)) = if i = m then (((⟨⟨1, true, 0⟩, ⟨(m : Int) + 1, true, 1⟩⟩ : Tr), (1 : Int), (0 : Int)) : Tr × Int × Int) else (Tr.zero, 0, 7) := by
  have hg := get_last (kyL n M) ⟨7, 0, (i : Int) + 1, 0, 1⟩
  rw [kyL_len] at hg
  have h0 : has (kyL n M ++ [⟨7, 0, (i : Int) + 1, 0, 1⟩]) 0 = true := has_app (kyL_has (by omega) (by omega)) _
  have hk : has (kyL n M ++ [⟨7, 0, (i : Int) + 1, 0, 1⟩]) ((m : Int) + 1) = true := has_app (kyL_has (by omega) (by omega)) _
  have hx : has (kyL n M ++ [⟨7, 0, (i : Int) + 1, 0, 1⟩]) ((2 + M : Nat) : Int) = true := by rw [has_iff]; simp [kyL_len]; omega
  by_cases h : i = m
  · subst h
    have := open_of (n := 0) (p := 1) h0 hx hk (by omega) hg
    simp at this
    simp [openT, kyU, this]
  · have := open_not (n := 0) h0 hx hk (by omega) (by rw [hg]; simp; omega)
    simp at this
    simp [openT, kyU, this, h]
end Go.Proofs.Ytgcjhmffndijhaa
