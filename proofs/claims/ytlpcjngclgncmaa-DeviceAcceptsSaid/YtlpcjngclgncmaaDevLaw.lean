/- What the calls of DeviceFull come to. No program in sight. -/
import Derived.Test.YtlpcjngclgncmaaDev2
namespace Go.Proofs.Ytlpcjngclgncmaa
open Go.RowKit

theorem lk_none {k : Int} : ∀ {l : List (Int × Int)}, (∀ p ∈ l, p.1 ≠ k) → lk k l = none
  | [], _ => rfl
  | p :: l, h => by
    unfold lk
    rw [if_neg (fun e => h p (List.mem_cons_self ..) e.symm)]
    exact lk_none (fun q hq => h q (List.mem_cons_of_mem _ hq))
theorem wh_none {v : Int} : ∀ {l : List (Int × Int)}, (∀ p ∈ l, p.2 ≠ v) → wh v l = none
  | [], _ => rfl
  | p :: l, h => by
    unfold wh
    rw [if_neg (h p (List.mem_cons_self ..))]
    exact wh_none (fun q hq => h q (List.mem_cons_of_mem _ hq))
theorem setI_new {k v : Int} : ∀ {l : List (Int × Int)}, lk k l = none → setI k v l = l ++ [(k, v)]
  | [], _ => rfl
  | p :: l, h => by
    unfold lk at h
    unfold setI
    by_cases e : k = p.1
    · rw [if_pos e] at h; cases h
    · rw [if_neg e] at h ⊢
      rw [setI_new h]; rfl
theorem lk_some {k v : Int} : ∀ {l : List (Int × Int)}, (k, v) ∈ l → (lk k l).isSome = true
  | [], h => by cases h
  | p :: l, h => by
    unfold lk
    by_cases e : k = p.1
    · rw [if_pos e]; rfl
    · rw [if_neg e]
      rcases List.mem_cons.1 h with h | h
      · exact absurd (by rw [← h]) e
      · exact lk_some h
theorem dropI_sub {k : Int} : ∀ {l : List (Int × Int)} {p : Int × Int}, p ∈ dropI k l → p ∈ l
  | [], p, h => h
  | q :: l, p, h => by
    unfold dropI at h
    split at h
    · exact List.mem_cons_of_mem _ h
    · rcases List.mem_cons.1 h with h | h
      · rw [h]; exact List.mem_cons_self ..
      · exact List.mem_cons_of_mem _ (dropI_sub h)
theorem dropI_length {k : Int} : ∀ {l : List (Int × Int)}, (lk k l).isSome = true → (dropI k l).length + 1 = l.length
  | [], h => by cases h
  | p :: l, h => by
    unfold lk at h
    unfold dropI
    by_cases e : k = p.1
    · rw [if_pos e]; rfl
    · rw [if_neg e] at h ⊢
      have := dropI_length h
      simp only [List.length_cons]; omega

/-- The peers behind so many. -/
def fuL (f : Int) (k : Nat) : List (Int × Int) := (List.range k).map fun (j : Nat) => (f + (j : Int), 10 + (j : Int))
def fuD (f : Int) (k : Nat) : Dv := ⟨1, 1, 1, fuL f k, []⟩
theorem fuL_len (f : Int) (k : Nat) : (fuL f k).length = k := by simp [fuL]
theorem fuL_mem {f : Int} {k : Nat} {p : Int × Int} (h : p ∈ fuL f k) : ∃ j : Nat, j < k ∧ p = (f + (j : Int), 10 + (j : Int)) := by
  simp only [fuL, List.mem_map, List.mem_range] at h
  obtain ⟨j, hj, rfl⟩ := h
  exact ⟨j, hj, rfl⟩
theorem fuL_next (f : Int) (k : Nat) : fuL f k ++ [(f + (k : Int), 10 + (k : Int))] = fuL f (k + 1) := by simp [fuL, List.range_succ]
theorem named_ok {id : Int} (h0 : 0 ≤ id) (h1 : id < 1000) : namedP id = true := by simp [namedP, h0, h1]
theorem fu_add {f : Int} {k : Nat} (h0 : 0 ≤ f) (h1 : f ≤ 900) (hk : k < 8) : addD (fuD f k) (f + (k : Int)) (10 + (k : Int)) = (fuL f (k + 1), 0) := by
  have hl : lk (f + (k : Int)) (fuL f k) = none := lk_none (fun p hp => by obtain ⟨j, hj, rfl⟩ := fuL_mem hp; simp only; omega)
  have hw : wh (10 + (k : Int)) (fuL f k) = none := wh_none (fun p hp => by obtain ⟨j, hj, rfl⟩ := fuL_mem hp; simp only; omega)
  simp only [addD, fuD, hl, hw, named_ok (show 0 ≤ f + (k : Int) by omega) (by omega), fuL_len, setI_new hl, fuL_next]
  rw [if_neg (by simp; omega), if_neg (by simp), if_neg (by omega)]
theorem fu_full {f : Int} (h0 : 0 ≤ f) (h1 : f ≤ 900) : addD (fuD f 8) (f + 8) 18 = (fuL f 8, 3) := by
  have hl : lk (f + 8) (fuL f 8) = none := lk_none (fun p hp => by obtain ⟨j, hj, rfl⟩ := fuL_mem hp; simp only; omega)
  have hw : wh 18 (fuL f 8) = none := wh_none (fun p hp => by obtain ⟨j, hj, rfl⟩ := fuL_mem hp; simp only; omega)
  simp [addD, fuD, hl, hw, named_ok (show 0 ≤ f + 8 by omega) (by omega), fuL_len]
theorem fu_drop {f m : Int} (h0 : 0 ≤ m) (h7 : m ≤ 7) : dropD (fuD f 8) (f + m) = (dropI (f + m) (fuL f 8), [], 0) := by
  have hl : (lk (f + m) (fuL f 8)).isSome = true := lk_some (v := 10 + m) (by
    simp only [fuL, List.mem_map, List.mem_range]
    exact ⟨m.toNat, by omega, by rw [show ((m.toNat : Nat) : Int) = m by omega]⟩)
  simp [dropD, fuD, hl, lk]
theorem fu_len7 {f m : Int} (h0 : 0 ≤ m) (h7 : m ≤ 7) : (dropI (f + m) (fuL f 8)).length = 7 := by
  have hl : (lk (f + m) (fuL f 8)).isSome = true := lk_some (v := 10 + m) (by
    simp only [fuL, List.mem_map, List.mem_range]
    exact ⟨m.toNat, by omega, by rw [show ((m.toNat : Nat) : Int) = m by omega]⟩)
  have := dropI_length hl
  rw [fuL_len] at this; omega
theorem fu_again {f m : Int} (h0 : 0 ≤ f) (h1 : f ≤ 900) (hm0 : 0 ≤ m) (hm7 : m ≤ 7) : addD ⟨1, 1, 1, dropI (f + m) (fuL f 8), []⟩ (f + 8) 18 = (dropI (f + m) (fuL f 8) ++ [(f + 8, 18)], 0) := by
  have hl : lk (f + 8) (dropI (f + m) (fuL f 8)) = none := lk_none (fun p hp => by obtain ⟨j, hj, rfl⟩ := fuL_mem (dropI_sub hp); simp only; omega)
  have hw : wh 18 (dropI (f + m) (fuL f 8)) = none := wh_none (fun p hp => by obtain ⟨j, hj, rfl⟩ := fuL_mem (dropI_sub hp); simp only; omega)
  simp [addD, hl, hw, named_ok (show 0 ≤ f + 8 by omega) (by omega), fu_len7 hm0 hm7, setI_new hl]
end Go.Proofs.Ytlpcjngclgncmaa
