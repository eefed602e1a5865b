/- A text cut at each instance of one byte, as a plain list; the library's Split comes to it. No program in sight. -/
import Derived.Test.YtfelbecofbdeaaaGreatDoorLib
import Derived.Lib.Split
import Derived.Lib.AtoiAll
import Derived.Lib.ParseIntB
namespace Go.Proofs.YtfelbecofbdeaaaGreatDoor
open Go.RowKit

def splitL (c : UInt8) : List UInt8 → List (List UInt8)
  | [] => [[]]
  | b :: l => if b = c then [] :: splitL c l else match splitL c l with
    | [] => [[b]]
    | h :: t => (b :: h) :: t
theorem splitL_ne (c : UInt8) : ∀ l, splitL c l ≠ []
  | [] => by simp [splitL]
  | b :: l => by
    unfold splitL; split
    · simp
    · split <;> simp
theorem splitL_other {b c : UInt8} {l y : List UInt8} {t : List (List UInt8)} (h : b ≠ c) (hs : splitL c l = y :: t) : splitL c (b :: l) = (b :: y) :: t := by
  rw [splitL, if_neg h, hs]
theorem splitL_here (c : UInt8) (l : List UInt8) : splitL c (c :: l) = [] :: splitL c l := by rw [splitL, if_pos rfl]
theorem index_hit (c : UInt8) (l : List UInt8) : Lib.index (c :: l) [c] = 0 := by simp [Lib.index, List.isPrefixOf]
theorem index_other {b c : UInt8} (h : b ≠ c) (l : List UInt8) : Lib.index (b :: l) [c] = if Lib.index l [c] = -1 then -1 else Lib.index l [c] + 1 := by
  rw [Lib.index]
  have : [c].isPrefixOf (b :: l) = false := by simp [List.isPrefixOf]; exact Ne.symm h
  simp [this]
theorem split_eq (c : UInt8) : ∀ l : List UInt8, Lib.split l [c] = splitL c l
  | [] => by simp [Lib.split, splitL, Lib.count, Lib.countFrom, Lib.splitK, Lib.index]
  | b :: l => by
    have ih := split_eq c l
    by_cases h : b = c
    · subst h
      have h0 := index_hit b l
      unfold splitL
      rw [if_pos rfl, ← ih]
      unfold Lib.split
      rw [Lib.count_hit (i := 0) (by simp) (by rw [h0]; rfl)]
      show Lib.splitK [b] 0 (1 + Lib.count l [b]) (b :: l) = _
      rw [Nat.add_comm, Lib.splitK, h0]
      simp
    · have h1 := index_other h l
      unfold splitL
      rw [if_neg h, ← ih]
      rcases Lib.index_spec l [c] with ⟨hm, _⟩ | ⟨i, hi, _⟩
      · rw [if_pos hm] at h1
        unfold Lib.split
        rw [Lib.count_miss h1, Lib.count_miss hm]
        simp [Lib.splitK]
      · rw [if_neg (by omega), hi] at h1
        have h2 : Lib.index (b :: l) [c] = ((i + 1 : Nat) : Int) := by rw [h1]; rfl
        unfold Lib.split
        rw [Lib.count_hit (by simp) h2, Lib.count_hit (by simp) hi, Nat.add_comm 1, Nat.add_comm 1, Lib.splitK, Lib.splitK, h2, hi]
        have e1 : ¬ (((i + 1 : Nat) : Int) == -1) = true := by rw [beq_iff_eq]; omega
        have e2 : ¬ ((i : Int) == -1) = true := by rw [beq_iff_eq]; omega
        rw [if_neg e1, if_neg e2]
        simp
/-- What strings.Split tells, at a byte. -/
def splitS (c : UInt8) (s : ByteArray) : List ByteArray := Lib.splitB ⟨#[c]⟩ 0 (Lib.countB s ⟨#[c]⟩) s
theorem splitS_data (c : UInt8) (s : ByteArray) : (splitS c s).map (·.data.toList) = splitL c s.data.toList := by
  unfold splitS
  rw [Lib.splitB_data, ← split_eq]; rfl
theorem splitL_length (c : UInt8) : ∀ l : List UInt8, (splitL c l).length ≤ l.length + 1
  | [] => by simp [splitL]
  | b :: l => by
    have := splitL_length c l
    unfold splitL; split
    · simp; omega
    · split
      · simp
      · rename_i h t e; rw [e] at this; simp at this ⊢; omega
theorem count_splitL (c : UInt8) : ∀ l : List UInt8, Lib.count l [c] + 1 = (splitL c l).length
  | [] => by simp [splitL, Lib.count, Lib.countFrom, Lib.index]
  | b :: l => by
    have ih := count_splitL c l
    by_cases h : b = c
    · subst h
      rw [Lib.count_hit (i := 0) (by simp) (by rw [index_hit]; rfl)]
      unfold splitL
      rw [if_pos rfl]
      show 1 + Lib.count l [b] + 1 = (splitL b l).length + 1
      omega
    · have h1 := index_other h l
      have hc : Lib.count (b :: l) [c] = Lib.count l [c] := by
        rcases Lib.index_spec l [c] with ⟨hm, _⟩ | ⟨i, hi, _⟩
        · rw [if_pos hm] at h1
          rw [Lib.count_miss h1, Lib.count_miss hm]
        · rw [if_neg (by omega), hi] at h1
          have h2 : Lib.index (b :: l) [c] = ((i + 1 : Nat) : Int) := by rw [h1]; rfl
          rw [Lib.count_hit (by simp) h2, Lib.count_hit (by simp) hi]
          simp
      rw [hc, ih]
      cases hs : splitL c l with
      | nil => exact absurd hs (splitL_ne c l)
      | cons y t => rw [splitL_other h hs]; rfl
theorem splitS_length (c : UInt8) (s : ByteArray) : (splitS c s).length = Lib.countB s ⟨#[c]⟩ + 1 := by
  have h1 := congrArg List.length (splitS_data c s)
  rw [List.length_map] at h1
  rw [h1, ← count_splitL]
theorem splitS_pos (c : UInt8) (s : ByteArray) : 1 ≤ (splitS c s).length := by rw [splitS_length]; omega
theorem splitL_mem_length (c : UInt8) : ∀ (l : List UInt8), ∀ x ∈ splitL c l, x.length ≤ l.length
  | [], x, h => by simp [splitL] at h; simp [h]
  | b :: l, x, h => by
    have ih := splitL_mem_length c l
    unfold splitL at h
    split at h
    · rcases List.mem_cons.1 h with rfl | h
      · simp
      · have := ih x h; simp; omega
    · split at h
      · simp at h; simp [h]
      · rename_i y t e
        rcases List.mem_cons.1 h with rfl | h
        · have := ih y (by rw [e]; simp); simp; omega
        · have := ih x (by rw [e]; simp [h]); simp; omega
theorem splitS_mem_size {c : UInt8} {s x : ByteArray} (h : x ∈ splitS c s) : x.size ≤ s.size := by
  have : x.data.toList ∈ splitL c s.data.toList := by rw [← splitS_data]; exact List.mem_map.2 ⟨x, h, rfl⟩
  have h2 := splitL_mem_length c _ _ this
  rwa [Array.length_toList, Array.length_toList] at h2
end Go.Proofs.YtfelbecofbdeaaaGreatDoor
