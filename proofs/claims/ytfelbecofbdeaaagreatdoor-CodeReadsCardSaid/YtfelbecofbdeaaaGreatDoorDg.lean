/- Numerals read back; a row of a text cut at its spaces, a text cut at its ends. No program in sight. -/
import Derived.Test.YtfelbecofbdeaaaGreatDoorRd
import Derived.Test.YtfelbecofbdeaaaGreatDoorCWrite
import Derived.Lib.AtoiAllCases
import Derived.Lib.ParseIntBCases
namespace Go.Proofs.YtfelbecofbdeaaaGreatDoor
open Go.RowKit

theorem digit_val {d : Nat} (h : d < 10) : (UInt8.ofNat (48 + d)).toNat = 48 + d := by
  rw [UInt8.toNat_ofNat']; omega
theorem digs_byte : ∀ (u : Nat) (b : UInt8), b ∈ digs u → 48 ≤ b.toNat ∧ b.toNat ≤ 57 := by
  intro u
  induction u using Nat.strongRecOn with
  | _ u ih =>
    intro b hb
    unfold digs at hb ih
    rw [Lib.decDigits] at hb
    split at hb
    · rw [List.mem_singleton.1 hb, digit_val (by omega)]; omega
    · rcases List.mem_append.1 hb with h | h
      · exact ih (u / 10) (by omega) b h
      · rw [List.mem_singleton.1 h, digit_val (by omega)]; omega
theorem digs_ne (u : Nat) : digs u ≠ [] := fun h => by
  have := congrArg List.length h
  unfold digs at this
  rw [Lib.decDigits_length] at this
  have := Lib.nDigits_pos u
  simp at *; omega
theorem parse_digs : ∀ (u : Nat) (r : List UInt8), u < 18446744073709551616 → Lib.parseUint10 0 (digs u ++ r) = Lib.parseUint10 u r := by
  intro u
  induction u using Nat.strongRecOn with
  | _ u ih =>
    intro r h
    unfold digs at ih ⊢
    rw [Lib.decDigits]
    by_cases h10 : u < 10
    · rw [dif_pos h10]
      simp only [List.cons_append, List.nil_append]
      rw [Lib.parseUint10, digit_val h10, if_pos (by omega), if_neg (by omega), if_neg (by omega)]
      congr 1; omega
    · rw [dif_neg h10, List.append_assoc, ih (u / 10) (by omega) _ (by omega)]
      simp only [List.cons_append, List.nil_append]
      rw [Lib.parseUint10, digit_val (by omega), if_pos (by omega), if_neg (by omega), if_neg (by omega)]
      congr 1; omega
theorem mag_digs {u : Nat} (h : u < 18446744073709551616) : Lib.parseMag (digs u) = .ok u := by
  unfold Lib.parseMag
  rw [if_neg (digs_ne u)]
  have := parse_digs u [] h
  rw [List.append_nil] at this
  rw [this]; rfl
theorem strO_data (l : List UInt8) : (strO l).data.toList = l := by simp [strO]
theorem numU_digs {u : Nat} (h : u < 18446744073709551616) : numU (strO (digs u)) = some u := by
  unfold numU
  rw [strO_data, Lib.parseUintB_64, mag_digs h]
theorem numI_digs {u : Nat} (h : u < 9223372036854775808) : numI (strO (digs u)) = some (u : Int) := by
  unfold numI
  rw [strO_data]
  have hm := mag_digs (u := u) (by omega)
  have hb := digs_byte u
  cases hd : digs u with
  | nil => exact absurd hd (digs_ne u)
  | cons c r =>
    rw [hd] at hm hb
    have := hb c (by simp)
    have h1 : Lib.atoiAll (c :: r) = .ok (u : Int) := by
      simp only [Lib.atoiAll]
      rw [if_neg (by omega), hm]
      simp only
      rw [if_neg (by omega), if_neg (by omega), if_neg (by omega)]
    rw [h1]
theorem split_app (c : UInt8) : ∀ (a l : List UInt8), (∀ b ∈ a, b ≠ c) → splitL c (a ++ c :: l) = a :: splitL c l
  | [], l, _ => splitL_here c l
  | b :: a, l, h => splitL_other (h b (by simp)) (split_app c a l (fun x hx => h x (by simp [hx])))
theorem split_one (c : UInt8) : ∀ (a : List UInt8), (∀ b ∈ a, b ≠ c) → splitL c a = [a]
  | [], _ => rfl
  | b :: a, h => splitL_other (h b (by simp)) (split_one c a (fun x hx => h x (by simp [hx])))
/-- A row without its end. -/
def rowB (rows : List Int) (n : Nd) : List UInt8 := rowT1 n ++ (kids n).flatMap (partT rows)
theorem rowText_eq (rows : List Int) (n : Nd) : rowText rows n = rowB rows n ++ [59] := rfl
theorem digs_not {u : Nat} {b c : UInt8} (h : b ∈ digs u) (hc : c.toNat < 48 ∨ 57 < c.toNat) : b ≠ c := by
  have := digs_byte u b h
  rintro rfl; omega
theorem rowB_not (rows : List Int) (n : Nd) : ∀ b ∈ rowB rows n, b ≠ 59 := by
  intro b hb
  simp only [rowB, rowT1, partT, List.mem_append, List.mem_cons, List.mem_flatMap] at hb
  have h32 : b = 32 → b ≠ 59 := fun h => by subst h; decide
  rcases hb with (h | h | h) | ⟨p, _, h | h⟩
  · exact digs_not h (.inr (by decide))
  · exact h32 h
  · exact digs_not h (.inr (by decide))
  · exact h32 h
  · exact digs_not h (.inr (by decide))
theorem split_parts (rows : List Int) : ∀ (ks : List Int) (a : List UInt8), (∀ b ∈ a, b ≠ 32) → splitL 32 (a ++ ks.flatMap (partT rows)) = a :: ks.map fun p => digs (rows.idxOf p)
  | [], a, h => by simpa using split_one 32 a h
  | p :: ks, a, h => by
    rw [List.flatMap_cons]
    show splitL 32 (a ++ (32 :: digs (rows.idxOf p) ++ ks.flatMap (partT rows))) = _
    rw [List.cons_append, split_app 32 a _ h, split_parts rows ks _ (fun b hb => digs_not hb (.inl (by decide)))]
    rfl
theorem split_row (rows : List Int) (n : Nd) : splitL 32 (rowB rows n) = digs n.kind.toNat :: digs n.n.toNat :: (kids n).map fun p => digs (rows.idxOf p) := by
  unfold rowB rowT1
  rw [List.append_assoc, List.cons_append, split_app 32 _ _ (fun b hb => digs_not hb (.inl (by decide))), split_parts rows _ _ (fun b hb => digs_not hb (.inl (by decide)))]
theorem split_text (l : List Nd) (rows : List Int) : ∀ ys : List Int, splitL 59 (textR l rows ys) = (ys.map fun y => rowB rows (nd l y)) ++ [[]]
  | [] => rfl
  | y :: ys => by
    have := split_text l rows ys
    unfold textR at this ⊢
    rw [List.flatMap_cons, rowText_eq, List.append_assoc, List.cons_append, List.nil_append, split_app 59 _ _ (rowB_not rows _), this]
    rfl
theorem strO_toList (s : ByteArray) : strO s.data.toList = s := by obtain ⟨⟨l⟩⟩ := s; rfl
theorem splitS_eq (c : UInt8) (l : List UInt8) : splitS c (strO l) = (splitL c l).map strO := by
  have h := splitS_data c (strO l)
  rw [strO_data] at h
  rw [← h, List.map_map]
  conv => lhs; rw [← List.map_id (splitS c (strO l))]
  refine List.map_congr_left fun s _ => (strO_toList s).symm
end Go.Proofs.YtfelbecofbdeaaaGreatDoor
