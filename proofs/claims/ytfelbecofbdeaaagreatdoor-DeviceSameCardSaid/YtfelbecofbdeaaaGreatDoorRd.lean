/- Reading a text, as plain data. No program in sight. -/
import Derived.Test.YtfelbecofbdeaaaGreatDoorCNum
import Derived.Test.YtfelbecofbdeaaaGreatDoorTxt
namespace Go.Proofs.YtfelbecofbdeaaaGreatDoor
open Go.RowKit

/-- A part of a row: which of those so far. -/
def ixP (had : List Int) (s : ByteArray) : Option Int := (numI s).bind fun x => if 0 ≤ x ∧ x < had.length then had[x.toNat]? else none
def partsP (had : List Int) : List ByteArray → Option (List Int)
  | [] => some []
  | s :: ws => (ixP had s).bind fun p => (partsP had ws).map fun ps => p :: ps
def ndP (kind : Int) (n : Nat) (ps : List Int) : Nd := ⟨kind, n, ps.getD 0 0, ps.getD 1 0, ps.getD 2 0⟩
/-- A row of a text. -/
def rowP (had : List Int) (ws : List ByteArray) : Option Nd :=
  (numI (ws.getD 0 ⟨#[]⟩)).bind fun kind => if 0 ≤ kind ∧ kind < 10 ∧ ws.length = 2 + many kind then
    (numU (ws.getD 1 ⟨#[]⟩)).bind fun n => (partsP had (ws.drop 2)).map (ndP kind n) else none
/-- Rows made one behind the other. -/
def buildF : List ByteArray → Ar → List Int → Ar × Int × Int
  | [], A, had => (A, had.getLastD 0, 0)
  | s :: ss, A, had => match rowP had (splitS 32 s) with
    | none => (A, 0, 2)
    | some n => if (mk A n).2.2 = 1 then ((mk A n).1, 0, 2) else if (mk A n).2.2 ≠ 0 then ((mk A n).1, 0, (mk A n).2.2) else buildF ss (mk A n).1 (had ++ [(mk A n).2.1])
def buildA (A : Ar) (s : ByteArray) : Ar × Int × Int :=
  if (splitS 59 s).length < 2 ∨ (splitS 59 s).getLastD ⟨#[]⟩ ≠ ⟨#[]⟩ then (A, 0, 2) else buildF (splitS 59 s).dropLast A []
def readA (A : Ar) (s : ByteArray) : Ar × Int × Int :=
  if 16384 < s.size then (A, 0, 2) else
  let own := buildA (newAr 65536) s
  if own.2.2 ≠ 0 ∨ text own.1.l own.2.1 ≠ s.data.toList then (A, 0, 2) else
  let cp := buildA A s
  if cp.2.2 ≠ 0 then (A, 0, cp.2.2) else buildA A s
theorem partsP_length (had : List Int) : ∀ (ws : List ByteArray) (ps : List Int), partsP had ws = some ps → ps.length = ws.length
  | [], ps, h => by simp [partsP] at h; simp [← h]
  | s :: ws, ps, h => by
    unfold partsP at h
    rw [Option.bind_eq_some_iff] at h
    obtain ⟨p, _, h⟩ := h
    rw [Option.map_eq_some_iff] at h
    obtain ⟨qs, hq, rfl⟩ := h
    have := partsP_length had ws qs hq
    simp [this]
theorem partsP_snoc (had : List Int) (s : ByteArray) : ∀ (ws : List ByteArray) (ps : List Int), partsP had ws = some ps → partsP had (ws ++ [s]) = (ixP had s).map fun p => ps ++ [p]
  | [], ps, h => by
    simp [partsP] at h; subst h
    simp only [List.nil_append, partsP]
    cases ixP had s <;> rfl
  | t :: ws, ps, h => by
    unfold partsP at h
    rw [Option.bind_eq_some_iff] at h
    obtain ⟨p, hp, h⟩ := h
    rw [Option.map_eq_some_iff] at h
    obtain ⟨qs, hq, rfl⟩ := h
    rw [List.cons_append, partsP, hp, partsP_snoc had s ws qs hq]
    cases ixP had s <;> rfl
theorem partsP_none (had : List Int) : ∀ (ws us : List ByteArray), partsP had ws = none → partsP had (ws ++ us) = none
  | [], us, h => by simp [partsP] at h
  | t :: ws, us, h => by
    rw [List.cons_append, partsP]
    unfold partsP at h
    cases hp : ixP had t with
    | none => rfl
    | some p =>
      rw [hp] at h
      cases hq : partsP had ws with
      | none => rw [partsP_none had ws us hq]; rfl
      | some qs => rw [hq] at h; cases h
theorem parseUintM_le (M : Nat) : ∀ (l : List UInt8) (acc u : Nat), acc ≤ M → Lib.parseUintM M acc l = .ok u → u ≤ M
  | [], acc, u, h, e => by simp [Lib.parseUintM] at e; omega
  | c :: r, acc, u, h, e => by
    unfold Lib.parseUintM at e
    split at e
    · split at e
      · cases e
      · split at e
        · cases e
        · exact parseUintM_le M r _ u (by omega) e
    · cases e
theorem numU_lt {s : ByteArray} {u : Nat} (h : numU s = some u) : u < 18446744073709551616 := by
  unfold numU at h
  cases hp : Lib.parseUintB 64 s.data.toList with
  | ok v =>
    rw [hp] at h; cases h
    unfold Lib.parseUintB at hp
    split at hp
    · cases hp
    · have := parseUintM_le _ _ _ _ (by omega) hp
      omega
  | range => rw [hp] at h; cases h
  | _ => rw [hp] at h; cases h
theorem rowP_u64 {had : List Int} {ws : List ByteArray} {n : Nd} (h : rowP had ws = some n) : 0 ≤ n.n ∧ n.n ≤ 18446744073709551615 := by
  unfold rowP at h
  rw [Option.bind_eq_some_iff] at h
  obtain ⟨kind, _, h⟩ := h
  split at h
  · rw [Option.bind_eq_some_iff] at h
    obtain ⟨u, hu, h⟩ := h
    rw [Option.map_eq_some_iff] at h
    obtain ⟨ps, _, rfl⟩ := h
    have := numU_lt hu
    show 0 ≤ (u : Int) ∧ (u : Int) ≤ _
    omega
  · cases h
end Go.Proofs.YtfelbecofbdeaaaGreatDoor
