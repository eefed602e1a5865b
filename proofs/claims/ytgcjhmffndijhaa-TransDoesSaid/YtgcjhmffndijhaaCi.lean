/- The ciphers of layer 10 as plain data. No program in sight. -/
import Derived.Test.YtgcjhmffndijhaaAr
namespace Go.Proofs.Ytgcjhmffndijhaa
open Go.RowKit

structure Ci where
  key : Int
  has : Bool
  n : Int
  deriving DecidableEq, Inhabited
def Ci.val (c : Ci) : Value := .agg #[.int .i64 c.key, .bool c.has, .int .u64 c.n]
def Ci.zero : Ci := ⟨0, false, 0⟩
def Ci.ok (c : Ci) : Prop := 0 ≤ c.n ∧ c.n ≤ 18446744073709551615

def mayC (l : List Nd) (c : Ci) (xs : List Int) : Int :=
  if (xs.all fun x => has l x) = false ∨ (c.has = true ∧ has l c.key = false) then 1 else if c.has = true ∧ c.n = 18446744073709551615 then 8 else 0
def laterC (c : Ci) : Ci := ⟨c.key, c.has, c.n + 1⟩
/-- Seal: the arena behind it, the cipher, the term, the error. -/
def sealC (A : Ar) (c : Ci) (ad p : Int) : Ar × Ci × Int × Int :=
  if mayC A.l c [ad, p] ≠ 0 then (A, Ci.zero, 0, mayC A.l c [ad, p]) else
  if c.has = false then (A, c, p, 0) else
  let m := mk A ⟨7, c.n, c.key, ad, p⟩
  if m.2.2 ≠ 0 then (m.1, Ci.zero, 0, m.2.2) else (m.1, laterC c, m.2.1, 0)
def openC (l : List Nd) (c : Ci) (ad x : Int) : Ci × Int × Int :=
  if mayC l c [ad, x] ≠ 0 then (Ci.zero, 0, mayC l c [ad, x]) else
  if c.has = false then (c, x, 0) else
  if getNd l x = ⟨7, c.n, c.key, ad, (getNd l x).c⟩ then (laterC c, (getNd l x).c, 0) else (Ci.zero, 0, 7)
def rekeyC (A : Ar) (c : Ci) : Ar × Ci × Int :=
  if c.has = false then (A, Ci.zero, 10) else
  let m := mk A ⟨6, 4, c.key, 0, 0⟩
  if m.2.2 ≠ 0 then (m.1, Ci.zero, m.2.2) else (m.1, ⟨m.2.1, c.has, c.n⟩, 0)
theorem mayC_two (l : List Nd) (c : Ci) (x y : Int) : mayC l c [x, y] = if (has l x && has l y) = false ∨ (c.has = true ∧ has l c.key = false) then 1 else if c.has = true ∧ c.n = 18446744073709551615 then 8 else 0 := by
  simp [mayC]
theorem mayC_zero {l : List Nd} {c : Ci} {x y : Int} (h : mayC l c [x, y] = 0) : has l x = true ∧ has l y = true ∧ (c.has = true → has l c.key = true ∧ c.n ≠ 18446744073709551615) := by
  rw [mayC_two] at h
  split at h
  · cases h
  · rename_i h1
    split at h
    · cases h
    · rename_i h2
      cases hx : has l x <;> cases hy : has l y <;> cases hc : c.has <;> cases hk : has l c.key <;> simp_all
theorem mk_code (A : Ar) (x : Nd) : (mk A x).2.2 = 0 ∨ (mk A x).1 = A := by
  unfold mk
  split
  · exact .inr rfl
  · split
    · exact .inr rfl
    · split
      · exact .inr rfl
      · exact .inl rfl
end Go.Proofs.Ytgcjhmffndijhaa
