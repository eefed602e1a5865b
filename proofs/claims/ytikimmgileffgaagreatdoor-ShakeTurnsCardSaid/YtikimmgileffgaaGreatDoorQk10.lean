/- Packed by packn.py: VaM. -/
import Derived.Test.YtikimmgileffgaaGreatDoorQk08
import Derived.Test.YtikimmgileffgaaGreatDoorQk05
import Derived.Test.YtikimmgileffgaaGreatDoorQk09
namespace Go.Proofs.YtikimmgileffgaaGreatDoor
open Go.RowKit

def putV (f : Nat → Bool) (k : Nat) (v : Bool) : Nat → Bool := fun n => if n = k then v else f n
def pA (t : Nat) : Nat := if t = 5 ∨ t = 6 then 2 else 1
def pB (t : Nat) : Nat := if t = 4 ∨ t = 6 then 2 else 1
/-- The rule that a token breaks, and the state behind it. -/
def tokV (f : Nat → Bool) (who t : Nat) : Int × (Nat → Bool) :=
  if t ≤ 2 then
    if f (3 * who + t) then (2, f) else
    if t = 2 ∧ f 15 = true ∧ 0 < forbV f who then (forbV f who, f) else
    (0, putV (putV f (3 * who + t) true) 15 (f 15 || (decide (t = 1) && f 14)))
  else if t < 7 ∧ (f (pA t) = false ∨ f (3 + pB t) = false) then (3, f)
  else if t < 7 ∧ f (6 + t) = true then (4, f)
  else (0, putV (putV f (6 + t) true) 15 true)
/-- The rule that a message breaks. -/
def msgV (who : Nat) : List Int → (Nat → Bool) → Int × (Nat → Bool)
  | [], f => (if f 15 then forbV f who else 0, f)
  | t :: l, f =>
    let r := tokV f who t.toNat
    if 0 < r.1 then r else msgV who l r.2
def oneWay (p : Pat) : Bool := decide (p.msgs.length = 1)
def frm0 (p : Pat) : Int := match p.msgs with | [] => 0 | m :: _ => m.frm
def endV (p : Pat) (f : Nat → Bool) : Int :=
  if f 15 = false then 7 else
  if (oneWay p = false ∨ frm0 p = 0) ∧ 0 < forbV f 0 then forbV f 0 else
  if (oneWay p = false ∨ frm0 p = 1) ∧ 0 < forbV f 1 then forbV f 1 else 0
def modeP (p : Pat) : Bool := p.msgs.any fun m => decide ((7 : Int) ∈ m.t)
def beginV (p : Pat) : Nat → Bool := fun n =>
  if n = 1 then decide ((1 : Int) ∈ p.pre0) else if n = 2 then decide ((2 : Int) ∈ p.pre0) else if n = 4 then decide ((1 : Int) ∈ p.pre1) else if n = 5 then decide ((2 : Int) ∈ p.pre1)
  else if n = 14 then modeP p else if n = 15 then modeP p && (decide ((1 : Int) ∈ p.pre0) || decide ((1 : Int) ∈ p.pre1)) else false
/-- The rounds over the messages, from the k-th on; last: who sent the one ahead. -/
def roundsV : Nat → Int → List Msg → (Nat → Bool) → Int × Int × (Nat → Bool)
  | _, _, [], f => (0, 0, f)
  | k, last, m :: l, f =>
    if 0 < k ∧ last = m.frm then (1, k, f) else
    let r := msgV m.frm.toNat m.t f
    if 0 < r.1 then (r.1, k, r.2) else roundsV (k + 1) m.frm l r.2
/-- Check: the rule, the message, the error. -/
def checkV (p : Pat) : Int × Int × Int :=
  if rightP p = false then (0, 0, 1) else
  let r := roundsV 0 0 p.msgs (beginV p)
  if 0 < r.1 then (r.1, r.2.1, 13) else
  let e := endV p r.2.2
  if 0 < e then (e, p.msgs.length, 13) else (0, 0, 0)
theorem holdsI_at {w : World} {A : Option Addr} {ts : List Int} {k : Nat} {t : Int} (h : Holds w A (intsV ts)) (ht : ts[k]? = some t) :
    ∃ b q, A = some ⟨b, q, none⟩ ∧ ∀ w', Below w.heap.size w w' → w'.cell? ⟨b, q + k * 1, none⟩ = some (.int .i64 t) := by
  rcases h with h | ⟨b, q, hA, h⟩
  · have : ts = [] := by simpa [intsV] using h
    subst this; simp at ht
  · refine ⟨b, q, hA, fun w' hb => ?_⟩
    have h1 := h k (.int .i64 t) (by simp [intsV, ht])
    rw [Nat.mul_one]
    exact (hb.cell (World.block_lt_of_cell? w _ h1)).trans h1
end Go.Proofs.YtikimmgileffgaaGreatDoor
