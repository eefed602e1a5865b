/- Packed by packn.py: L12U. -/
import Derived.Test.YtikimmgileffgaaGreatDoorQk40
namespace Go.Proofs.YtikimmgileffgaaGreatDoor
open Go.RowKit

theorem turns_walk {w : World} {a0 a1 am uB : Option Addr} {c0 c1 cm ud : Nat} {p : Pat} {us : List Int} {lim ams chg rf pt : Int} (henv : EnvB w) (hp : PatIn w (Old w) (pvx a0 c0 a1 c1 am cm p) p) (hfit : PatFits p) (hU : Holds w uB (u64V us)) (hus : ∀ u ∈ us, U64 u) :
    Calls Tryz.prog 6 #[.agg #[.string (strO p.name), .slice a0 p.pre0.length c0, .slice a1 p.pre1.length c1, .slice am p.msgs.length cm, .slice uB us.length ud, .int .i64 lim, .int .u8 ams, .int .u8 chg], .int .i64 rf, .int .i64 pt] w (fun e' w' => e' = .returned (.bool true) ∧ Below w.heap.size w w') := by
  by_cases hyes : fewP p = true ∧ us.length ≤ 10
  · have hu : ∀ u ∈ us, 0 ≤ u := fun u hu => (hus u hu).1
    obtain ⟨At, rs0, re0, K, rs1, re1, ht⟩ := twoK hu hyes.2
    obtain ⟨-, -, hkl, -⟩ := two_facts hu hyes.2 ht
    rcases Bool.eq_false_or_eq_true (((strO p.name) : ByteArray).toList == (⟨#[]⟩ : ByteArray).toList) with hname | hname
    · exact turns_anon henv hp hfit hU hus hyes.1 hyes.2 ht hname
    · by_cases hw : whyC p ⟨1, 2, rs0, re0, K⟩ = 0
      · exact turns_all henv hp hfit hU hus hyes.1 hyes.2 ht hname hw
      · obtain ⟨s0, s1⟩ := why_no (pro := 0) hu hyes.2 ht (by decide) ⟨rfl, fun y hy => .inr hy⟩ hw
        exact turns_why henv hp hfit hU hus hyes.1 hyes.2 ht hname (by have := hyes.2; omega) hw s0 s1
  · exact turns_none henv hp hfit hU hus hyes
end Go.Proofs.YtikimmgileffgaaGreatDoor
