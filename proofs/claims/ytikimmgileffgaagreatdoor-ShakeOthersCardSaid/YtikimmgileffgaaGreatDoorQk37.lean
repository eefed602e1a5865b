/- Packed by packn.py: L12K. -/
import Derived.Test.YtikimmgileffgaaGreatDoorQk36
namespace Go.Proofs.YtikimmgileffgaaGreatDoor
open Go.RowKit

theorem others_walk {w : World} {a0 a1 am uB : Option Addr} {c0 c1 cm ud : Nat} {p : Pat} {us : List Int} {lim ams chg : Int} {pb : Bool} (henv : EnvB w) (hp : PatIn w (Old w) (pvx a0 c0 a1 c1 am cm p) p) (hfit : PatFits p) (hU : Holds w uB (u64V us)) (hus : ∀ u ∈ us, U64 u) :
    Calls Tryz.prog 4 #[.agg #[.string (strO p.name), .slice a0 p.pre0.length c0, .slice a1 p.pre1.length c1, .slice am p.msgs.length cm, .slice uB us.length ud, .int .i64 lim, .int .u8 ams, .int .u8 chg], .bool pb] w (fun e' w' => e' = .returned (.bool true) ∧ Below w.heap.size w w') := by
  by_cases hyes : fewP p = true ∧ us.length ≤ 10
  · have hu : ∀ u ∈ us, 0 ≤ u := fun u hu => (hus u hu).1
    obtain ⟨At, rs0, re0, K, rs1, re1, ht⟩ := twoK hu hyes.2
    obtain ⟨-, -, hkl, -⟩ := two_facts hu hyes.2 ht
    rcases Bool.eq_false_or_eq_true (((strO p.name) : ByteArray).toList == (⟨#[]⟩ : ByteArray).toList) with hname | hname
    · exact others_anon henv hp hfit hU hus hyes.1 hyes.2 ht hname
    · cases pb with
      | true =>
        by_cases hw : whyC p ⟨1, 2, rs0, re0, K⟩ = 0
        · exact others_pro_all henv hp hfit hU hus hyes.1 hyes.2 ht hname hw
        · obtain ⟨s0, s1⟩ := why_no (pro := 14) hu hyes.2 ht (by decide) ⟨rfl, fun y hy => .inr hy⟩ hw
          exact others_pro_why henv hp hfit hU hus hyes.1 hyes.2 ht hname (by have := hyes.2; omega) hw s0 s1
      | false =>
        cases K with
        | nil => exact others_short henv hp hfit hU hus hyes.1 hyes.2 ht hname (by have : us.length = 0 := hkl.symm; omega)
        | cons x K' =>
          have hus0 : ¬ (us.length : Int) = 0 := by rw [← hkl]; simp only [List.length_cons]; omega
          by_cases hw : whyC p ⟨1, 2, rs0, re0, x :: K'⟩ = 0
          · exact others_psk_all henv hp hfit hU hus hyes.1 hyes.2 ht hname hw hus0
          · obtain ⟨s0, s1⟩ := why_no (K' := 14 :: K') (pro := 0) hu hyes.2 ht (by decide) ⟨rfl, fun y hy => by
              rcases List.mem_cons.1 hy with rfl | hy
              · exact .inl rfl
              · exact .inr (List.mem_cons_of_mem _ hy)⟩ hw
            exact others_psk_why henv hp hfit hU hus hyes.1 hyes.2 ht hname (by have := hyes.2; omega) hw s0 s1 hus0
  · exact others_none henv hp hfit hU hus hyes
end Go.Proofs.YtikimmgileffgaaGreatDoor
