/- CodeTwice answers true. -/
import Derived.Test.YtfelbecofbdeaaaDoorAwake02
import Derived.Test.YtfelbecofbdeaaaDoorCApartW
namespace Go.Proofs.YtfelbecofbdeaaaDoor
open Go.RowKit

set_option maxHeartbeats 3200000 in
set_option maxRecDepth 100000 in
theorem twice2_walk (s : ByteArray) (w : World) (hs : s.size ≤ maxLen) (he : Env w) :
    Calls Tryd.prog 7 #[.string s] w fun e w' => e = .returned (.bool true) ∧ Below w.heap.size w w' := by
  have HE := Lib.hid he
  have HS := Lib.hid hs
  clear he
  have hs2 : s.size ≤ 9223372036854775807 := by unfold maxLen at hs; omega
  by_cases hbad : 600 < s.size
  · have d1 : decide (600 < s.size) = true := decide_eq_true hbad
    have d2 : decide ((600 : Int) < (s.size : Int)) = true := decide_eq_true (by omega)
    clear hbad
    go_enter Tryd.func7, Tryd.ntmps7
    go_wp2_with fail
    refine (new_own (Own.start w) 1000).mono ?_
    rintro e w1 ⟨r, rfl, o1⟩
    go_wp2_with fail
    refine (awake _ (HE.out.below o1.below)).mono ?_
    rintro e w9 ⟨rfl, b9⟩
    go_wp2_with fail
    go_ret
    exact ⟨rfl, (o1.call b9).below⟩
  · have d1 : decide (600 < s.size) = false := decide_eq_false hbad
    have d2 : decide ((600 : Int) < (s.size : Int)) = false := decide_eq_false (by omega)
    clear hbad
    have H2 := Lib.hid (read_twice (arOk_new 1000) s)
    go_enter Tryd.func7, Tryd.ntmps7
    go_wp2_with fail
    refine (new_own (Own.start w) 1000).mono ?_
    rintro e w1 ⟨r, rfl, o1⟩
    have O1 := Lib.hid o1
    clear o1
    go_wp2_with fail
    refine (read_calls O1.out HE.out s HS.out).mono ?_
    rintro e w2 ⟨rfl, o2⟩
    generalize readA (newAr 1000) s = R at *
    obtain ⟨A, x, er⟩ := R
    dsimp only at *
    have O2 := Lib.hid o2
    clear o2 O1
    go_wp2_with fail
    obtain ⟨S, hr⟩ := O2.out.arena (i := 0) rfl
    refine (len_calls hr).mono ?_
    rintro e w3 ⟨rfl, rfl⟩
    clear hr
    go_wp2_with fail
    refine (read_calls O2.out HE.out s HS.out).mono ?_
    rintro e w4 ⟨rfl, o4⟩
    rw [H2.out.1] at o4 ⊢
    dsimp only at *
    have O4 := Lib.hid o4
    clear o4
    go_wp2_with fail
    obtain ⟨S, hr⟩ := O4.out.arena (i := 0) rfl
    refine (len_calls hr).mono ?_
    rintro e w5 ⟨rfl, rfl⟩
    clear hr
    by_cases h0 : er = 0
    · have ht := H2.out.2 h0
      subst h0
      go_wp2_with fail
      refine (write_own O4.out HE.out 0 rfl x).mono ?_
      rintro e w6 ⟨rfl, o6⟩
      rw [ht]
      have O6 := Lib.hid o6
      clear o6 ht
      have hb : (s.toList == s.toList) = true := by simp
      go_wp2_with fail
      refine (awake _ (HE.out.below O6.out.below)).mono ?_
      rintro e w9 ⟨rfl, b9⟩
      go_wp2_with fail
      go_ret
      exact ⟨rfl, (O6.out.call b9).below⟩
    · have hne : (er != 0) = true := by rw [bne_iff_ne]; exact h0
      clear h0
      go_wp2_with fail
      refine (awake _ (HE.out.below O4.out.below)).mono ?_
      rintro e w9 ⟨rfl, b9⟩
      go_wp2_with fail
      go_ret
      exact ⟨rfl, (O4.out.call b9).below⟩
end Go.Proofs.YtfelbecofbdeaaaDoor
