/- CodeApart answers true. -/
import Derived.Test.YtfelbecofbdeaaaDoorAwake02
import Derived.Test.YtfelbecofbdeaaaDoorTw
import Derived.Deep.CutBlock
import Derived.Deep.DeepCutAuto
import Derived.Laws.EntriesVeiled
namespace Go.Proofs.YtfelbecofbdeaaaDoor
open Go.RowKit

theorem strO_beq (a b : List UInt8) : ((strO a).toList == (strO b).toList) = decide (a = b) := by rw [← beq_toListBytes, str_eq, strO_data]
set_option maxHeartbeats 3200000 in
set_option maxRecDepth 100000 in
theorem apart2_walk (Ax : Option Addr) (cx : Nat) (xs : List Nd) (x y : Int) (w : World) (hx : Holds w Ax (xs.flatMap Nd.cells)) (hmx : xs.length ≤ maxLen) (hu : ∀ x ∈ xs, x.u64) (he : Env w) :
    Calls Tryd.prog 5 #[.slice Ax xs.length cx, .int .i64 x, .int .i64 y] w fun e w' => e = .returned (.bool true) ∧ Below w.heap.size w w' := by
  have Hx := Lib.hid hx
  have Hu := Lib.hid hu
  have HE := Lib.hid he
  clear hx hu he
  have hmx2 : xs.length ≤ 9223372036854775807 := by unfold maxLen at hmx; omega
  by_cases hbad : 40 < xs.length
  · have d1 : decide (40 < xs.length) = true := decide_eq_true hbad
    have d2 : decide ((40 : Int) < (xs.length : Int)) = true := decide_eq_true (by omega)
    clear hbad
    go_enter Tryd.func5, Tryd.ntmps5
    go_wp2_with fail
    refine (awake _ HE.out).mono ?_
    rintro e w9 ⟨rfl, b9⟩
    go_wp2_with fail
    go_ret
    exact ⟨rfl, b9⟩
  · have d1 : decide (40 < xs.length) = false := decide_eq_false hbad
    have d2 : decide ((40 : Int) < (xs.length : Int)) = false := decide_eq_false (by omega)
    have hl : xs.length ≤ 40 := by omega
    clear hbad
    have hok := bA_ok 100 xs Hu.out
    have hlim : (bA 100 xs).limit = 100 := hok.2.2
    have Hap := Lib.hid (fun h1 h2 => text_apart hok.1 (by omega) (by omega) (x := x) (y := y) h1 h2)
    clear hok hlim
    go_enter Tryd.func5, Tryd.ntmps5
    go_wp2_with fail
    refine (built_calls w 100 Ax cx xs Hx.out (by omega) Hu.out).mono ?_
    rintro e w1 ⟨r, g, cap, rfl, o1⟩
    have O1 : Hid (Own w w1 [arena r (bA 100 xs)]) := Lib.hid o1.tail
    clear o1
    generalize bA 100 xs = A at *
    simp only [refV]
    go_wp2_with fail
    refine (rHas_calls A g cap x _).mono ?_
    rintro e w2 ⟨rfl, b2⟩
    have O2 : Hid (Own w w2 [blk w1.heap.size (refObj A g cap), arena r A]) := Lib.hid ((O1.out.alloc (refObj A g cap)).call b2)
    have c0 := cell_of_heap (o := 0) (O2.out.blk (i := 0) rfl)
    have c1 := cell_of_heap (o := 1) (O2.out.blk (i := 0) rfl)
    simp only [List.getElem?_toArray, List.getElem?_cons_zero, List.getElem?_cons_succ] at c0 c1
    clear O1 b2
    generalize w1.heap.size = B at *
    cases h1 : has A.l x with
    | false =>
      go_wp2_with fail
      refine (awake _ (HE.out.below O2.out.below)).mono ?_
      rintro e w9 ⟨rfl, b9⟩
      go_wp2_with fail
      go_ret
      exact ⟨rfl, (O2.out.call b9).below⟩
    | true =>
      go_wp2_with fail
      refine (rHas_calls A g cap y _).mono ?_
      rintro e w3 ⟨rfl, b3⟩
      have O3 : Hid (Own w w3 [blk B (refObj A g cap), arena r A]) := Lib.hid (O2.out.call b3)
      clear c0 c1 O2 b3
      cases h2 : has A.l y with
      | false =>
        go_wp2_with fail
        refine (awake _ (HE.out.below O3.out.below)).mono ?_
        rintro e w9 ⟨rfl, b9⟩
        go_wp2_with fail
        go_ret
        exact ⟨rfl, (O3.out.call b9).below⟩
      | true =>
        have hiff := Hap.out h1 h2
        go_wp2_with fail
        refine (write_own O3.out HE.out 1 rfl x).mono ?_
        rintro e w4 ⟨rfl, o4⟩
        have O4 := Lib.hid o4
        clear o4
        go_wp2_with fail
        refine (write_own O4.out HE.out 1 rfl y).mono ?_
        rintro e w5 ⟨rfl, o5⟩
        have O5 := Lib.hid o5
        clear o5 O4 O3 Hap
        have hb := strO_beq (text A.l x) (text A.l y)
        generalize text A.l x = T1 at *
        generalize text A.l y = T2 at *
        have he2 : (decide (T1 = T2) == (x == y)) = true := by
          by_cases hxy : x = y
          · have h := hiff.2 hxy; simp [h, hxy]
          · have h : ¬ T1 = T2 := fun e => hxy (hiff.1 e)
            simp [h, hxy]
        rw [← hb] at he2
        clear hb hiff
        go_wp2_with fail
        refine (awake _ (HE.out.below O5.out.below)).mono ?_
        rintro e w9 ⟨rfl, b9⟩
        go_wp2_with fail
        go_ret
        exact ⟨rfl, (O5.out.call b9).below⟩
end Go.Proofs.YtfelbecofbdeaaaDoor
