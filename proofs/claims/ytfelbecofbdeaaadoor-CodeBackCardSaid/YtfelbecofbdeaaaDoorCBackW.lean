/- CodeBack answers true. -/
import Derived.Test.YtfelbecofbdeaaaDoorCApartW
namespace Go.Proofs.YtfelbecofbdeaaaDoor
open Go.RowKit

set_option maxHeartbeats 3200000 in
set_option maxRecDepth 100000 in
theorem back_walk (Ax : Option Addr) (cx : Nat) (xs : List Nd) (Ay : Option Addr) (cy : Nat) (ys : List Nd) (x : Int) (w : World) (hx : Holds w Ax (xs.flatMap Nd.cells)) (hmx : xs.length ≤ maxLen) (hu : ∀ x ∈ xs, x.u64)
    (hy : Holds w Ay (ys.flatMap Nd.cells)) (hmy : ys.length ≤ maxLen) (huy : ∀ x ∈ ys, x.u64) (he : Env w) :
    Calls Tryd.prog 4 #[.slice Ax xs.length cx, .slice Ay ys.length cy, .int .i64 x] w fun e w' => e = .returned (.bool true) ∧ Below w.heap.size w w' := by
  have Hx := Lib.hid hx
  have Hu := Lib.hid hu
  have Hy := Lib.hid hy
  have Huy := Lib.hid huy
  have HE := Lib.hid he
  clear hx hu he hy huy
  have hmx2 : xs.length ≤ 9223372036854775807 := by unfold maxLen at hmx; omega
  have hmy2 : ys.length ≤ 9223372036854775807 := by unfold maxLen at hmy; omega
  by_cases hbad : 40 < xs.length ∨ 40 < ys.length
  · have hd : (decide (40 < xs.length) = true ∧ decide ((40 : Int) < (xs.length : Int)) = true) ∨ ((decide (40 < xs.length) = false ∧ decide ((40 : Int) < (xs.length : Int)) = false) ∧ decide (40 < ys.length) = true ∧ decide ((40 : Int) < (ys.length : Int)) = true) := by
      by_cases h1 : 40 < xs.length
      · exact .inl ⟨decide_eq_true h1, decide_eq_true (by omega)⟩
      · exact .inr ⟨⟨decide_eq_false h1, decide_eq_false (by omega)⟩, decide_eq_true (by omega), decide_eq_true (by omega)⟩
    clear hbad
    rcases hd with ⟨d1, d2⟩ | ⟨⟨d1, d2⟩, d3, d4⟩
    all_goals
      go_enter Tryd.func4, Tryd.ntmps4
      go_wp2_with fail
      refine (awake _ HE.out).mono ?_
      rintro e w9 ⟨rfl, b9⟩
      go_wp2_with fail
      go_ret
      exact ⟨rfl, b9⟩
  · have d1 : decide (40 < xs.length) = false := decide_eq_false (by omega)
    have d2 : decide ((40 : Int) < (xs.length : Int)) = false := decide_eq_false (by omega)
    have d3 : decide (40 < ys.length) = false := decide_eq_false (by omega)
    have d4 : decide ((40 : Int) < (ys.length : Int)) = false := decide_eq_false (by omega)
    have hl : xs.length ≤ 40 := by omega
    have hly : ys.length ≤ 40 := by omega
    clear hbad
    have hok := bA_ok 100 xs Hu.out
    have hoky := bA_ok 1000 ys Huy.out
    have hlim : (bA 100 xs).limit = 100 := hok.2.2
    have hlimy : (bA 1000 ys).limit = 1000 := hoky.2.2
    have HO := Lib.hid (fun h1 => read_own hok.1 (by omega) (by omega) (x := x) h1)
    have HO2 := Lib.hid (fun h1 => read_other hok.1 (by omega) hoky.1 (by omega) (x := x) h1)
    have HN := Lib.hid (fun h => text_none hok.1.wf (x := x) h)
    have HL := Lib.hid (fun (h : has (bA 100 xs).l x = true) => by
      have hr := rows_refs hok.1.wf (Refs.nil (bA 100 xs).l) x
      have h1 := hr.length
      exact textR_len hok.1.wf (rows := rowsA (bA 100 xs).l [] x) (by omega) (rowsA (bA 100 xs).l [] x) hr.has)
    have HL2 := Lib.hid (show (strO (text (bA 100 xs).l x)).size ≤ maxLen by
      rw [size_str]
      unfold maxLen
      cases h : has (bA 100 xs).l x with
      | true =>
        have h1 := HL.out h
        have h2 := (rows_some hok.1.wf h).2
        unfold text; omega
      | false => rw [HN.out h]; decide)
    clear hok hlim hoky hlimy HL
    go_enter Tryd.func4, Tryd.ntmps4
    go_wp2_with fail
    refine (built_calls w 100 Ax cx xs Hx.out (by omega) Hu.out).mono ?_
    rintro e w1 ⟨r, g, cap, rfl, o1⟩
    have O1 : Hid (Own w w1 [arena r (bA 100 xs)]) := Lib.hid o1.tail
    clear o1
    generalize bA 100 xs = A at *
    simp only [refV]
    go_wp2_with fail
    have o2 := O1.out.alloc (refObj A g cap)
    have O2 := Lib.hid o2
    refine (built_calls _ 1000 Ay cy ys (Hy.out.below o2.below) (by omega) Huy.out).mono ?_
    rintro e w2 ⟨r2, g2, cap2, rfl, o3⟩
    obtain ⟨S2, hC, hS2⟩ := o3.at (i := 1) rfl
    have hC' : IsArena w2 r2 (bA 1000 ys) S2 := hC
    have O4 : Hid (Own w w2 [arena r2 (bA 1000 ys), blk w1.heap.size (refObj A g cap), arena r A]) := Lib.hid (o2.new o3.below (Q := arena r2 (bA 1000 ys)) hC' hS2)
    clear o3 hC hC' hS2 o2 O2 O1
    have c0 := cell_of_heap (o := 0) (O4.out.blk (i := 1) rfl)
    have c1 := cell_of_heap (o := 1) (O4.out.blk (i := 1) rfl)
    simp only [List.getElem?_toArray, List.getElem?_cons_zero, List.getElem?_cons_succ] at c0 c1
    generalize w1.heap.size = B at *
    generalize bA 1000 ys = C at *
    simp only [refV]
    go_wp2_with fail
    have O5 : Hid (Own w _ [blk w2.heap.size (refObj C g2 cap2), arena r2 C, blk B (refObj A g cap), arena r A]) := Lib.hid (O4.out.alloc (refObj C g2 cap2))
    refine (write_own O5.out HE.out 3 rfl x).mono ?_
    rintro e w3 ⟨rfl, o6⟩
    have O6 : Hid (Own w w3 [arena r2 C, blk B (refObj A g cap), arena r A]) := Lib.hid o6.tail
    clear c0 c1 o6 O5 O4
    go_wp2_with fail
    refine (read_calls O6.out HE.out _ HL2.out).mono ?_
    rintro e w4 ⟨rfl, o7⟩
    have O7 : Hid (Own w w4 [arena r A, arena r2 (readA C (strO (text A.l x))).1, blk B (refObj A g cap)]) := Lib.hid (o7.pick [2, 0, 1] rfl)
    clear o7 O6
    go_wp2_with fail
    refine (read_calls O7.out HE.out _ HL2.out).mono ?_
    rintro e w5 ⟨rfl, o8⟩
    have O8 := Lib.hid o8
    have c0 := cell_of_heap (o := 0) (o8.blk (i := 2) rfl)
    have c1 := cell_of_heap (o := 1) (o8.blk (i := 2) rfl)
    simp only [List.getElem?_toArray, List.getElem?_cons_zero, List.getElem?_cons_succ] at c0 c1
    clear o8 O7
    go_wp2_with fail
    refine (rHas_calls A g cap x _).mono ?_
    rintro e w6 ⟨rfl, b6⟩
    have O9 := Lib.hid (O8.out.call b6)
    clear c0 c1 O8 b6
    cases h1 : has A.l x with
    | false =>
      have ht := HN.out h1
      rw [ht, read_empty, read_empty] at *
      dsimp only at *
      go_wp2_with fail
      refine (awake _ (HE.out.below O9.out.below)).mono ?_
      rintro e w9 ⟨rfl, b9⟩
      go_wp2_with fail
      go_ret
      exact ⟨rfl, (O9.out.call b9).below⟩
    | true =>
      obtain ⟨A', hA'⟩ := HO.out h1
      obtain ⟨D, y, hD, hDt⟩ := HO2.out h1
      clear HO HO2 HN
      generalize text A.l x = T at *
      have HDt := Lib.hid hDt
      clear hDt
      generalize readA A (strO T) = R1 at *
      generalize readA C (strO T) = R2 at *
      subst hA' hD
      dsimp only at *
      go_wp2_with fail
      refine (write_own O9.out HE.out 1 rfl y).mono ?_
      rintro e w7 ⟨rfl, o10⟩
      rw [HDt.out]
      have O10 := Lib.hid o10
      clear o10
      have hb := strO_beq T T
      rw [decide_eq_true rfl] at hb
      go_wp2_with fail
      refine (awake _ (HE.out.below O10.out.below)).mono ?_
      rintro e w9 ⟨rfl, b9⟩
      go_wp2_with fail
      go_ret
      exact ⟨rfl, (O10.out.call b9).below⟩
end Go.Proofs.YtfelbecofbdeaaaDoor
