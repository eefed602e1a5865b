/- CodeWrites answers true. -/
import Derived.Test.YtfelbecofbdeaaaDoorR2c
namespace Go.Proofs.YtfelbecofbdeaaaDoor
open Go.RowKit

set_option maxHeartbeats 3200000 in
set_option maxRecDepth 100000 in
theorem writes_walk (Ax : Option Addr) (cx : Nat) (xs : List Nd) (x : Int) (w : World) (hx : Holds w Ax (xs.flatMap Nd.cells)) (hmx : xs.length ≤ maxLen) (hu : ∀ x ∈ xs, x.u64) (he : Env w) :
    Calls Tryd.prog 3 #[.slice Ax xs.length cx, .int .i64 x] w fun e w' => e = .returned (.bool true) ∧ Below w.heap.size w w' := by
  have Hx := Lib.hid hx
  have Hu := Lib.hid hu
  have HE := Lib.hid he
  clear hx hu he
  have hmx2 : xs.length ≤ 9223372036854775807 := by unfold maxLen at hmx; omega
  by_cases hbad : 40 < xs.length
  · have d1 : decide (40 < xs.length) = true := decide_eq_true hbad
    have d2 : decide ((40 : Int) < (xs.length : Int)) = true := decide_eq_true (by omega)
    clear hbad
    go_enter Tryd.func3, Tryd.ntmps3
    go_wp2_with fail
    refine (awake _ HE.out).mono ?_
    rintro e w9 ⟨rfl, b9⟩
    go_wp2_with fail
    go_ret
    exact ⟨rfl, b9⟩
  · have d1 : decide (40 < xs.length) = false := decide_eq_false hbad
    have d2 : decide ((40 : Int) < (xs.length : Int)) = false := decide_eq_false (by omega)
    have hl : xs.length ≤ 40 := by omega
    clear hbad
    have hok := bA_ok 100 xs Hu.out
    have Hlen := Lib.hid (show (bA 100 xs).l.length ≤ 60 by omega)
    clear hok
    go_enter Tryd.func3, Tryd.ntmps3
    go_wp2_with fail
    refine (built_calls w 100 Ax cx xs Hx.out (by omega) Hu.out).mono ?_
    rintro e w1 ⟨r, g, cap, rfl, o1⟩
    have O1 := Lib.hid o1
    obtain ⟨S, hA⟩ := O1.out.arena (i := 1) rfl
    have Hw := Lib.hid hA.wf
    clear o1 hA
    generalize bA 100 xs = A at *
    simp only [refV]
    go_wp2_with fail
    have o2 := O1.out.alloc (refObj A g cap)
    refine (rows_own o2 2 rfl x).mono ?_
    rintro e w2 ⟨v, rfl, o3⟩
    obtain ⟨Ar1, cr1, rfl⟩ := row_form' (o3.row (i := 0) rfl)
    have O3 := Lib.hid o3
    have b0 := cell_of_heap (o := 0) (o3.blk (i := 1) rfl)
    have b1 := cell_of_heap (o := 1) (o3.blk (i := 1) rfl)
    simp only [List.getElem?_toArray, List.getElem?_cons_zero, List.getElem?_cons_succ] at b0 b1
    clear o2 o3 O1
    generalize w1.heap.size = B at *
    go_wp2_with fail
    refine (rHas_calls A g cap x _).mono ?_
    rintro e w3 ⟨rfl, b3⟩
    have O4 := Lib.hid (O3.out.call b3)
    clear b3 b0 b1 O3
    cases hhas : has A.l x with
    | false =>
      have Hz := Lib.hid (rows_none Hw.out hhas)
      have Ht := Lib.hid (text_none Hw.out hhas)
      rw [Hz.out] at O4
      have hz : (rowsA A.l [] x).length = 0 := by rw [Hz.out]; rfl
      rw [hz]
      go_wp2_with fail
      refine (size_own O4.out 3 rfl x).mono ?_
      rintro e w5 ⟨rfl, o5⟩
      rw [hz]
      have O5 := Lib.hid o5
      clear o5 O4
      go_wp2_with fail
      refine (write_own O5.out HE.out 3 rfl x).mono ?_
      rintro e w6 ⟨rfl, o6⟩
      rw [Ht.out]
      have O6 := Lib.hid o6
      clear o6 O5
      have hb : ((strO []).toList == (⟨#[]⟩ : ByteArray).toList) = true := by decide +kernel
      have hb2 : (strO []).toList.isEmpty = true := by decide +kernel
      go_wp2_with fail
      refine (awake _ (HE.out.below O6.out.below)).mono ?_
      rintro e w9 ⟨rfl, b9⟩
      go_wp2_with fail
      go_ret
      exact ⟨rfl, (O6.out.call b9).below⟩
    | true =>
      have b0 := cell_of_heap (o := 0) (O4.out.blk (i := 1) rfl)
      have b1 := cell_of_heap (o := 1) (O4.out.blk (i := 1) rfl)
      simp only [List.getElem?_toArray, List.getElem?_cons_zero, List.getElem?_cons_succ] at b0 b1
      have hrl := (rows_some Hw.out hhas).2
      have hrl6 : (rowsA A.l [] x).length ≤ 60 := by have := Hlen.out; omega
      clear hrl
      go_wp2_with fail
      refine (r2Rows_calls (O4.out.ref (i := 2) rfl) Hw.out (by have := Hlen.out; omega) (x.toNat + 1) x w3 (.slice none 0 0) [] [] (by omega) hhas ((Own.start w3).nilRow 3 1) (Refs.nil _)).mono ?_
      rintro e w4 ⟨v4, rfl, o4⟩
      have o5 := O4.out.newRow o4.below (o4.rowBase (i := 0) rfl)
      obtain ⟨Ar2, cr2, rfl⟩ := row_form' (o5.row (i := 0) rfl)
      have O5 := Lib.hid o5
      clear o4 o5 O4 b0 b1
      generalize hrows : rowsA A.l [] x = rows at *
      have Hrows := Lib.hid hrows
      clear hrows
      go_wp2_with fail
      refine (size_own O5.out 4 rfl x).mono ?_
      rintro e w5 ⟨rfl, o6⟩
      rw [Hrows.out]
      have O6 := Lib.hid o6
      clear o6 O5
      go_wp2_with fail
      go_loopw [66] (fun i wr => ∃ k : Nat, k ≤ rows.length ∧ i = .int .i64 k ∧ Own w wr [rowT 3 1 (.slice Ar2 rows.length cr2) rows.length (intsV rows), rowT 3 1 (.slice Ar1 rows.length cr1) rows.length (intsV rows), blk B (refObj A g cap), refT g cap A.l, arena r A]) (fun i _ => rows.length - (intOf i).toNat)
      case atStart => exact ⟨0, by omega, rfl, O6.out⟩
      case round =>
        clear O6
        obtain ⟨k, hk, rfl, o6⟩ := hrel
        have O6 := Lib.hid o6
        clear o6
        by_cases hlt : k < rows.length
        · obtain ⟨y, hy⟩ : ∃ y, rows[k]? = some y := ⟨_, List.getElem?_eq_getElem hlt⟩
          have hik : (k : Int) < rows.length := by omega
          obtain ⟨gb, gk, rfl, hc⟩ : ∃ b o, Ar1 = some ⟨b, o, none⟩ ∧ wr.cell? ⟨b, o + k, none⟩ = some (.int .i64 y) := by
            obtain ⟨A', c', e1, e2, -⟩ := holds_of_owns (O6.out.row (i := 1) rfl)
            cases e1
            obtain ⟨b, o, e3, e4⟩ := intsV_at e2 hlt
            rw [List.getElem?_eq_getElem hlt] at hy
            exact ⟨b, o, e3, by rw [e4]; exact congrArg (fun z => some (Value.int .i64 z)) (by cases hy; rfl)⟩
          obtain ⟨gb2, gk2, rfl, hc2⟩ : ∃ b o, Ar2 = some ⟨b, o, none⟩ ∧ wr.cell? ⟨b, o + k, none⟩ = some (.int .i64 y) := by
            obtain ⟨A', c', e1, e2, -⟩ := holds_of_owns (O6.out.row (i := 0) rfl)
            cases e1
            obtain ⟨b, o, e3, e4⟩ := intsV_at e2 hlt
            rw [List.getElem?_eq_getElem hlt] at hy
            exact ⟨b, o, e3, by rw [e4]; exact congrArg (fun z => some (Value.int .i64 z)) (by cases hy; rfl)⟩
          have Hlt := Lib.hid hlt
          clear hy hk hlt
          go_wp2_with (go_quiet (fail))
          have hk1 := Hlt.out
          refine ⟨⟨k + 1, by omega, by go_num, O6.out.call (Upd.below (S := None) ((Upd.refl _ _).drewN _) (Nat.le_refl _) (fun _ _ h => h))⟩, ?_⟩
          simp [intOf]; omega
        · obtain rfl : k = rows.length := by omega
          have b0 := cell_of_heap (o := 0) (O6.out.blk (i := 2) rfl)
          have b1 := cell_of_heap (o := 1) (O6.out.blk (i := 2) rfl)
          simp only [List.getElem?_toArray, List.getElem?_cons_zero, List.getElem?_cons_succ] at b0 b1
          have KS := Lib.hid (show ∀ w', Below wr.heap.size wr w' → (w'.cell? ⟨B, 0, none⟩ = some (.int .i64 A.limit) ∧ w'.cell? ⟨B, 1, none⟩ = some (.slice (some ⟨g, 0, none⟩) A.l.length cap)) from fun w' h => by
            have cc : ∀ {a : Addr} {v : Value}, wr.cell? a = some v → w'.cell? a = some v := fun {a v} hc => (h.cell (World.block_lt_of_cell? wr _ hc)).trans hc
            exact ⟨cc b0, cc b1⟩)
          have hbb : Below wr.heap.size wr wr := Below.refl _ _
          have HW := Lib.hid (show ∀ w', Below wr.heap.size wr w' → Calls Tryd.prog 14 #[.pointer (some ⟨r, 0, none⟩), .int .i64 x] w' (WritePost (text A.l x) w') from fun w' h => by
            obtain ⟨S, hA⟩ := (O6.out.call h).arena (i := 4) rfl
            exact write_calls hA (HE.out.below (O6.out.call h).below) x)
          have HR := Lib.hid (show ∀ w', Below wr.heap.size wr w' → Calls Tryd.prog 16 #[.agg #[.int .i64 A.limit, .slice (some ⟨g, 0, none⟩) A.l.length cap], .int .i64 x] w' (WritePost (text A.l x) w') from fun w' h =>
            r2Write_calls ((O6.out.call h).ref (i := 3) rfl) Hw.out Hlen.out x)
          have HAw := Lib.hid (show ∀ w', Below wr.heap.size wr w' → Calls Tryd.prog 9 #[] w' (fun e w'' => e = .returned (.bool true) ∧ Below w'.heap.size w' w'') from fun w' h => awake w' (HE.out.below (O6.out.call h).below))
          have hb : ((strO (text A.l x)).toList == (strO (text A.l x)).toList) = true := by simp
          generalize strO (text A.l x) = T at *
          clear hk hlt Hrows
          go_wp2_with fail
          unfold WritePost at HW HR
          go_region_held3 (fun w' => w'.cell? ⟨B, 0, none⟩ = some (.int .i64 A.limit) ∧ w'.cell? ⟨B, 1, none⟩ = some (.slice (some ⟨g, 0, none⟩) A.l.length cap))
            (first | exact KS.out _ (by repeat (first | with_reducible assumption | with_reducible refine Below.drew ?_ | with_reducible refine belowAlloc ?_ _)))
            (first
              | (go_at_call 14; with_reducible refine (HW.out _ (by repeat (first | with_reducible assumption | with_reducible refine Below.drew ?_ | with_reducible refine belowAlloc ?_ _))).mono ?_; rintro e wa ⟨rfl, hba⟩; have hxa : Below wr.heap.size wr wa := below_call (by repeat (first | with_reducible assumption | with_reducible refine Below.drew ?_ | with_reducible refine belowAlloc ?_ _)) hba)
              | (go_at_call 16; with_reducible refine (HR.out _ (by repeat (first | with_reducible assumption | with_reducible refine Below.drew ?_ | with_reducible refine belowAlloc ?_ _))).mono ?_; rintro e wb ⟨rfl, hbb2⟩; have hxb : Below wr.heap.size wr wb := below_call (by repeat (first | with_reducible assumption | with_reducible refine Below.drew ?_ | with_reducible refine belowAlloc ?_ _)) hbb2)
              | (go_at_call 9; with_reducible refine (HAw.out _ (by repeat (first | with_reducible assumption | with_reducible refine Below.drew ?_ | with_reducible refine belowAlloc ?_ _))).mono ?_; rintro e wd ⟨rfl, hbd⟩; have hxd : Below wr.heap.size wr wd := below_call (by repeat (first | with_reducible assumption | with_reducible refine Below.drew ?_ | with_reducible refine belowAlloc ?_ _)) hbd))
          all_goals go_wp2_with fail
          all_goals go_ret
          all_goals exact ⟨rfl, (O6.out.call (by repeat (first | with_reducible assumption | with_reducible refine Below.drew ?_ | with_reducible refine belowAlloc ?_ _))).below⟩
end Go.Proofs.YtfelbecofbdeaaaDoor
