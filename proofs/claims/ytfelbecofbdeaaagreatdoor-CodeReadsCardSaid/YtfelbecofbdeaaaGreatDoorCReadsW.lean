/- CodeReads answers true. -/
import Derived.Test.YtfelbecofbdeaaaGreatDoorAwake02
import Derived.Test.YtfelbecofbdeaaaGreatDoorTw
import Derived.Deep.CutBlock
import Derived.Deep.DeepCutAuto
import Derived.Laws.EntriesVeiled
import Derived.Test.YtfelbecofbdeaaaGreatDoorR2j
import Derived.Test.YtfelbecofbdeaaaGreatDoorSame1
namespace Go.Proofs.YtfelbecofbdeaaaGreatDoor
open Go.RowKit

theorem refObj_cells {w : World} {b : Nat} {A : Ar} {g cap : Nat} (h : w.heap[b]? = some (refObj A g cap)) : w.cell? ⟨b, 0, none⟩ = some (.int .i64 A.limit) ∧ w.cell? ⟨b, 1, none⟩ = some (.slice (some ⟨g, 0, none⟩) A.l.length cap) := RBox.cells h
set_option maxHeartbeats 6400000 in
set_option maxRecDepth 100000 in
theorem reads_walk (n : Int) (Ax : Option Addr) (cx : Nat) (xs : List Nd) (s : ByteArray) (w : World) (hx : Holds w Ax (xs.flatMap Nd.cells)) (hmx : xs.length ≤ maxLen) (hu : ∀ x ∈ xs, x.u64) (hs : s.size ≤ maxLen) (he : Env w) :
    Calls Tryz.prog 3 #[.int .i64 n, .slice Ax xs.length cx, .string s] w fun e w' => e = .returned (.bool true) ∧ Below w.heap.size w w' := by
  have Hx := Lib.hid hx
  have Hu := Lib.hid hu
  have HE := Lib.hid he
  have Hs := Lib.hid hs
  have hs' : s.size ≤ 9223372036854775807 := by unfold maxLen at hs; omega
  clear hx hu he hs
  have hmx2 : xs.length ≤ 9223372036854775807 := by unfold maxLen at hmx; omega
  by_cases hbad : 40 < xs.length ∨ (600 < s.size ∧ s.size ≤ 16384)
  · have hd : (decide (40 < xs.length) = true ∧ decide ((40 : Int) < (xs.length : Int)) = true) ∨ ((decide (40 < xs.length) = false ∧ decide ((40 : Int) < (xs.length : Int)) = false) ∧ (decide (600 < s.size) = true ∧ decide ((600 : Int) < (s.size : Int)) = true) ∧ ((s.size ≤ 16384) = True ∧ ((s.size : Int) ≤ 16384) = True ∧ decide (s.size ≤ 16384) = true ∧ decide ((s.size : Int) ≤ 16384) = true)) := by
      by_cases h1 : 40 < xs.length
      · exact .inl ⟨decide_eq_true h1, decide_eq_true (by omega)⟩
      · exact .inr ⟨⟨decide_eq_false h1, decide_eq_false (by omega)⟩, ⟨decide_eq_true (by omega), decide_eq_true (by omega)⟩, eq_true (by omega), eq_true (by omega), decide_eq_true (by omega), decide_eq_true (by omega)⟩
    clear hbad
    rcases hd with ⟨d1, d2⟩ | ⟨⟨d1, d2⟩, ⟨d3, d4⟩, d5, d6, d7, d8⟩
    all_goals
      go_enter Tryz.func3, Tryz.ntmps3
      go_wp2_with fail
      refine (awake _ HE.out).mono ?_
      rintro e w9 ⟨rfl, b9⟩
      go_wp2_with fail
      go_ret
      exact ⟨rfl, b9⟩
  · have d1 : decide (40 < xs.length) = false := decide_eq_false (by omega)
    have d2 : decide ((40 : Int) < (xs.length : Int)) = false := decide_eq_false (by omega)
    have hl : xs.length ≤ 40 := by omega
    have hok := bA_ok n xs Hu.out
    by_cases hbig : 16384 < s.size
    · have d3 : decide (600 < s.size) = true := decide_eq_true (by omega)
      have d4 : decide ((600 : Int) < (s.size : Int)) = true := decide_eq_true (by omega)
      have d5 : ((s.size : Int) ≤ 16384) = False := eq_false (by omega)
      have d6 : decide ((16384 : Int) < (s.size : Int)) = true := decide_eq_true (by omega)
      have d7 : decide (16384 < s.size) = true := decide_eq_true hbig
      have d8 : (s.size ≤ 16384) = False := eq_false (by omega)
      have HR := Lib.hid (show readA (bA n xs) s = (bA n xs, 0, 2) by unfold readA; rw [if_pos hbig])
      clear hbad hbig hok
      go_enter Tryz.func3, Tryz.ntmps3
      go_wp2_with fail
      refine (built_calls w n Ax cx xs Hx.out (by omega) Hu.out).mono ?_
      rintro e w1 ⟨r, g, cap, rfl, o1⟩
      have O1 : Hid (Own w _ [arena r (bA n xs), blk w1.heap.size (refObj (bA n xs) g cap), refT g cap (bA n xs).l]) := Lib.hid ((o1.alloc (refObj (bA n xs) g cap)).pick [2, 0, 1] rfl)
      clear o1
      simp only [refV]
      go_wp2_with fail
      refine (read_calls O1.out HE.out s Hs.out).mono ?_
      rintro e w2 ⟨rfl, o2⟩
      rw [HR.out] at o2 ⊢
      have O2 := Lib.hid o2
      clear o2 HR O1
      obtain ⟨q0, q1⟩ := refObj_cells (O2.out.blk (i := 1) rfl)
      generalize bA n xs = A at *
      go_wp2_with fail
      obtain ⟨S, hA⟩ := O2.out.arena (i := 0) rfl
      refine (same_calls hA (O2.out.ref (i := 2) rfl)).mono ?_
      rintro e w3 ⟨rfl, b3⟩
      have O3 := Lib.hid (O2.out.call b3)
      clear hA b3 q0 q1 O2
      go_wp2_with fail
      refine (awake _ (HE.out.below O3.out.below)).mono ?_
      rintro e w9 ⟨rfl, b9⟩
      go_wp2_with fail
      go_ret
      exact ⟨rfl, (O3.out.call b9).below⟩
    · have hs6 : s.size ≤ 600 := by omega
      have d3 : decide (600 < s.size) = false := decide_eq_false (by omega)
      have d4 : decide ((600 : Int) < (s.size : Int)) = false := decide_eq_false (by omega)
      have d6 : decide ((16384 : Int) < (s.size : Int)) = false := decide_eq_false (by omega)
      have d7 : decide (16384 < s.size) = false := decide_eq_false (by omega)
      have HL := Lib.hid (reads_law hok.1 s hs6)
      have Hok := Lib.hid hok
      clear hbad hbig hok
      go_enter Tryz.func3, Tryz.ntmps3
      go_wp2_with fail
      refine (built_calls w n Ax cx xs Hx.out (by omega) Hu.out).mono ?_
      rintro e w1 ⟨r, g, cap, rfl, o1⟩
      obtain ⟨S0, hA0⟩ := o1.arena (i := 1) rfl
      have Hroom := Lib.hid hA0.room
      have O1 : Hid (Own w _ [arena r (bA n xs), blk w1.heap.size (refObj (bA n xs) g cap), refT g cap (bA n xs).l]) := Lib.hid ((o1.alloc (refObj (bA n xs) g cap)).pick [2, 0, 1] rfl)
      clear o1 hA0
      simp only [refV]
      go_wp2_with fail
      refine (read_calls O1.out HE.out s Hs.out).mono ?_
      rintro e w2 ⟨rfl, o2⟩
      have O2 := Lib.hid o2
      clear o2 O1
      obtain ⟨q0, q1⟩ := refObj_cells (O2.out.blk (i := 1) rfl)
      have Hlen := Lib.hid (show 1 ≤ (bA n xs).l.length ∧ (bA n xs).l.length ≤ 100 from ⟨(List.getElem?_eq_some_iff.1 (Hok.out.1.wf).head).1, by have := Hok.out.2.1; omega⟩)
      generalize bA n xs = A at *
      generalize readA A s = R at *
      generalize w1.heap.size = B0 at *
      go_wp2_with fail
      refine (rNew_calls 65536 w2).mono ?_
      rintro e w3 ⟨g2, cap2, rfl, hr3, b3, hg3⟩
      have O3 := Lib.hid (O2.out.call b3)
      clear O2 q0 q1 hg3
      simp only [refV]
      go_wp2_with fail
      refine (r2Read_calls (A := newAr 65536) (g := g2) (cap := cap2) hr3 (arOk_new 65536) (by decide) (by decide) s (by omega)).mono ?_
      rintro e w4 ⟨B, g4, cap4, x4, ok4, rfl, hr4, b4, hl4, hk1, hk2⟩
      have O4 := Lib.hid (O3.out.call b4)
      have O5 := Lib.hid (O4.out.alloc (refObj B g4 cap4))
      obtain ⟨q0, q1⟩ := refObj_cells (O4.out.blk (i := 1) rfl)
      have l0 := lt_of_heap (O4.out.blk (i := 1) rfl)
      have hB1 : ((B.l.length : Int) < 1) = False := eq_false (by omega)
      have hB2 : decide ((B.l.length : Int) < 1) = false := decide_eq_false (by omega)
      have hB3 : decide (B.l.length < 1) = false := decide_eq_false (by omega)
      clear O3 hr3 b3 hr4 b4
      simp only [refV]
      cases ok4 with
      | false =>
        have hR := HL.out.1 (fun O x h => by have := (hk2 O x h).1; cases this)
        subst hR
        clear HL hk1 hk2 hB1 hB2 hB3 O4
        dsimp only at *
        go_wp2_with fail
        obtain ⟨S, hA⟩ := O5.out.arena (i := 1) rfl
        refine (same_calls hA (O5.out.ref (i := 3) rfl)).mono ?_
        rintro e w5 ⟨rfl, b5⟩
        have O6 := Lib.hid (O5.out.call b5)
        clear hA b5 q0 q1 O5
        go_wp2_with fail
        refine (awake _ (HE.out.below O6.out.below)).mono ?_
        rintro e w9 ⟨rfl, b9⟩
        go_wp2_with fail
        go_ret
        exact ⟨rfl, (O6.out.call b9).below⟩
      | true =>
        have HL2 := Lib.hid (HL.out.2 B x4 (hk1 rfl))
        clear HL hk1 hk2
        go_wp2_with fail
        refine (r2Read_calls (A := A) (g := g) (cap := cap) (O5.out.ref (i := 3) rfl) Hok.out.1 Hroom.out ⟨Hlen.out.2, Hlen.out.1⟩ s (by omega)).mono ?_
        rintro e w5 ⟨C, g6, cap6, x6, ok6, rfl, hr6, b6, hl6, hk1, hk2⟩
        have O6 := Lib.hid (O5.out.call b6)
        have O7 := Lib.hid (O6.out.alloc (refObj C g6 cap6))
        have hr7 := hr6.below ((Below.refl _ _).alloc (Nat.le_refl _) (refObj C g6 cap6))
        clear q0 q1 l0 O4 O5 b6 hr6
        obtain ⟨q0, q1⟩ := refObj_cells (O6.out.blk (i := 2) rfl)
        have l0 := lt_of_heap (O6.out.blk (i := 2) rfl)
        simp only [refV]
        cases ok6 with
        | false =>
          have hR := HL2.out.2 (fun O x h => by have := (hk2 O x h).1; cases this)
          subst hR
          clear HL2 hk1 hk2 O6 hr7
          dsimp only at *
          go_wp2_with fail
          obtain ⟨S, hA⟩ := O7.out.arena (i := 2) rfl
          refine (same_calls hA (O7.out.ref (i := 4) rfl)).mono ?_
          rintro e w6 ⟨rfl, b6⟩
          have O8 := Lib.hid (O7.out.call b6)
          clear hA b6 q0 q1 O7
          go_wp2_with fail
          refine (awake _ (HE.out.below O8.out.below)).mono ?_
          rintro e w9 ⟨rfl, b9⟩
          go_wp2_with fail
          go_ret
          exact ⟨rfl, (O8.out.call b9).below⟩
        | true =>
          have hR := HL2.out.1 C x6 (hk1 rfl)
          subst hR
          clear HL2 hk1 hk2 O6
          dsimp only at *
          go_wp2_with fail
          obtain ⟨S, hA⟩ := O7.out.arena (i := 2) rfl
          refine (same_calls hA hr7).mono ?_
          rintro e w6 ⟨rfl, b6⟩
          have O8 := Lib.hid (O7.out.call b6)
          clear hA b6 q0 q1 O7 hr7
          go_wp2_with fail
          refine (awake _ (HE.out.below O8.out.below)).mono ?_
          rintro e w9 ⟨rfl, b9⟩
          go_wp2_with fail
          go_ret
          exact ⟨rfl, (O8.out.call b9).below⟩
end Go.Proofs.YtfelbecofbdeaaaGreatDoor
