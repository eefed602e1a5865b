/- CodeSizes answers true. -/
import Derived.Test.YtfelbecofbdeaaaDoorAwake02
import Derived.Test.YtfelbecofbdeaaaDoorCSz
import Derived.Test.YtfelbecofbdeaaaDoorRef6
import Derived.Deep.CutBlock
import Derived.Deep.DeepCutAuto
import Derived.Laws.EntriesVeiled
namespace Go.Proofs.YtfelbecofbdeaaaDoor
open Go.RowKit

set_option maxHeartbeats 3200000 in
set_option maxRecDepth 100000 in
theorem sizes_walk (Ax : Option Addr) (cx : Nat) (xs : List Nd) (x : Int) (w : World) (hx : Holds w Ax (xs.flatMap Nd.cells)) (hmx : xs.length ≤ maxLen) (hu : ∀ x ∈ xs, x.u64) (he : Env w) :
    Calls Tryd.prog 8 #[.slice Ax xs.length cx, .int .i64 x] w fun e w' => e = .returned (.bool true) ∧ Below w.heap.size w w' := by
  have Hx := Lib.hid hx
  have Hu := Lib.hid hu
  have HE := Lib.hid he
  clear hx hu he
  have hmx2 : xs.length ≤ 9223372036854775807 := by unfold maxLen at hmx; omega
  by_cases hbad : 40 < xs.length
  · have d1 : decide (40 < xs.length) = true := decide_eq_true hbad
    have d2 : decide ((40 : Int) < (xs.length : Int)) = true := decide_eq_true (by omega)
    clear hbad
    go_enter Tryd.func8, Tryd.ntmps8
    go_wp2_with fail
    refine (awake _ HE.out).mono ?_
    rintro e w9 ⟨rfl, b9⟩
    go_wp2_with fail
    go_ret
    exact ⟨rfl, b9⟩
  · have d1 : decide (40 < xs.length) = false := decide_eq_false hbad
    have d2 : decide ((40 : Int) < (xs.length : Int)) = false := decide_eq_false (by omega)
    have hl : xs.length ≤ 40 := by omega
    clear hbad
    go_enter Tryd.func8, Tryd.ntmps8
    go_wp2_with fail
    refine (built_calls w 100 Ax cx xs Hx.out (by omega) Hu.out).mono ?_
    rintro e w1 ⟨r, g, cap, rfl, o1⟩
    have O1 : Hid (Own w w1 [arena r (bA 100 xs)]) := Lib.hid o1.tail
    obtain ⟨S, hA⟩ := O1.out.arena (i := 0) rfl
    have Hw := Lib.hid hA.wf
    clear o1 hA
    generalize bA 100 xs = A at *
    simp only [refV]
    go_wp2_with fail
    have o2 : Own w _ [arena r A] := O1.out.call ((Below.refl _ _).alloc (Nat.le_refl _) (.cells #[.int .i64 A.limit, .slice (some ⟨g, 0, none⟩) A.l.length cap] 27))
    refine (get_own o2 0 rfl x).mono ?_
    rintro e w2 ⟨rfl, o3⟩
    have o4 : Own w _ [blk w2.heap.size (ndObj (getNd A.l x)), arena r A] := o3.alloc (ndObj (getNd A.l x))
    have O4 := Lib.hid o4
    unfold ndObj at o4
    have e4 := o4.call (Below.refl _ _)
    clear o2 o3 o4 O1
    simp only [Nd.val]
    cases hhas : has A.l x with
    | false =>
      have Hz := Lib.hid (rows_none Hw.out hhas)
      clear e4
      go_wp2_with fail
      refine (size_own O4.out 1 rfl x).mono ?_
      rintro e w5 ⟨rfl, o5⟩
      rw [Hz.out]
      have O5 := Lib.hid o5
      clear o5
      go_wp2_with fail
      refine (awake _ (HE.out.below O5.out.below)).mono ?_
      rintro e w9 ⟨rfl, b9⟩
      go_wp2_with fail
      go_ret
      exact ⟨rfl, (O5.out.call b9).below⟩
    | true =>
      clear e4
      have Hk := Lib.hid (fun p => rows_kid Hw.out hhas (p := p))
      have Hs := Lib.hid (rows_some Hw.out hhas)
      have hfit := Hw.out.fits _ (nd_mem hhas)
      rw [getNd_of_has hhas] at O4 ⊢
      generalize nd A.l x = nx at *
      have hm := many_le nx.kind
      have hmi : manyI nx.kind = many nx.kind := by unfold manyI; rw [if_neg (by omega)]
      have hm3 : (many nx.kind : Int) ≤ 3 := by omega
      have hm0 : (0 : Int) ≤ (many nx.kind : Int) := by omega
      clear hhas hfit
      go_wp2_with fail
      refine (size_own O4.out 1 rfl x).mono ?_
      rintro e W ⟨rfl, o5⟩
      have O5 := Lib.hid o5
      generalize w2.heap.size = B at *
      have nb : NdAt W B nx := o5.blk (i := 0) rfl
      obtain ⟨c0, c1, c2, c3, c4⟩ := nb.cells
      have lb := lt_of_heap nb
      have hsl := o5.size
      have KS := Lib.hid (show ∀ w', Below W.heap.size W w' → (Below W.heap.size W w' ∧ w'.cell? ⟨B, 0, none⟩ = some (.int .i64 nx.kind) ∧ w'.cell? ⟨B, 2, none⟩ = some (.int .i64 nx.a) ∧ w'.cell? ⟨B, 3, none⟩ = some (.int .i64 nx.b) ∧ w'.cell? ⟨B, 4, none⟩ = some (.int .i64 nx.c)) from fun w' h => by
        obtain ⟨t0, t1, t2, t3, t4⟩ := (nb.below h).cells
        exact ⟨h, t0, t2, t3, t4⟩)
      have hbb : Below W.heap.size W W := Below.refl _ _
      clear o5 nb c1 O4
      generalize hN : (rowsA A.l [] x).length = N at *
      clear hN
      go_upto_region 10 with fail
      go_cut [54, 55, 56] (fun s t i wx => ∃ b, s = .slice (some ⟨b, 0, none⟩) (many nx.kind) 3 ∧ t = .int .i64 (many nx.kind) ∧ i = .int .i64 0 ∧ Own w wx [blk b (threeO nx), arena r A])
      case first =>
        have hW0 : W.heap.size ≤ W.heap.size := Nat.le_refl _
        go_region_held3 (fun w' => Below W.heap.size W w' ∧ w'.cell? ⟨B, 0, none⟩ = some (.int .i64 nx.kind) ∧ w'.cell? ⟨B, 2, none⟩ = some (.int .i64 nx.a) ∧ w'.cell? ⟨B, 3, none⟩ = some (.int .i64 nx.b) ∧ w'.cell? ⟨B, 4, none⟩ = some (.int .i64 nx.c))
          (first | exact KS.out _ (by repeat (first | with_reducible assumption | with_reducible refine Below.drew ?_ | with_reducible refine belowAlloc ?_ _)))
          (first | (go_at_call 20; refine (rMany_calls _ _).mono ?_; rintro e wp ⟨rfl, rfl⟩; rw [hmi]))
        all_goals go_wp2_with fail
        all_goals go_meet
        all_goals refine ⟨_, rfl, rfl, rfl, ?_⟩
        all_goals exact (O5.out.tail.alloc (threeO nx)).drew
      case rest =>
        obtain ⟨b, rfl, rfl, rfl, o6⟩ := hcut
        have O6 := Lib.hid o6
        clear c0 c2 c3 c4 lb hbb O5 KS o6
        go_wp2_with fail
        go_loopw [56] (fun i wr => ∃ k : Nat, k ≤ many nx.kind ∧ i = .int .i64 k ∧ Own w wr [blk b (threeO nx), arena r A]) (fun i _ => many nx.kind - (intOf i).toNat)
        case atStart => exact ⟨0, by omega, rfl, O6.out⟩
        case round =>
          clear O6
          obtain ⟨k, hk, rfl, ok⟩ := hrel
          have Ok := Lib.hid ok
          have Hkl := Lib.hid hk
          by_cases hlt : k < many nx.kind
          · obtain ⟨p, hp, hc⟩ := three_at (ok.blk (i := 0) rfl) hlt
            have hlen := Hk.out p (List.mem_of_getElem? hp)
            have hik : (k : Int) < (many nx.kind : Int) := by omega
            have hd : decide (N ≤ (rowsA A.l [] p).length) = false := decide_eq_false (by omega)
            have hd2 : decide ((N : Int) ≤ ((rowsA A.l [] p).length : Int)) = false := decide_eq_false (by omega)
            clear ok hp hk hlt
            generalize many nx.kind = m at *
            go_wp2_with fail
            refine (size_own Ok.out 1 rfl p).mono ?_
            rintro e w7 ⟨rfl, o7⟩
            have O7 := Lib.hid o7
            clear o7 hc Ok
            generalize (rowsA A.l [] p).length = M at *
            go_wp2_with fail
            refine ⟨⟨k + 1, by omega, by go_num, O7.out⟩, ?_⟩
            simp [intOf]; omega
          · obtain rfl : k = many nx.kind := by omega
            have h1 := Hs.out.1
            have h2 := Hs.out.2
            have d5 : decide ((1 : Int) ≤ (N : Int)) = true := decide_eq_true (by omega)
            have d6 : decide ((N : Int) ≤ (A.l.length : Int)) = true := decide_eq_true (by omega)
            clear ok hk hlt
            go_wp2_with fail
            obtain ⟨S, hr⟩ := Ok.out.arena (i := 1) rfl
            refine (len_calls hr).mono ?_
            rintro e w8 ⟨rfl, rfl⟩
            clear hr
            go_wp2_with fail
            refine (awake _ (HE.out.below Ok.out.below)).mono ?_
            rintro e w9 ⟨rfl, b9⟩
            go_wp2_with fail
            go_ret
            exact ⟨rfl, (Ok.out.call b9).below⟩
end Go.Proofs.YtfelbecofbdeaaaDoor
