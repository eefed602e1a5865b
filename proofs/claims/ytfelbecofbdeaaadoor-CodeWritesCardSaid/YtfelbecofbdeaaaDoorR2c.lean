/- The document's Write of layer 2. -/
import Derived.Test.YtfelbecofbdeaaaDoorR2b
namespace Go.Proofs.YtfelbecofbdeaaaDoor
open Go.RowKit

set_option maxHeartbeats 1600000 in
set_option maxRecDepth 100000 in
theorem r2Write_calls {w : World} {A : Ar} {g cap : Nat} (hra : RefAt w g cap A.l) (hwf : Wf A.l) (hlen : A.l.length ≤ 60) (x : Int) :
    Calls Tryd.prog 16 #[refV A g cap, .int .i64 x] w (WritePost (text A.l x) w) := by
  have HRA := Lib.hid hra
  have Hwf := Lib.hid hwf
  have Hrefs := Lib.hid (rows_refs hwf (Refs.nil A.l) x)
  have Hclosed := Lib.hid (rows_closed hwf x)
  have Htext := Lib.hid (show text A.l x = textR A.l (rowsA A.l [] x) (rowsA A.l [] x) from rfl)
  clear hra hwf
  unfold refV
  go_enter Tryd.func16, Tryd.ntmps16
  go_wp2_with fail
  refine (rHas_calls A g cap x _).mono ?_
  rintro e w1 ⟨rfl, b1⟩
  have O1 : Hid (Own w w1 [blk w.heap.size (refObj A g cap)]) := Lib.hid (((Own.start w).alloc (refObj A g cap)).call b1)
  clear b1
  have b0 := cell_of_heap (o := 0) (O1.out.blk (i := 0) rfl)
  have b1 := cell_of_heap (o := 1) (O1.out.blk (i := 0) rfl)
  simp only [List.getElem?_toArray, List.getElem?_cons_zero, List.getElem?_cons_succ] at b0 b1
  generalize hBB : w.heap.size = BB at *
  cases hx : has A.l x with
  | false =>
    have Ht := Lib.hid (text_none Hwf.out hx)
    go_wp2_with fail
    go_ret
    exact ⟨by rw [Ht.out]; rfl, O1.out.below⟩
  | true =>
    go_wp2_with fail
    refine (r2Rows_calls HRA.out Hwf.out (by omega) (x.toNat + 1) x w1 (.slice none 0 0) [] _ (by omega) hx (O1.out.nilRow 3 1) (Refs.nil _)).mono ?_
    rintro e w2 ⟨v2, rfl, o2⟩
    obtain ⟨Ar1, cr1, rfl⟩ := row_form' (o2.row (i := 0) rfl)
    have hl := Hrefs.out.length
    generalize hrows : rowsA A.l [] x = rows at *
    clear hrows b0 b1 O1
    have O2 := Lib.hid o2
    have hl6 : rows.length ≤ 60 := by omega
    have H6 := Lib.hid hl6
    clear hl o2 hx
    go_wp2_with fail
    go_loopw [6, 7] (fun s i wr => ∃ k : Nat, k ≤ rows.length ∧ s = .string (strO (textR A.l rows (rows.take k))) ∧ i = .int .i64 k ∧ Own w wr (R2L (.slice Ar1 rows.length cr1) rows [blk BB (refObj A g cap)])) (fun _ i _ => rows.length - (intOf i).toNat)
    case atStart => exact ⟨0, by omega, rfl, rfl, O2.out⟩
    case round =>
      clear O2
      obtain ⟨k, hk, rfl, rfl, ok⟩ := hrel
      have Ok := Lib.hid ok
      have htl := textR_len Hwf.out (rows := rows) (by omega) (rows.take k) (fun z hz => Hrefs.out.has z (List.mem_of_mem_take hz))
      have htk6 : (rows.take k).length ≤ 60 := by simp; omega
      have HT0 := Lib.hid (show (textR A.l rows (rows.take k)).length ≤ 12000 by omega)
      clear htl htk6
      by_cases hlt : k < rows.length
      · obtain ⟨y, hy⟩ : ∃ y, rows[k]? = some y := ⟨_, List.getElem?_eq_getElem hlt⟩
        have Hy := Lib.hid hy
        have hym := List.mem_of_getElem? hy
        have hyh := Hrefs.out.has y hym
        have hik : (k : Int) < rows.length := by omega
        obtain ⟨gb, gk, rfl, hc⟩ : ∃ b o, Ar1 = some ⟨b, o, none⟩ ∧ wr.cell? ⟨b, o + k, none⟩ = some (.int .i64 y) := by
          obtain ⟨A', c', e1, e2, -⟩ := holds_of_owns (ok.row (i := 0) rfl)
          cases e1
          obtain ⟨b, o, e3, e4⟩ := intsV_at e2 hlt
          rw [List.getElem?_eq_getElem hlt] at hy
          exact ⟨b, o, e3, by rw [e4]; exact congrArg (fun z => some (Value.int .i64 z)) (by cases hy; rfl)⟩
        have htk : rows.take (k + 1) = rows.take k ++ [y] := by rw [List.take_add_one, hy]; rfl
        have hn := (HRA.out.below ok.below).node (getElem?_of_has hyh)
        have hy0 := has_iff.1 hyh
        have hfit := Hwf.out.fits _ (nd_mem hyh)
        have Hcl := Lib.hid (Hclosed.out k y hy)
        have hrl := rowText_len Hwf.out (rows := rows) (by omega) hyh
        obtain ⟨ky, rfl⟩ := Int.eq_ofNat_of_zero_le hy0.1
        rw [Int.toNat_natCast] at hn
        have iy : (ky : Int) < A.l.length := by omega
        have Htk := Lib.hid (show textR A.l rows (rows.take (k + 1)) = textR A.l rows (rows.take k) ++ rowText rows (nd A.l ky) by rw [htk]; unfold textR; simp)
        generalize nd A.l (ky : Int) = nx at *
        obtain ⟨K, NN, na, nb, nc⟩ := nx
        dsimp only at hfit hn
        obtain ⟨kn, rfl⟩ : ∃ kn : Nat, K = kn := ⟨K.toNat, by omega⟩
        obtain ⟨un, rfl⟩ : ∃ un : Nat, NN = un := ⟨NN.toNat, by omega⟩
        obtain ⟨g0, g1, g2, g3, g4⟩ := hn
        have hk9 : kn ≤ 9 := by omega
        have hu64 : un < 18446744073709551616 := by omega
        obtain ⟨b0, b1⟩ := RBox.cells (ok.blk (i := 1) rfl)
        have lb := lt_of_heap (ok.blk (i := 1) rfl)
        have Hlt := Lib.hid hlt
        clear ok hy hym hyh hy0 hfit htk hlt hk
        generalize hT0 : textR A.l rows (rows.take k) = T0 at *
        clear hT0
        have KS := Lib.hid (show ∀ w', Below wr.heap.size wr w' → (w'.cell? ⟨BB, 0, none⟩ = some (.int .i64 A.limit) ∧ w'.cell? ⟨BB, 1, none⟩ = some (.slice (some ⟨g, 0, none⟩) A.l.length cap) ∧ w'.cell? ⟨gb, gk + k, none⟩ = some (.int .i64 ky) ∧ w'.cell? ⟨g, ky * 5, none⟩ = some (.int .i64 kn) ∧ w'.cell? ⟨g, ky * 5 + 1, none⟩ = some (.int .u64 un) ∧ w'.cell? ⟨g, ky * 5 + 2, none⟩ = some (.int .i64 na) ∧ w'.cell? ⟨g, ky * 5 + 3, none⟩ = some (.int .i64 nb) ∧ w'.cell? ⟨g, ky * 5 + 4, none⟩ = some (.int .i64 nc)) from fun w' h => by
          have cc : ∀ {a : Addr} {v : Value}, wr.cell? a = some v → w'.cell? a = some v := fun {a v} hc => (h.cell (World.block_lt_of_cell? wr _ hc)).trans hc
          exact ⟨cc b0, cc b1, cc hc, cc g0, cc g1, cc g2, cc g3, cc g4⟩)
        have hbb : Below wr.heap.size wr wr := Below.refl _ _
        go_upto_region 8 with fail
        go_cut [8] (fun p wx => ∃ b, p = .pointer (some ⟨b, 0, none⟩) ∧ Own w wx (blk b (rndObj ⟨kn, un, na, nb, nc⟩) :: R2L (.slice (some ⟨gb, gk, none⟩) rows.length cr1) rows [blk BB (refObj A g cap)]))
        case first =>
          go_region_held3 (fun w' => w'.cell? ⟨BB, 0, none⟩ = some (.int .i64 A.limit) ∧ w'.cell? ⟨BB, 1, none⟩ = some (.slice (some ⟨g, 0, none⟩) A.l.length cap) ∧ w'.cell? ⟨gb, gk + k, none⟩ = some (.int .i64 ky) ∧ w'.cell? ⟨g, ky * 5, none⟩ = some (.int .i64 kn) ∧ w'.cell? ⟨g, ky * 5 + 1, none⟩ = some (.int .u64 un) ∧ w'.cell? ⟨g, ky * 5 + 2, none⟩ = some (.int .i64 na) ∧ w'.cell? ⟨g, ky * 5 + 3, none⟩ = some (.int .i64 nb) ∧ w'.cell? ⟨g, ky * 5 + 4, none⟩ = some (.int .i64 nc))
            (first | exact KS.out _ (by repeat (first | with_reducible assumption | with_reducible refine Below.drew ?_ | with_reducible refine belowAlloc ?_ _)))
            (fail)
          all_goals go_wp2_with fail
          all_goals go_meet
          all_goals refine ⟨_, rfl, ?_⟩
          all_goals exact (Ok.out.alloc (rndObj ⟨kn, un, na, nb, nc⟩)).drew
        case rest =>
          obtain ⟨b, rfl, oc⟩ := hcut
          have Oc := Lib.hid oc
          clear g0 g1 g2 g3 g4 b0 b1 lb hc KS hbb Ok iy
          obtain ⟨c0, c1, c2, c3, c4⟩ := RNdAt.cells (n := ⟨kn, un, na, nb, nc⟩) (oc.blk (i := 0) rfl)
          dsimp only at c0 c1 c2 c3 c4
          have lb := lt_of_heap (oc.blk (i := 0) rfl)
          have KS := Lib.hid (show ∀ w', Below wc.heap.size wc w' → (w'.cell? ⟨b, 0, none⟩ = some (.int .i64 kn) ∧ w'.cell? ⟨b, 1, none⟩ = some (.int .u64 un)) from fun w' h => by
            have cc : ∀ {a : Addr} {v : Value}, wc.cell? a = some v → w'.cell? a = some v := fun {a v} hc => (h.cell (World.block_lt_of_cell? wc _ hc)).trans hc
            exact ⟨cc c0, cc c1⟩)
          have hbb : Below wc.heap.size wc wc := Below.refl _ _
          have hd1 := digs_len kn (by omega)
          have hd2 := digs_len un hu64
          have h0 := HT0.out
          have hwk : IntKind.u64.wrap (kn : Int) = kn := IntWalk.u64_in _ (by omega)
          obtain ⟨s1, hs1⟩ : ∃ s, s = strO (T0 ++ digs kn) := ⟨_, rfl⟩
          obtain ⟨s2, hs2⟩ : ∃ s, s = strO ((T0 ++ digs kn) ++ [32]) := ⟨_, rfl⟩
          obtain ⟨s3, hs3⟩ : ∃ s, s = strO (T0 ++ rowT1 ⟨kn, un, na, nb, nc⟩) := ⟨_, rfl⟩
          have ha1 : ∀ w, (Op.stringOp .add (strO T0) (strO (digs kn))).run Tryd.prog w = .ok (.string s1) w := fun w => by rw [hs1]; exact addS _ _ (by omega) (by omega) w
          have ha2 : ∀ w, (Op.stringOp .add s1 ⟨#[32]⟩).run Tryd.prog w = .ok (.string s2) w := fun w => by rw [hs1, hs2]; exact addS _ [32] (by rw [List.length_append]; omega) (by decide) w
          have ha3 : ∀ w, (Op.stringOp .add s2 (strO (digs un))).run Tryd.prog w = .ok (.string s3) w := fun w => by
            rw [hs2, hs3, addS _ _ (by simp only [List.length_append, List.length_singleton]; omega) (by omega)]; simp [rowT1]
          have HS3 := Lib.hid hs3
          clear hs1 hs2 hs3
          have HD := Lib.hid (And.intro hd1 hd2)
          clear oc hd1 hd2
          go_upto_region 9 with fail
          go_cut [6] (fun s wx => s = .string s3 ∧ Below wc.heap.size wc wx)
          case first =>
            have HU1 : Hid (kn < 18446744073709551616) := Lib.hid (by omega)
            have HU2 : Hid (un < 18446744073709551616) := Lib.hid hu64
            go_quiet (first
              | (go_at_call 35; (try rw [hwk]); with_reducible refine Calls.quiet_of_same (Calls.mono (r2digits_calls (kn + 1) kn _ (Nat.lt_succ_self _) HU1.out) (fun _ _ h => ⟨h.1, h.2.symm⟩)))
              | (go_at_call 35; with_reducible refine Calls.quiet_of_same (Calls.mono (r2digits_calls (un + 1) un _ (Nat.lt_succ_self _) HU2.out) (fun _ _ h => ⟨h.1, h.2.symm⟩))))
            go_wp2_with fail
            go_meet
            exact ⟨rfl, hbb.trans (Upd.below (S := None) ((Upd.refl _ _).drewN _) hbb.size (fun _ _ h => h))⟩
          case rest =>
            obtain ⟨rfl, hbx⟩ := hcut
            have O3 := Lib.hid (Oc.out.call hbx)
            clear c0 c1 c2 c3 c4 lb KS hbb ha1 ha2 ha3 Oc hbx
            have h3 := HS3.out
            subst h3
            have HT1 := Lib.hid (show (T0 ++ rowT1 ⟨kn, un, na, nb, nc⟩).length ≤ 12100 by have h1 := HD.out; have h2 := HT0.out; unfold rowT1; simp only [List.length_append, List.length_cons, Int.toNat_natCast]; omega)
            have Hbs := Lib.hid (show textR A.l rows (rows.take (k + 1)) = (T0 ++ rowT1 ⟨kn, un, na, nb, nc⟩) ++ ((kids ⟨kn, un, na, nb, nc⟩).flatMap (partT rows) ++ [59]) by rw [Htk.out]; unfold rowText; simp only [List.append_assoc])
            generalize T0 ++ rowT1 ⟨kn, un, na, nb, nc⟩ = T1 at *
            clear HD HT0 Htk hrl h0 hwk HS3
            have hmI : manyI (kn : Int) = many kn := by unfold manyI; rw [if_neg (by omega)]
            have HmI := Lib.hid hmI
            have hm3 := many_le kn
            clear hmI
            go_wp2_with fail
            go_loopw [6, 9] (fun s i wr => ∃ j : Nat, j ≤ many kn ∧ s = .string (strO (T1 ++ ((kids ⟨kn, un, na, nb, nc⟩).take j).flatMap (partT rows))) ∧ i = .int .i64 j ∧ Own w wr (blk b (rndObj ⟨kn, un, na, nb, nc⟩) :: R2L (.slice (some ⟨gb, gk, none⟩) rows.length cr1) rows [blk BB (refObj A g cap)])) (fun _ i _ => many kn - (intOf i).toNat)
            case atStart => exact ⟨0, by omega, by simp, rfl, O3.out⟩
            case round =>
              clear O3
              obtain ⟨j, hj, rfl, rfl, oj⟩ := hrel
              have Oj := Lib.hid oj
              have Hj := Lib.hid hj
              obtain ⟨c0, c1, c2, c3, c4⟩ := RNdAt.cells (n := ⟨kn, un, na, nb, nc⟩) (oj.blk (i := 0) rfl)
              dsimp only at c0 c1 c2 c3 c4
              have lb := lt_of_heap (oj.blk (i := 0) rfl)
              have hkl : (kids ⟨kn, un, na, nb, nc⟩).length = many kn := kids_length _
              have hfl : (((kids ⟨kn, un, na, nb, nc⟩).take j).flatMap (partT rows)).length ≤ 100 := by
                have h3 : ∀ q : Int, (partT rows q).length ≤ 21 := fun q => by
                  have := digs_len (rows.idxOf q) (by have := List.idxOf_le_length (a := q) (l := rows); omega)
                  simp [partT]; omega
                have h4 : ∀ ks : List Int, (ks.flatMap (partT rows)).length ≤ 21 * ks.length := fun ks => by
                  induction ks with
                  | nil => simp
                  | cons q ks ih => have := h3 q; simp [List.flatMap_cons] at ih ⊢; omega
                have := h4 ((kids ⟨kn, un, na, nb, nc⟩).take j)
                have h5 : ((kids ⟨kn, un, na, nb, nc⟩).take j).length ≤ 3 := by simp; omega
                omega
              have HF := Lib.hid hfl
              clear oj hfl
              by_cases hjl : j < many kn
              · have hq := kid_part (n := ⟨kn, un, na, nb, nc⟩) hjl
                have Hq := Lib.hid hq
                have hqr := List.mem_of_mem_take (Hcl.out _ (List.mem_of_getElem? hq))
                have hij : (j : Int) < (many kn : Int) := by omega
                have hat : Hid (atI rows (Nd.part ⟨kn, un, na, nb, nc⟩ j) = (rows.idxOf (Nd.part ⟨kn, un, na, nb, nc⟩ j) : Nat)) := Lib.hid (by unfold atI; rw [if_pos hqr])
                have hdx : rows.idxOf (Nd.part ⟨kn, un, na, nb, nc⟩ j) < 100 := by have := List.idxOf_le_length (a := Nd.part ⟨kn, un, na, nb, nc⟩ j) (l := rows); omega
                have hT := digs_len (rows.idxOf (Nd.part ⟨kn, un, na, nb, nc⟩ j)) (by omega)
                have Hpt := Lib.hid (show partT rows (Nd.part ⟨kn, un, na, nb, nc⟩ j) = 32 :: digs (rows.idxOf (Nd.part ⟨kn, un, na, nb, nc⟩ j)) from rfl)
                generalize hqe : Nd.part ⟨kn, un, na, nb, nc⟩ j = q at *
                have HQ := Lib.hid hqe
                clear hqe
                generalize rows.idxOf q = dx at *
                have Hnext := Lib.hid (show T1 ++ ((kids ⟨kn, un, na, nb, nc⟩).take (j + 1)).flatMap (partT rows) = ((T1 ++ ((kids ⟨kn, un, na, nb, nc⟩).take j).flatMap (partT rows)) ++ [32]) ++ digs dx by
                  rw [List.take_add_one, Hq.out]; simp [Hpt.out])
                have hl0 : (T1 ++ ((kids ⟨kn, un, na, nb, nc⟩).take j).flatMap (partT rows)).length ≤ 12200 := by have h1 := HT1.out; have h2 := HF.out; rw [List.length_append]; omega
                generalize T1 ++ ((kids ⟨kn, un, na, nb, nc⟩).take j).flatMap (partT rows) = T2 at *
                obtain ⟨s1, hs1⟩ : ∃ s, s = strO (T2 ++ [32]) := ⟨_, rfl⟩
                obtain ⟨s2, hs2⟩ : ∃ s, s = strO ((T2 ++ [32]) ++ digs dx) := ⟨_, rfl⟩
                have ha1 : ∀ w, (Op.stringOp .add (strO T2) ⟨#[32]⟩).run Tryd.prog w = .ok (.string s1) w := fun w => by rw [hs1]; exact addS _ [32] (by omega) (by decide) w
                have ha2 : ∀ w, (Op.stringOp .add s1 (strO (digs dx))).run Tryd.prog w = .ok (.string s2) w := fun w => by rw [hs1, hs2]; exact addS _ _ (by simp only [List.length_append, List.length_singleton]; omega) (by omega) w
                have HS2 := Lib.hid hs2
                clear hs1 hs2
                have hwd : IntKind.u64.wrap (dx : Int) = dx := IntWalk.u64_in _ (by omega)
                have Hjl := Lib.hid hjl
                clear hq hqr hj hjl hkl hT
                go_wp2_with fail
                refine (rMany_calls _ _).mono ?_
                rintro e wp ⟨rfl, rfl⟩
                rw [HmI.out]
                generalize hmk : many kn = m at *
                go_wp2_with fail
                refine (r2part_calls ⟨kn, un, na, nb, nc⟩ j _).mono ?_
                rintro e w4 ⟨rfl, b4⟩
                rw [HQ.out]
                have O4 := Lib.hid (Oj.out.call b4)
                clear b4 c0 c1 c2 c3 c4 lb
                go_wp2_with fail
                refine (r2at_calls (some ⟨gb, gk, none⟩) cr1 rows q w4 (by have := H6.out; omega) (by
                  obtain ⟨A', c', e1, e2, -⟩ := holds_of_owns (O4.out.row (i := 1) rfl)
                  cases e1; exact e2)).mono ?_
                rintro e w5 ⟨rfl, rfl⟩
                rw [hat.out]
                go_wp2_with fail
                refine (r2digits_calls (dx + 1) dx w4 (Nat.lt_succ_self _) (by omega)).mono ?_
                rintro e w6 ⟨rfl, rfl⟩
                go_wp2_with fail
                go_roundw
                case rel => exact ⟨j + 1, by have := Hjl.out; omega, by rw [Hnext.out, HS2.out], by go_num, O4.out⟩
                case measure => have := Hjl.out; simp only [intOf]; omega
              · obtain rfl : j = many kn := by omega
                have hall : (kids ⟨kn, un, na, nb, nc⟩).take (many kn) = kids ⟨kn, un, na, nb, nc⟩ := List.take_of_length_le (by omega)
                rw [hall] at HF ⊢
                have hl0 : (T1 ++ (kids ⟨kn, un, na, nb, nc⟩).flatMap (partT rows)).length ≤ 12200 := by have h1 := HT1.out; have h2 := HF.out; rw [List.length_append]; omega
                rw [← List.append_assoc] at Hbs
                generalize T1 ++ (kids ⟨kn, un, na, nb, nc⟩).flatMap (partT rows) = T2 at *
                have ha1 : ∀ w, (Op.stringOp .add (strO T2) ⟨#[59]⟩).run Tryd.prog w = .ok (.string (strO (T2 ++ [59]))) w := fun w => addS _ [59] (by omega) (by decide) w
                have hk1 := Hlt.out
                clear hall hj hjl hkl HF Hj
                go_wp2_with fail
                refine (rMany_calls _ _).mono ?_
                rintro e wp ⟨rfl, rfl⟩
                rw [HmI.out]
                go_wp2_with fail
                go_roundw
                case rel => exact ⟨k + 1, by omega, by rw [Hbs.out], by go_num, Oj.out.tail⟩
                case measure => simp [intOf]; omega
      · obtain rfl : k = rows.length := by omega
        have hall : rows.take rows.length = rows := List.take_length
        rw [hall, ← Htext.out]
        clear ok hk hlt
        go_wp2_with fail
        go_ret
        exact ⟨rfl, Ok.out.below⟩
end Go.Proofs.YtfelbecofbdeaaaDoor
