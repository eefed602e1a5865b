/- CodeRows answers true. -/
import Derived.Test.YtfelbecofbdeaaaDoorCApartW
namespace Go.Proofs.YtfelbecofbdeaaaDoor
open Go.RowKit

def at1 (ys : List Int) : List (Int × Value) := (ys.zipIdx 1).map fun p => (p.1, Value.int .i64 p.2)
theorem findL_at1 {x : Int} {ys : List Int} (h : x ∈ ys) : ((findL x (at1 ys) 0).map (·.2)).getD (.int .i64 0) = .int .i64 (1 + ys.idxOf x : Nat) := by
  unfold at1; rw [findL_zip x ys 1 0 h]; simp
theorem findL_at1_none {x : Int} {ys : List Int} (h : x ∉ ys) : findL x (at1 ys) 0 = none := by
  rw [findL_none]; intro p hp e
  simp only [at1, List.mem_map] at hp
  obtain ⟨q, hq, rfl⟩ := hp
  have := List.fst_mem_of_mem_zipIdx hq
  exact h (e ▸ this)
theorem setL_at1 {x : Int} {ys : List Int} (h : x ∉ ys) : setL x (.int .i64 ((ys.length : Int) + 1)) (at1 ys) = at1 (ys ++ [x]) := by
  unfold setL
  rw [findL_at1_none h]
  simp [at1, List.zipIdx_append]; omega
def RwL (rows done : List Int) (vr : Value) (bm r : Nat) (A : Ar) : List Thing := [rowT 3 1 vr rows.length (intsV rows), mapT keyV2 bm (at1 done), arena r A]
set_option maxHeartbeats 6400000 in
set_option maxRecDepth 100000 in
theorem rowsl_walk (Ax : Option Addr) (cx : Nat) (xs : List Nd) (x : Int) (w : World) (hx : Holds w Ax (xs.flatMap Nd.cells)) (hmx : xs.length ≤ maxLen) (hu : ∀ x ∈ xs, x.u64) (he : Env w) :
    Calls Tryd.prog 6 #[.slice Ax xs.length cx, .int .i64 x] w fun e w' => e = .returned (.bool true) ∧ Below w.heap.size w w' := by
  have hmm := @run_makeMap Tryd.prog
  have Hx := Lib.hid hx
  have Hu := Lib.hid hu
  have HE := Lib.hid he
  clear hx hu he
  have hmx2 : xs.length ≤ 9223372036854775807 := by unfold maxLen at hmx; omega
  by_cases hbad : 40 < xs.length
  · have d1 : decide (40 < xs.length) = true := decide_eq_true hbad
    have d2 : decide ((40 : Int) < (xs.length : Int)) = true := decide_eq_true (by omega)
    clear hbad
    go_enter Tryd.func6, Tryd.ntmps6
    go_wp2_with fail
    refine (awake _ HE.out).mono ?_
    rintro e w9 ⟨rfl, b9⟩
    go_wp2_with fail
    go_ret
    exact ⟨rfl, b9⟩
  · have d1 : decide (40 < xs.length) = false := decide_eq_false hbad
    have d2 : decide ((40 : Int) < (xs.length : Int)) = false := decide_eq_false (by omega)
    have hl : xs.length ≤ 40 := by omega
    clear hbad
    go_enter Tryd.func6, Tryd.ntmps6
    go_wp2_with fail
    refine (built_calls w 100 Ax cx xs Hx.out (by omega) Hu.out).mono ?_
    rintro e w1 ⟨r, g, cap, rfl, o1⟩
    have O1 : Hid (Own w w1 [arena r (bA 100 xs)]) := Lib.hid o1.tail
    obtain ⟨S, hA⟩ := O1.out.arena (i := 0) rfl
    have Hw := Lib.hid hA.wf
    clear o1 hA
    generalize bA 100 xs = A at *
    simp only [refV]
    go_wp2_with fail
    have oa := O1.out.call (below2 w1 (.cells #[.int .i64 A.limit, .slice (some ⟨g, 0, none⟩) A.l.length cap] 27) (.cells #[.int .i64 x] 3))
    obtain ⟨S, hA⟩ := oa.arena (i := 0) rfl
    have hnew := two_new w1 (.cells #[.int .i64 A.limit, .slice (some ⟨g, 0, none⟩) A.l.length cap] 27) (.cells #[.int .i64 x] 3)
    refine (has_one (x := x) hA (cell_of_heap hnew.2)).mono ?_
    rintro e w2 ⟨rfl, b2⟩
    have O2 : Hid (Own w w2 [arena r A]) := Lib.hid (oa.call b2)
    clear oa hA hnew b2 O1
    cases hhas : has A.l x with
    | false =>
      have Hz := Lib.hid (rows_none Hw.out hhas)
      go_wp2_with fail
      refine (rows_own O2.out 0 rfl x).mono ?_
      rintro e w3 ⟨v, rfl, o3⟩
      rw [Hz.out] at o3
      obtain ⟨Av, cv, rfl⟩ := row_form' (o3.row (i := 0) rfl)
      have O3 := Lib.hid o3
      clear o3
      simp only [List.length_nil]
      go_wp2_with fail
      refine (awake _ (HE.out.below O3.out.below)).mono ?_
      rintro e w9 ⟨rfl, b9⟩
      go_wp2_with fail
      go_ret
      exact ⟨rfl, (O3.out.call b9).below⟩
    | true =>
      have Hrefs := Lib.hid (rows_refs Hw.out (Refs.nil A.l) x)
      have Hclosed := Lib.hid (rows_closed Hw.out x)
      have Hlast := Lib.hid (rows_last Hw.out hhas)
      clear hhas
      go_wp2_with fail
      refine (rows_own O2.out 0 rfl x).mono ?_
      rintro e w3 ⟨v, rfl, o3⟩
      obtain ⟨Ar1, cr1, rfl⟩ := row_form' (o3.row (i := 0) rfl)
      generalize hrows : rowsA A.l [] x = rows at *
      clear hrows
      have O3 : Hid (Own w _ (RwL rows [] (.slice Ar1 rows.length cr1) w3.heap.size r A)) := Lib.hid ((o3.newMap (enc := keyV2)).pick [1, 0, 2] rfl)
      clear o3 O2
      have hlen := Hrefs.out.length
      obtain ⟨S, hA⟩ := O3.out.arena (i := 2) rfl
      have hroom := hA.room
      have hl6 : rows.length ≤ 65536 := by omega
      clear hA hroom hlen
      go_wp2_with fail
      generalize w3.heap.size = bm at *
      go_loopw [49] (fun i wr => ∃ k : Nat, k ≤ rows.length ∧ i = .int .i64 k ∧ Own w wr (RwL rows (rows.take k) (.slice Ar1 rows.length cr1) bm r A)) (fun i _ => rows.length - (intOf i).toNat)
      case atStart => exact ⟨0, by omega, rfl, by simpa using O3.out⟩
      case round =>
        clear O3
        obtain ⟨k, hk, rfl, ok⟩ := hrel
        have Hk := Lib.hid hk
        have Ok := Lib.hid ok
        by_cases hlt : k < rows.length
        · obtain ⟨y, hy⟩ : ∃ y, rows[k]? = some y := ⟨_, List.getElem?_eq_getElem hlt⟩
          have Hy := Lib.hid hy
          have hym := List.mem_of_getElem? hy
          have hyh := Hrefs.out.has y hym
          have hik : (k : Int) < rows.length := by omega
          obtain ⟨gb, gk, rfl, hc⟩ : ∃ b o, Ar1 = some ⟨b, o, none⟩ ∧ wr.cell? ⟨b, o + k, none⟩ = some (.int .i64 y) := by
            obtain ⟨A', c', e1, e2, -⟩ := holds_of_owns (ok.row (i := 0) rfl)
            cases e1
            obtain ⟨b, o, e3, e4⟩ := intsV_at e2 hlt
            rw [List.getElem?_eq_getElem hlt] at hy
            exact ⟨b, o, e3, by rw [e4]; exact congrArg (fun z => some (Value.int .i64 z)) (by cases hy; rfl)⟩
          have hyt : y ∉ rows.take k := fun h => by
            obtain ⟨j, hj, e⟩ := List.mem_iff_getElem.1 h
            have hjk : j < k := by simp at hj; omega
            have : rows[j]? = rows[k]? := by rw [hy]; rw [List.getElem?_eq_getElem (by omega)]; rw [List.getElem_take] at e; rw [e]
            have := (List.getElem?_inj (by omega) Hrefs.out.nodup).1 this
            omega
          obtain ⟨iE, hE, hz, -, -⟩ := info_parts einfo_int'
          have hlk := lookup_ok keyOkI Tryd.underlying44 hE hz (ok.map (i := 1) rfl) y
          rw [findL_at1_none hyt] at hlk
          simp only [Option.map_none, Option.getD_none, Option.isSome_none] at hlk
          obtain ⟨w2, r2, m2, u2, s2, -⟩ := update_ok keyOkI Tryd.underlying44 (ok.map (i := 1) rfl) y (.int .i64 ((k : Int) + 1))
          have hkl : (rows.take k).length = k := by simp; omega
          have htk : rows.take (k + 1) = rows.take k ++ [y] := by rw [List.take_add_one, hy]; rfl
          have hset : setL y (.int .i64 ((k : Int) + 1)) (at1 (rows.take k)) = at1 (rows.take (k + 1)) := by
            have := setL_at1 hyt; rw [hkl] at this; rw [this, htk]
          rw [hset] at m2
          have O2 : Hid (Own w w2 (RwL rows (rows.take (k + 1)) (.slice (some ⟨gb, gk, none⟩) rows.length cr1) bm r A)) := Lib.hid (ok.mapSet (i := 1) rfl m2 u2)
          have Htk := Lib.hid htk
          have Hyh := Lib.hid hyh
          unfold keyV2 at r2 hlk
          clear ok hk hy hym m2 u2 s2 hset hkl hyt htk hyh hlt hE hz Ok
          go_wp2_with fail
          refine (get_own O2.out 2 rfl y).mono ?_
          rintro e w4 ⟨rfl, o4⟩
          rw [getNd_of_has Hyh.out, Hyh.out]
          have hfit := Hw.out.fits _ (nd_mem Hyh.out)
          have Hcl := Lib.hid (Hclosed.out k y Hy.out)
          generalize nd A.l y = nx at *
          have hm := many_le nx.kind
          have hmi : manyI nx.kind = many nx.kind := by unfold manyI; rw [if_neg (by omega)]
          have hm3 : (many nx.kind : Int) ≤ 3 := by omega
          have hm0 : (0 : Int) ≤ (many nx.kind : Int) := by omega
          have O4 := Lib.hid (o4.alloc (ndObj nx))
          clear o4 O2 hfit r2 hlk hc
          simp only [Nd.val]
          go_upto_region 18 with fail
          generalize hW : w4.alloc (.cells #[.int .i64 nx.kind, .int .u64 nx.n, .int .i64 nx.a, .int .i64 nx.b, .int .i64 nx.c] 48) = W at *
          have O5 : Hid (Own w W (blk w4.heap.size (ndObj nx) :: RwL rows (rows.take (k + 1)) (.slice (some ⟨gb, gk, none⟩) rows.length cr1) bm r A)) := Lib.hid (by rw [← hW]; exact O4.out)
          clear hW O4
          generalize w4.heap.size = B at *
          have nb : NdAt W B nx := O5.out.blk (i := 0) rfl
          obtain ⟨c0, c1, c2, c3, c4⟩ := nb.cells
          have lb := lt_of_heap nb
          have hsl := O5.out.size
          have KS := Lib.hid (show ∀ w', Below W.heap.size W w' → (Below W.heap.size W w' ∧ w'.cell? ⟨B, 0, none⟩ = some (.int .i64 nx.kind) ∧ w'.cell? ⟨B, 2, none⟩ = some (.int .i64 nx.a) ∧ w'.cell? ⟨B, 3, none⟩ = some (.int .i64 nx.b) ∧ w'.cell? ⟨B, 4, none⟩ = some (.int .i64 nx.c)) from fun w' h => by
            obtain ⟨t0, t1, t2, t3, t4⟩ := (nb.below h).cells
            exact ⟨h, t0, t2, t3, t4⟩)
          have hbb : Below W.heap.size W W := Below.refl _ _
          clear nb c1
          go_cut [82, 83, 84] (fun s t i wx => ∃ b, s = .slice (some ⟨b, 0, none⟩) (many nx.kind) 3 ∧ t = .int .i64 (many nx.kind) ∧ i = .int .i64 0 ∧ Own w wx (blk b (threeO nx) :: RwL rows (rows.take (k + 1)) (.slice (some ⟨gb, gk, none⟩) rows.length cr1) bm r A))
          case first =>
            have hW0 : W.heap.size ≤ W.heap.size := Nat.le_refl _
            go_region_held3 (fun w' => Below W.heap.size W w' ∧ w'.cell? ⟨B, 0, none⟩ = some (.int .i64 nx.kind) ∧ w'.cell? ⟨B, 2, none⟩ = some (.int .i64 nx.a) ∧ w'.cell? ⟨B, 3, none⟩ = some (.int .i64 nx.b) ∧ w'.cell? ⟨B, 4, none⟩ = some (.int .i64 nx.c))
              (first | exact KS.out _ (by repeat (first | with_reducible assumption | with_reducible refine Below.drew ?_ | with_reducible refine belowAlloc ?_ _)))
              (first | (go_at_call 20; refine (rMany_calls _ _).mono ?_; rintro e wp ⟨rfl, rfl⟩; rw [hmi]))
            all_goals go_wp2_with fail
            all_goals go_meet
            all_goals refine ⟨_, rfl, rfl, rfl, ?_⟩
            all_goals exact (O5.out.tail.alloc (threeO nx)).drew
          case rest =>
            obtain ⟨b, rfl, rfl, rfl, o6⟩ := hcut
            have O6 := Lib.hid o6
            clear c0 c2 c3 c4 lb hbb O5 KS o6 hsl
            go_wp2_with fail
            go_loopw [84] (fun i wr => ∃ j : Nat, j ≤ many nx.kind ∧ i = .int .i64 j ∧ Own w wr (blk b (threeO nx) :: RwL rows (rows.take (k + 1)) (.slice (some ⟨gb, gk, none⟩) rows.length cr1) bm r A)) (fun i _ => many nx.kind - (intOf i).toNat)
            case atStart => exact ⟨0, by omega, rfl, O6.out⟩
            case round =>
              clear O6
              obtain ⟨j, hj, rfl, oj⟩ := hrel
              have Oj := Lib.hid oj
              by_cases hjt : j < many nx.kind
              · obtain ⟨p, hp, hc⟩ := three_at (oj.blk (i := 0) rfl) hjt
                have hpt : p ∈ rows.take (k + 1) := by rw [Htk.out]; exact List.mem_append_left _ (Hcl.out p (List.mem_of_getElem? hp))
                obtain ⟨iE, hE, hz, -, -⟩ := info_parts einfo_int'
                have hlk := lookup_plain keyOkI Tryd.underlying44 hE hz (oj.map (i := 2) rfl) p
                rw [findL_at1 hpt] at hlk
                unfold keyV2 at hlk
                generalize (rows.take (k + 1)).idxOf p = q at *
                have hq0 : (((1 + q : Nat) : Int) == 0) = false := by simp; omega
                have hij : (j : Int) < (many nx.kind : Int) := by omega
                generalize (((1 + q : Nat)) : Int) = Q at *
                clear oj hE hz hp hj hjt hpt
                generalize many nx.kind = m at *
                go_wp2_with fail
                refine ⟨⟨j + 1, by omega, by go_num, Oj.out⟩, ?_⟩
                simp [intOf]; omega
              · obtain rfl : j = many nx.kind := by omega
                have hkk := Hk.out
                clear oj hj hjt
                go_wp2_with fail
                go_roundw
                case rel => exact ⟨k + 1, by omega, by go_num, Oj.out.tail⟩
                case measure => simp [intOf]; omega
        · obtain rfl : k = rows.length := by omega
          obtain ⟨t, ht⟩ := Hlast.out
          have hrl : rows.length - 1 = t.length := by rw [ht]; simp
          have hr1 : 1 ≤ rows.length := by rw [ht]; simp
          have hat : rows[rows.length - 1]? = some x := by rw [hrl, ht]; simp
          obtain ⟨bh, oh, rfl, hc⟩ : ∃ b o, Ar1 = some ⟨b, o, none⟩ ∧ wr.cell? ⟨b, o + (rows.length - 1), none⟩ = some (.int .i64 x) := by
            obtain ⟨A2, c2, e1, e2, -⟩ := holds_of_owns (ok.row (i := 0) rfl)
            cases e1
            obtain ⟨b, o, e3, e4⟩ := intsV_at e2 (k := rows.length - 1) (by omega)
            refine ⟨b, o, e3, ?_⟩
            rw [List.getElem?_eq_getElem (by omega)] at hat
            cases hat; exact e4
          have d5 : decide ((0 : Int) < (rows.length : Int)) = true := decide_eq_true (by omega)
          have d6 : decide (0 < rows.length) = true := decide_eq_true (by omega)
          have l0 : (0 : Int) ≤ (rows.length : Int) - 1 := by omega
          have l1 : ((rows.length : Int) - 1) < (rows.length : Int) := by omega
          have l2 : ((rows.length : Int) - 1).toNat = rows.length - 1 := by omega
          clear hrl ht hat hk hlt ok Hk Hlast Hclosed Hrefs
          generalize rows.length = H at *
          go_wp2_with fail
          refine (awake _ (HE.out.below Ok.out.below)).mono ?_
          rintro e w9 ⟨rfl, b9⟩
          go_wp2_with fail
          go_ret
          exact ⟨rfl, (Ok.out.call b9).below⟩
end Go.Proofs.YtfelbecofbdeaaaDoor
