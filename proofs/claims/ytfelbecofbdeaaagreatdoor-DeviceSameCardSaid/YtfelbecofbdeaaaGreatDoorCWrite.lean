/- Write of layer 2: a term's text. -/
import Derived.Test.YtfelbecofbdeaaaGreatDoorCRows
import Derived.Test.YtfelbecofbdeaaaGreatDoorTxt
import Derived.Test.YtfelbecofbdeaaaGreatDoorBld
import Derived.Test.YtfelbecofbdeaaaGreatDoorEnv
namespace Go.Proofs.YtfelbecofbdeaaaGreatDoor
open Go.RowKit

def strO (l : List UInt8) : ByteArray := ⟨l.toArray⟩
theorem strCells_str (l : List UInt8) : Lib.strCells (strO l) = Lib.byteCells l := by simp [strO, Lib.strCells, Lib.byteCells]
theorem size_str (l : List UInt8) : (strO l).size = l.length := by simp [strO, ByteArray.size]
theorem itoaS (i : Nat) (hi : i < 100) (w : World) : Calls Tryz.prog 47 #[.int .i64 i] w fun e w' => e = .returned (.string (strO (digs i))) ∧ w = w' := (Sh.strconv_Itoa_small i hi w).mono fun _ _ ⟨h1, h2⟩ => ⟨h1, h2.symm⟩
theorem itoaL (i : Nat) (hi : i < 9223372036854775808) (w : World) (he : Env w) : Calls Tryz.prog 47 #[.int .i64 i] w fun e w' => e = .returned (.string (strO (digs i))) ∧ Below w.heap.size w w' := itoa_calls i hi w he
theorem fmtU (i : Nat) (hi : i < 18446744073709551616) (w : World) (he : Env w) : Calls Tryz.prog 57 #[.int .u64 i, .int .i64 10] w fun e w' => e = .returned (.string (strO (digs i))) ∧ Below w.heap.size w w' := formatUint_calls i hi w he
theorem addS {P : Program} (a b : List UInt8) (ha : a.length ≤ 8388608) (hb : b.length ≤ 8388608) (w : World) : (Op.stringOp .add (strO a) (strO b)).run P w = .ok (.string (strO (a ++ b))) w := run_string_add_lists w a b (by omega) (by omega)
/-- What Write works on. -/
def WL (rows : List Int) (vr : Value) (v p : Value) (bs : List UInt8) (pb bm : Nat) (done : List Int) (M : List Thing) : List Thing :=
  rowT 3 1 vr rows.length (intsV rows) :: rowT 5 1 v bs.length (Lib.byteCells bs) :: blk pb (bldObj p v) :: mapT keyV2 bm (atE done) :: M
def okP (pb : Nat) (p : Value) : Prop := p = .pointer none ∨ p = .pointer (some ⟨pb, 0, none⟩)
def WritePost (s : List UInt8) (w : World) (e : Ending) (w' : World) : Prop := e = .returned (.string (strO s)) ∧ Below w.heap.size w w'
set_option maxHeartbeats 6400000 in
set_option maxRecDepth 100000 in
theorem write_calls {w : World} {r : Nat} {A : Ar} {S : Nat → Prop} (hA : IsArena w r A S) (he : Env w) (x : Int) :
    Calls Tryz.prog 24 #[.pointer (some ⟨r, 0, none⟩), .int .i64 x] w (WritePost (text A.l x) w) := by
  have hmm := @run_makeMap Tryz.prog
  have HA := Lib.hid hA
  have HE := Lib.hid he
  have Hroom := Lib.hid hA.room
  have Hwf := Lib.hid hA.wf
  have Hrefs := Lib.hid (rows_refs hA.wf (Refs.nil A.l) x)
  have Hclosed := Lib.hid (rows_closed hA.wf x)
  have Htext := Lib.hid (show text A.l x = textR A.l (rowsA A.l [] x) (rowsA A.l [] x) from rfl)
  clear hA he
  go_enter Tryz.func24, Tryz.ntmps24
  go_wp2_with fail
  have o0 := (((Own.start w).newMap (enc := keyV2)).alloc (bldObj (.pointer none) (.slice none 0 0))).nilRow 5 1
  simp only [World.size_alloc] at o0
  refine (rows_calls (HA.out.below o0.below) x).mono ?_
  rintro e w1 ⟨vr, rfl, hr1, hb1⟩
  obtain ⟨Ar1, cr1, rfl⟩ := row_slice hr1
  have hlen := Hrefs.out.length
  have hroom := Hroom.out
  have O1 : Hid (Own w w1 (WL (rowsA A.l [] x) (.slice Ar1 (rowsA A.l [] x).length cr1) (.slice none 0 0) (.pointer none) [] (w.heap.size + 1) w.heap.size [] [])) := Lib.hid (o0.newRow hb1 hr1)
  have hl6 : (rowsA A.l [] x).length ≤ 65536 := by omega
  clear o0 hr1 hb1
  generalize hrows : rowsA A.l [] x = rows at *
  clear hrows hlen
  go_wp2_with fail
  go_loopw [18] (fun i wr => ∃ (k : Nat) (v p : Value), k ≤ rows.length ∧ i = .int .i64 k ∧ okP (w.heap.size + 1) p ∧ Own w wr (WL rows (.slice Ar1 rows.length cr1) v p (textR A.l rows (rows.take k)) (w.heap.size + 1) w.heap.size (rows.take k) [])) (fun i _ => rows.length - (intOf i).toNat)
  case atStart => exact ⟨0, .slice none 0 0, .pointer none, by omega, rfl, .inl rfl, O1.out⟩
  case round =>
    clear O1
    obtain ⟨k, v, p, hk, rfl, hp, ok⟩ := hrel
    have Hk := Lib.hid hk
    have Ok := Lib.hid ok
    have HP := Lib.hid hp
    by_cases hlt : k < rows.length
    · obtain ⟨y, hy⟩ : ∃ y, rows[k]? = some y := ⟨_, List.getElem?_eq_getElem hlt⟩
      have Hy := Lib.hid hy
      have hym := List.mem_of_getElem? hy
      have hyh := Hrefs.out.has y hym
      have hik : (k : Int) < rows.length := by omega
      have hrk : rows.length - k = rows.length - k := rfl
      obtain ⟨gb, gk, rfl, hc⟩ : ∃ b o, Ar1 = some ⟨b, o, none⟩ ∧ wr.cell? ⟨b, o + k, none⟩ = some (.int .i64 y) := by
        obtain ⟨A', c', e1, e2, -⟩ := holds_of_owns (ok.row (i := 0) rfl)
        cases e1
        obtain ⟨b, o, e3, e4⟩ := intsV_at e2 hlt
        rw [List.getElem?_eq_getElem hlt] at hy
        exact ⟨b, o, e3, by rw [e4]; exact congrArg (fun z => some (Value.int .i64 z)) (by cases hy; rfl)⟩
      have hyt : y ∉ rows.take k := fun h => by
        obtain ⟨j, hj, e⟩ := List.mem_iff_getElem.1 h
        have hjk : j < k := by simp at hj; omega
        have : rows[j]? = rows[k]? := by rw [hy]; rw [List.getElem?_eq_getElem (by omega)]; rw [List.getElem_take] at e; rw [e]
        have := (List.getElem?_inj (by omega) Hrefs.out.nodup).1 this
        omega
      obtain ⟨w2, r2, m2, u2, s2, -⟩ := update_ok keyOkI Tryz.underlying102 (ok.map (i := 3) rfl) y (.int .i64 (k : Nat))
      have hkl : (rows.take k).length = k := by simp; omega
      have htk : rows.take (k + 1) = rows.take k ++ [y] := by rw [List.take_add_one, hy]; rfl
      have hset : setL y (.int .i64 (k : Nat)) (atE (rows.take k)) = atE (rows.take (k + 1)) := by
        have := setL_atE hyt; rw [hkl] at this; rw [this, htk]
      rw [hset] at m2
      have O2 : Hid (Own w w2 (WL rows (.slice (some ⟨gb, gk, none⟩) rows.length cr1) v p (textR A.l rows (rows.take k)) (w.heap.size + 1) w.heap.size (rows.take (k + 1)) [])) := Lib.hid (ok.mapSet (i := 3) rfl m2 u2)
      have Htk := Lib.hid htk
      have Hyh := Lib.hid hyh
      unfold keyV2 at r2
      clear ok hp hk hy hym m2 u2 s2 hset hkl hyt htk hyh hlt hrk
      go_wp2_with fail
      refine (get_calls y (HA.out.below O2.out.below)).mono ?_
      rintro e w3 ⟨rfl, hb3⟩
      rw [getNd_of_has Hyh.out, Hyh.out]
      have hfit := Hwf.out.fits _ (nd_mem Hyh.out)
      have Hcl := Lib.hid (Hclosed.out k y Hy.out)
      have hrl := rowText_len Hwf.out hl6 Hyh.out
      generalize hnx : nd A.l y = nx at *
      have Hnx := Lib.hid hnx
      clear hnx
      obtain ⟨K, NN, na, nb, nc⟩ := nx
      dsimp only at hfit
      obtain ⟨kn, rfl⟩ : ∃ kn : Nat, K = kn := ⟨K.toNat, by omega⟩
      obtain ⟨un, rfl⟩ : ∃ un : Nat, NN = un := ⟨NN.toNat, by omega⟩
      have hk100 : kn < 100 := by omega
      have hu64 : un < 18446744073709551616 := by omega
      have o3 := (O2.out.call hb3).alloc (ndObj ⟨kn, un, na, nb, nc⟩)
      have O3 := Lib.hid o3
      obtain ⟨d0, d1, d2, d3, d4⟩ := NdAt.cells (n := ⟨kn, un, na, nb, nc⟩) (o3.blk (i := 0) rfl)
      clear O2 hb3 r2 hc
      simp only [Nd.val]
      go_wp2_with fail
      generalize hW : w3.alloc (.cells #[.int .i64 (kn : Int), .int .u64 (un : Int), .int .i64 na, .int .i64 nb, .int .i64 nc] 61) = W at *
      have OW : Hid (Own w W (blk w3.heap.size (ndObj ⟨kn, un, na, nb, nc⟩) :: WL rows (.slice (some ⟨gb, gk, none⟩) rows.length cr1) v p (textR A.l rows (rows.take k)) (w.heap.size + 1) w.heap.size (rows.take (k + 1)) [])) := Lib.hid (by rw [← hW]; exact O3.out)
      clear O3 hW
      have KS := Lib.hid (show ∀ w', Below W.heap.size W w' → (Below W.heap.size W w' ∧ w'.cell? ⟨w3.heap.size, 0, none⟩ = some (.int .i64 kn) ∧ w'.cell? ⟨w3.heap.size, 1, none⟩ = some (.int .u64 un)) from fun w' h => by
        obtain ⟨t0, t1, t2, t3, t4⟩ := NdAt.cells (n := ⟨kn, un, na, nb, nc⟩) ((OW.out.call h).blk (i := 0) rfl)
        exact ⟨h, t0, t1⟩)
      have hbb : Below W.heap.size W W := Below.refl _ _
      have l1 := digs_len kn (by omega)
      have l2 := digs_len un hu64
      have HEW := Lib.hid ((HE.out.below OW.out.below))
      obtain ⟨s1, hs1⟩ : ∃ s, s = strO (digs kn ++ [32]) := ⟨_, rfl⟩
      obtain ⟨s2, hs2⟩ : ∃ s, s = strO (rowT1 ⟨kn, un, na, nb, nc⟩) := ⟨_, rfl⟩
      have ha1 : ∀ w, (Op.stringOp .add (strO (digs kn)) ⟨#[32]⟩).run Tryz.prog w = .ok (.string s1) w := fun w => by rw [hs1]; exact addS _ [32] (by omega) (by decide) w
      have ha2 : ∀ w, (Op.stringOp .add s1 (strO (digs un))).run Tryz.prog w = .ok (.string s2) w := fun w => by
        rw [hs1, hs2, addS _ _ (by simp; omega) (by omega)]; simp [rowT1]
      have hsz2 : s2.size ≤ 60 := by rw [hs2, size_str]; simp [rowT1]; omega
      have HS2 := Lib.hid hs2
      clear hs1 hs2
      have hbl := textR_len Hwf.out hl6 (rows.take k) (fun z hz => Hrefs.out.has z (List.mem_of_mem_take hz))
      have hbk : (rows.take k).length ≤ 65536 := by simp; omega
      have HP2 := Lib.hid (show (textR A.l rows (rows.take k)).length + s2.size ≤ 140737488355328 by omega)
      clear hbl hbk hsz2
      go_region_held3 (fun w' => w'.cell? ⟨w3.heap.size, 0, none⟩ = some (.int .i64 (kn : Int)) ∧ w'.cell? ⟨w3.heap.size, 1, none⟩ = some (.int .u64 (un : Int)))
        (first | exact And.intro t60 t61 | exact (KS.out _ (by repeat (first | with_reducible assumption | with_reducible refine Below.drew ?_ | with_reducible refine belowAlloc ?_ _))).2)
        (first
          | (go_at_call 47; refine (itoaS kn hk100 _).mono ?_; rintro e w' ⟨rfl, rfl⟩)
          | (go_at_call 57; refine (fmtU un hu64 _ (HEW.out.below (by repeat (first | with_reducible assumption | with_reducible refine Below.drew ?_ | with_reducible refine belowAlloc ?_ _)))).mono ?_; rintro e wf ⟨rfl, hbf⟩
             have hxf : Below W.heap.size W wf := below_call (by repeat (first | with_reducible assumption | with_reducible refine Below.drew ?_ | with_reducible refine belowAlloc ?_ _)) hbf)
          | (go_at_call 56; refine (bWrite_own (OW.out.call (by repeat (first | with_reducible assumption | with_reducible refine Below.drew ?_ | with_reducible refine belowAlloc ?_ _))) 3 2 (by decide) rfl rfl HP.out s2 HP2.out).mono ?_; rintro e w6 ⟨v6, rfl, o6⟩
             have O6 := Lib.hid o6
             obtain ⟨t60, t61, t62, t63, t64⟩ := NdAt.cells (n := ⟨kn, un, na, nb, nc⟩) (o6.blk (i := 0) rfl)
             dsimp only at t60 t61 t62 t63 t64
             clear o6))
      have hbs : (textR A.l rows (rows.take k)).length + s2.size = (textR A.l rows (rows.take k) ++ rowT1 ⟨kn, un, na, nb, nc⟩).length := by rw [HS2.out, size_str, List.length_append]
      have hbc : Lib.byteCells (textR A.l rows (rows.take k)) ++ Lib.strCells s2 = Lib.byteCells (textR A.l rows (rows.take k) ++ rowT1 ⟨kn, un, na, nb, nc⟩) := by rw [HS2.out, strCells_str, Lib.byteCells_append]
      have o7 := O6.out
      rw [hbs, hbc] at o7
      have O7 : Hid (Own w w6 (blk w3.heap.size (ndObj ⟨kn, un, na, nb, nc⟩) :: WL rows (.slice (some ⟨gb, gk, none⟩) rows.length cr1) v6 (.pointer (some ⟨w.heap.size + 1, 0, none⟩)) (textR A.l rows (rows.take k) ++ rowT1 ⟨kn, un, na, nb, nc⟩) (w.heap.size + 1) w.heap.size (rows.take (k + 1)) [])) := Lib.hid o7
      have hl7 : (textR A.l rows (rows.take k) ++ rowT1 ⟨kn, un, na, nb, nc⟩).length ≤ 200 * 65536 + 60 := by
        have h1 := textR_len Hwf.out hl6 (rows.take k) (fun z hz => Hrefs.out.has z (List.mem_of_mem_take hz))
        have hbk : (rows.take k).length ≤ 65536 := by simp; omega
        have : (rowT1 ⟨kn, un, na, nb, nc⟩).length ≤ 60 := by simp [rowT1]; omega
        rw [List.length_append]; omega
      have Hbs1 := Lib.hid (show textR A.l rows (rows.take (k + 1)) = (textR A.l rows (rows.take k) ++ rowT1 ⟨kn, un, na, nb, nc⟩) ++ ((kids ⟨kn, un, na, nb, nc⟩).flatMap (partT rows) ++ [59]) by
        rw [Htk.out]
        unfold textR
        rw [List.flatMap_append, List.flatMap_cons, List.flatMap_nil, List.append_nil, Hnx.out]
        unfold rowText
        simp only [List.append_assoc])
      generalize textR A.l rows (rows.take k) ++ rowT1 ⟨kn, un, na, nb, nc⟩ = bs1 at *
      clear o7 hbs hbc O6 OW KS hbb HEW ha1 ha2 HS2 HP2 hbf hxf l1 l2 hrl o3 d0 d1 d2 d3 d4
      go_wp2_with fail
      refine (made_calls ⟨kn, un, na, nb, nc⟩ (by show (0 : Int) ≤ kn; omega) (by show (kn : Int) ≤ 9; omega) w6).mono ?_
      rintro e w8 ⟨b, rfl, hb, hbk, hb8⟩
      have O8 : Hid (Own w w8 (WL rows (.slice (some ⟨gb, gk, none⟩) rows.length cr1) v6 (.pointer (some ⟨w.heap.size + 1, 0, none⟩)) bs1 (w.heap.size + 1) w.heap.size (rows.take (k + 1)) [blk b (threeO ⟨kn, un, na, nb, nc⟩)])) := Lib.hid
        (((O7.out.tail).new hb8 (Q := blk b (threeO ⟨kn, un, na, nb, nc⟩)) (S := One b) ⟨hbk, fun _ => Iff.rfl⟩ (fun k hk => by unfold One at hk; omega)).pick [1, 2, 3, 4, 0] rfl)
      have hm3 := many_le kn
      clear O7 hb hbk hb8 t60 t61 t62 t63 t64
      go_wp2_with fail
      go_loopw [44] (fun i wr => ∃ (j : Nat) (v p : Value), j ≤ many kn ∧ i = .int .i64 j ∧ okP (w.heap.size + 1) p ∧ Own w wr (WL rows (.slice (some ⟨gb, gk, none⟩) rows.length cr1) v p (bs1 ++ ((kids ⟨kn, un, na, nb, nc⟩).take j).flatMap (partT rows)) (w.heap.size + 1) w.heap.size (rows.take (k + 1)) [blk b (threeO ⟨kn, un, na, nb, nc⟩)])) (fun i _ => many kn - (intOf i).toNat)
      case atStart => exact ⟨0, v6, _, by omega, rfl, .inr rfl, by simpa using O8.out⟩
      case round =>
        clear O8
        obtain ⟨j, v9, p9, hj, rfl, hp9, o9⟩ := hrel
        have HP9 := Lib.hid hp9
        have O9 := Lib.hid o9
        have Hj := Lib.hid hj
        clear hp9
        have hkl : (kids ⟨kn, un, na, nb, nc⟩).length = many kn := kids_length _
        have hfl : (((kids ⟨kn, un, na, nb, nc⟩).take j).flatMap (partT rows)).length ≤ 100 := by
          have h3 : ∀ q : Int, (partT rows q).length ≤ 21 := fun q => by
            have := digs_len (rows.idxOf q) (by have := List.idxOf_le_length (a := q) (l := rows); omega)
            simp [partT]; omega
          have h4 : ∀ ks : List Int, (ks.flatMap (partT rows)).length ≤ 21 * ks.length := fun ks => by
            induction ks with
            | nil => simp
            | cons q ks ih => have := h3 q; simp [List.flatMap_cons] at ih ⊢; omega
          have := h4 ((kids ⟨kn, un, na, nb, nc⟩).take j)
          have h5 : ((kids ⟨kn, un, na, nb, nc⟩).take j).length ≤ 3 := by simp; omega
          omega
        by_cases hjl : j < many kn
        · obtain ⟨q, hq, hc⟩ := three_at (n := ⟨kn, un, na, nb, nc⟩) (o9.blk (i := 4) rfl) hjl
          have Hq := Lib.hid hq
          have hqr := Hcl.out q (List.mem_of_getElem? hq)
          have hqt : q ∈ rows.take (k + 1) := by rw [Htk.out]; exact List.mem_append_left _ hqr
          have hix : (rows.take (k + 1)).idxOf q = rows.idxOf q := idxOf_take hqt
          obtain ⟨iE, hE, hz, -, -⟩ := info_parts einfo_int'
          have hlk := lookup_plain keyOkI Tryz.underlying102 hE hz (o9.map (i := 3) rfl) q
          rw [findL_atE hqt, hix] at hlk
          unfold keyV2 at hlk
          have hdx : rows.idxOf q < 65537 := by have := List.idxOf_le_length (a := q) (l := rows); omega
          have hij : (j : Int) < (many kn : Int) := by omega
          have hT := digs_len (rows.idxOf q) (by omega)
          have Hpt := Lib.hid (show partT rows q = 32 :: digs (rows.idxOf q) from rfl)
          generalize rows.idxOf q = dx at *
          obtain ⟨s3, hs3⟩ : ∃ s, s = strO (partT rows q) := ⟨_, rfl⟩
          have ha3 : ∀ w, (Op.stringOp .add ⟨#[32]⟩ (strO (digs dx))).run Tryz.prog w = .ok (.string s3) w := fun w => by
            rw [hs3, Hpt.out]; exact addS [32] _ (by decide) (by omega) w
          have hsz3 : s3.size ≤ 21 := by rw [hs3, size_str, Hpt.out]; simp; omega
          have HS3 := Lib.hid hs3
          have HN := Lib.hid (show (bs1 ++ ((kids ⟨kn, un, na, nb, nc⟩).take j).flatMap (partT rows)).length + s3.size ≤ 140737488355328 by rw [List.length_append]; omega)
          have HEW := Lib.hid (HE.out.below o9.below)
          clear hE hz hq hqr hqt hix hs3 hsz3 hT hkl hfl hj hjl o9
          generalize many kn = m at *
          go_wp2_with fail
          refine (itoaL dx (by omega) _ HEW.out).mono ?_
          rintro e w10 ⟨rfl, hb10⟩
          have O10 := Lib.hid (O9.out.call hb10)
          clear hb10 hlk hc
          go_wp2_with fail
          refine (bWrite_own O10.out 2 1 (by decide) rfl rfl HP9.out s3 HN.out).mono ?_
          rintro e w11 ⟨v11, rfl, o11⟩
          have hl11 : (bs1 ++ ((kids ⟨kn, un, na, nb, nc⟩).take j).flatMap (partT rows)).length + s3.size = (bs1 ++ ((kids ⟨kn, un, na, nb, nc⟩).take (j + 1)).flatMap (partT rows)).length := by
            rw [List.take_add_one, Hq.out, HS3.out, size_str]; simp; omega
          have hc11 : Lib.byteCells (bs1 ++ ((kids ⟨kn, un, na, nb, nc⟩).take j).flatMap (partT rows)) ++ Lib.strCells s3 = Lib.byteCells (bs1 ++ ((kids ⟨kn, un, na, nb, nc⟩).take (j + 1)).flatMap (partT rows)) := by
            rw [List.take_add_one, Hq.out, HS3.out, strCells_str, ← Lib.byteCells_append]; simp
          rw [hl11, hc11] at o11
          have O11 := Lib.hid o11
          clear o11 hl11 hc11
          go_wp2_with fail
          go_roundw
          case rel => exact ⟨j + 1, v11, _, by omega, by go_num, .inr rfl, O11.out⟩
          case measure => simp [intOf]; omega
        · obtain rfl : j = many kn := by omega
          have hall : (kids ⟨kn, un, na, nb, nc⟩).take (many kn) = kids ⟨kn, un, na, nb, nc⟩ := List.take_of_length_le (by omega)
          rw [hall] at hfl O9
          have HN := Lib.hid (show (bs1 ++ (kids ⟨kn, un, na, nb, nc⟩).flatMap (partT rows)).length + (⟨#[59]⟩ : ByteArray).size ≤ 140737488355328 by rw [List.length_append]; show _ + 1 ≤ _; omega)
          clear o9 hkl hfl hall hj Hj hjl
          go_wp2_with fail
          refine (bWrite_own O9.out 2 1 (by decide) rfl rfl HP9.out ⟨#[59]⟩ HN.out).mono ?_
          rintro e w11 ⟨v11, rfl, o11⟩
          have hl11 : (bs1 ++ (kids ⟨kn, un, na, nb, nc⟩).flatMap (partT rows)).length + (⟨#[59]⟩ : ByteArray).size = (textR A.l rows (rows.take (k + 1))).length := by
            rw [Hbs1.out]; simp [ByteArray.size]; omega
          have hc11 : Lib.byteCells (bs1 ++ (kids ⟨kn, un, na, nb, nc⟩).flatMap (partT rows)) ++ Lib.strCells ⟨#[59]⟩ = Lib.byteCells (textR A.l rows (rows.take (k + 1))) := by
            rw [Hbs1.out, ← List.append_assoc, Lib.byteCells_append (_ ++ _)]; rfl
          rw [hl11, hc11] at o11
          have O11 : Hid (Own w w11 (WL rows (.slice (some ⟨gb, gk, none⟩) rows.length cr1) v11 (.pointer (some ⟨w.heap.size + 1, 0, none⟩)) (textR A.l rows (rows.take (k + 1))) (w.heap.size + 1) w.heap.size (rows.take (k + 1)) [])) := Lib.hid (Own.pick o11 [0, 1, 2, 3] rfl)
          clear o11 hl11 hc11
          go_wp2_with fail
          go_roundw
          case rel => exact ⟨k + 1, v11, _, by omega, by go_num, .inr rfl, O11.out⟩
          case measure => simp [intOf]; omega
    · obtain rfl : k = rows.length := by omega
      have hall : rows.take rows.length = rows := List.take_length
      rw [hall, ← Htext.out] at Ok
      clear ok hp hk hall Hk hlt
      have hbld : Lib.IsBuilder 106 5 w.heap.size (w.heap.size + 1) (Lib.byteCells (text A.l x)) wr := by
        have h1 : Lib.BuilderAt 106 5 w.heap.size (w.heap.size + 1) p (Lib.byteCells (text A.l x)) wr := by
          refine ⟨by omega, v, Ok.out.blk (i := 2) rfl, by have := Ok.out.rowBase (i := 1) rfl; rw [Lib.byteCells_length]; exact this, ?_⟩
          exact Lib.ownBlock_ne (Ok.out.row (i := 1) rfl) (Ok.out.blk (i := 2) rfl) (by decide)
        rcases HP.out with rfl | rfl
        · exact .inl h1
        · exact .inr h1
      have Hbld := Lib.hid hbld
      have hle := Lib.hid Ok.out.size
      clear hbld hl6 Htext
      generalize text A.l x = T at *
      go_wp2_with fail
      refine (Sh.Builder_String_any w.heap.size (w.heap.size + 1) T _ Hbld.out hle.out).mono ?_
      rintro e w12 ⟨rfl, hb12⟩
      go_wp2_with fail
      go_ret
      exact ⟨rfl, Ok.out.below.trans hb12⟩
end Go.Proofs.YtfelbecofbdeaaaGreatDoor
