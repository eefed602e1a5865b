/- Packed by packn.py: Bas4, Awake13, NNW. -/
import Derived.Test.YtikimmgileffgaaGreatDoorQk27
import Derived.Test.YtikimmgileffgaaGreatDoorQk17
import Derived.Deep.DeepCutAuto
import Derived.Deep.RegionHeld3
import Derived.Deep.AppendLies
import Derived.Test.YtikimmgileffgaaGreatDoorQk15
/- The base patterns (layer 6): Base. -/
section
namespace Go.Proofs.YtikimmgileffgaaGreatDoor
open Go.RowKit

def baseMsg (s : List UInt8) (k : Nat) : Msg := ⟨(k : Int) % 2, toksB s⟩
def baseMsgs (l : List (List UInt8)) : List Msg := l.zipIdx.map fun x => baseMsg x.1 x.2
def baseP (x : BRow) : Pat := ⟨x.name, toksB x.pre0, toksB x.pre1, baseMsgs (splitL 59 x.msgs)⟩
def plainB (s : List UInt8) : Bool := decide (s.length ≤ 1000) && s.all (fun b => decide (b.toNat < 128)) && decide ((Lib.fields s).length ≤ 1000)
theorem rows_plain : (rowsB.all fun x => plainB x.pre0 && plainB x.pre1 && decide (x.msgs.length ≤ 1000) && (splitL 59 x.msgs).all plainB) = true := by decide +kernel
theorem names_idx : ((rowsB.map BRow.name).zipIdx.all fun x => decide (Lib.idxOfS (namesB.map strO) (strO x.1) = (x.2 : Int))) = true := by decide +kernel
theorem tok_plain (s : List UInt8) (w : World) (he : EnvB w) (h : plainB s = true) : Calls Tryz.prog 56 #[.string (strO s)] w (TokPost s w) := by
  unfold plainB at h
  simp only [Bool.and_eq_true, decide_eq_true_eq] at h
  obtain ⟨⟨h1, h2⟩, h3⟩ := h
  exact tokens_calls s w he (by omega) (fun b hb => by have := List.all_eq_true.1 h2 b hb; exact of_decide_eq_true this) (by omega)
def BasePost (p : Pat) (w : World) (e : Ending) (w' : World) : Prop := ∃ x : PatV, e = .returned (.tuple #[x.val p, .int .i64 0]) ∧ Own w w' [patT x p]
set_option warningAsError false in
set_option maxHeartbeats 3200000 in
set_option maxRecDepth 100000 in
theorem base_calls (i : Nat) (x : BRow) (hi : rowsB[i]? = some x) (w : World) (he : EnvB w) : Calls Tryz.prog 14 #[.string (strO x.name)] w (BasePost (baseP x) w) := by
  have HE := Lib.hid he
  have hpl := List.all_eq_true.1 rows_plain x (List.mem_of_getElem? hi)
  simp only [Bool.and_eq_true, decide_eq_true_eq] at hpl
  obtain ⟨⟨⟨hp0, hp1⟩, hml⟩, hms⟩ := hpl
  have hil : i < 15 := by have := (List.getElem?_eq_some_iff.1 hi).1; rwa [rowsB_len] at this
  have hidx : Lib.idxOfS (namesB.map strO) (strO x.name) = (i : Int) := by
    have h := List.all_eq_true.1 names_idx (x.name, i) (by
      rw [List.mem_zipIdx_iff_getElem?]; simp [hi])
    exact of_decide_eq_true h
  have HX := Lib.hid (fun (w' : World) (Z : Nat) (h : ∀ j s, namesB[j]? = some s → w'.cell? ⟨Z, 0 + j, none⟩ = some (.string (strO s))) (c : Nat) => by
    have := index5_calls namesB x.name Z 0 c w' (by decide) h
    rw [hidx] at this; exact this)
  have HN := Lib.hid (fun w' => bnames_calls w')
  have HR := Lib.hid (fun w' => brows_calls w')
  have Hi := Lib.hid hi
  have H0 := Lib.hid (fun (w' : World) (b : Below w.heap.size w w') => tok_plain x.pre0 w' (HE.out.below b) hp0)
  have H1 := Lib.hid (fun (w' : World) (b : Below w.heap.size w w') => tok_plain x.pre1 w' (HE.out.below b) hp1)
  have HM := Lib.hid hms
  have HSp := Lib.hid (fun (w' : World) (L : List Thing) (h : Own w w' L) => split5_calls x.msgs [59] w' (HE.out.below h.below).str (by omega) (by decide))
  unfold BNamesPost at HN
  unfold BRowsPost at HR
  unfold BasePost
  clear he hi hp0 hp1 hms hidx
  go_enter Tryz.func14, Tryz.ntmps14
  go_wp2_with fail
  refine (HN.out _).mono ?_
  rintro e w1 ⟨v1, rfl, o1⟩
  obtain ⟨Av, cv, rfl⟩ := row_form5 (o1.row (i := 0) rfl)
  have o2 := ((Own.start w).alloc (.cells #[.string ⟨#[]⟩, .slice none 0 0, .slice none 0 0, .slice none 0 0] 33)).newRow o1.below (o1.rowBase (i := 0) rfl)
  obtain ⟨Z, rfl, hZ⟩ := row_holds (o2.row (i := 0) rfl) (by decide)
  have HIx := Lib.hid (HX.out w1 Z (fun j s hj => by rw [Nat.zero_add]; exact hZ j _ (by simp only [strsV, List.getElem?_map, hj]; rfl)) cv)
  have hnl : namesB.length = 15 := rfl
  rw [hnl] at HIx
  have O2 := Lib.hid (o2.pick (L' := [blk w.heap.size (.cells #[.string ⟨#[]⟩, .slice none 0 0, .slice none 0 0, .slice none 0 0] 33)]) [1] (by rfl))
  clear o1 o2 hZ HN HX hnl
  generalize w.heap.size = X at O2 ⊢
  go_wp2_with fail
  refine HIx.out.mono ?_
  rintro e w2 ⟨rfl, rfl⟩
  have d0 : decide ((i : Int) < 0) = false := decide_eq_false (by omega)
  have hi0 : (0 : Int) ≤ i := by omega
  have hi15 : (i : Int) < 15 := by omega
  clear HIx
  go_wp2_with fail
  refine (HR.out _).mono ?_
  rintro e w3 ⟨Z2, rfl, o3⟩
  have o4 := O2.out.new o3.below (Q := blk Z2 rowsBO) (S := fun b => b = Z2) ⟨o3.blk (i := 0) rfl, fun _ => Iff.rfl⟩ (fun b hb => by rw [hb]; exact o3.blk_le (i := 0) rfl)
  obtain ⟨r0, r1, r2, r3⟩ := brow_at (o4.blk (i := 0) rfl) Hi.out
  have O4 := Lib.hid (o4.tail)
  clear o3 o4 O2 HR
  go_upto_region 5 with fail
  have O5 := Lib.hid (O4.out.alloc (.cells #[.string (strO x.name), .string (strO x.pre0), .string (strO x.pre1), .string (strO x.msgs)] 146))
  clear O4 r0 r1 r2 r3
  generalize hsn : strO x.name = sn at *
  have Hsn := Lib.hid hsn
  clear hsn
  generalize strO x.pre0 = s0 at *
  generalize strO x.pre1 = s1 at *
  generalize hsm : strO x.msgs = sm at *
  have Hsm := Lib.hid hsm
  clear hsm
  generalize w3.heap.size = Y at *
  generalize w3.alloc (.cells #[.string sn, .string s0, .string s1, .string sm] 146) = W at *
  have y1 := cell_of_heap (o := 1) (O5.out.blk (i := 0) rfl)
  have y2 := cell_of_heap (o := 2) (O5.out.blk (i := 0) rfl)
  have y3 := cell_of_heap (o := 3) (O5.out.blk (i := 0) rfl)
  simp only [List.getElem?_toArray, List.getElem?_cons_zero, List.getElem?_cons_succ] at y1 y2 y3
  have hbb : Below W.heap.size W W := Below.refl _ _
  have KS := Lib.hid (show ∀ w', Below W.heap.size W w' → (w'.cell? ⟨Y, 1, none⟩ = some (.string s0) ∧ w'.cell? ⟨Y, 2, none⟩ = some (.string s1) ∧ w'.cell? ⟨Y, 3, none⟩ = some (.string sm)) from fun w' h => by
    have cc : ∀ {a : Addr} {v : Value}, W.cell? a = some v → w'.cell? a = some v := fun {a v} hc => (h.cell (World.block_lt_of_cell? W _ hc)).trans hc
    exact ⟨cc y1, cc y2, cc y3⟩)
  have H0' := Lib.hid (fun (w' : World) (b : Below W.heap.size W w') => H0.out w' (below_call O5.out.below b))
  have H1' := Lib.hid (fun (w' : World) (b : Below W.heap.size W w') => H1.out w' (below_call O5.out.below b))
  unfold TokPost at H0' H1'
  have qq := O5.out
  go_cut [6] (fun pv wx => ∃ (P : Nat) (A0 A1 : Option Addr) (c0 c1 : Nat), pv = .pointer (some ⟨P, 0, none⟩) ∧ Own w wx [blk P (.cells #[.string sn, .slice A0 (toksB x.pre0).length c0, .slice A1 (toksB x.pre1).length c1, .slice none 0 0] 33 (0, 0)), rowT 3 1 (.slice A0 (toksB x.pre0).length c0) (toksB x.pre0).length (intsV (toksB x.pre0)), rowT 3 1 (.slice A1 (toksB x.pre1).length c1) (toksB x.pre1).length (intsV (toksB x.pre1)), blk Y (.cells #[.string sn, .string s0, .string s1, .string sm] 146 (0, 0)), blk X (.cells #[.string ⟨#[]⟩, .slice none 0 0, .slice none 0 0, .slice none 0 0] 33 (0, 0))])
  case first =>
    go_region_held3 (fun w' => w'.cell? ⟨Y, 1, none⟩ = some (.string s0) ∧ w'.cell? ⟨Y, 2, none⟩ = some (.string s1))
      (first | exact ⟨(KS.out _ (by repeat (first | with_reducible assumption | with_reducible refine Below.drew ?_ | with_reducible refine belowAlloc ?_ _ | (refine Below.setCell ?_ (by first | exact Nat.le_refl _ | exact hxa.size | exact hxb.size) _)))).1, (KS.out _ (by repeat (first | with_reducible assumption | with_reducible refine Below.drew ?_ | with_reducible refine belowAlloc ?_ _ | (refine Below.setCell ?_ (by first | exact Nat.le_refl _ | exact hxa.size | exact hxb.size) _)))).2.1⟩)
      (first
        | (go_at_call 56; with_reducible refine (H0'.out _ (by repeat (first | with_reducible assumption | with_reducible refine Below.drew ?_ | with_reducible refine belowAlloc ?_ _))).mono ?_; rintro e wa ⟨va, rfl, oa⟩
           obtain ⟨A0, c0, rfl⟩ := row_form5 (oa.row (i := 0) rfl)
           have hxa : Below W.heap.size W wa := below_call (by repeat (first | with_reducible assumption | with_reducible refine Below.drew ?_ | with_reducible refine belowAlloc ?_ _)) oa.below
           first
             | have q0 := (qq.alloc (.cells #[.string ⟨#[]⟩, .slice none 0 0, .slice none 0 0, .slice none 0 0] 33)).drew.newRow oa.below (oa.rowBase (i := 0) rfl)
             | have q0 := (qq.alloc (.cells #[.string ⟨#[]⟩, .slice none 0 0, .slice none 0 0, .slice none 0 0] 33)).newRow oa.below (oa.rowBase (i := 0) rfl)
             | have q0 := qq.newRow oa.below (oa.rowBase (i := 0) rfl)
             | have q0 := qq.drew.newRow oa.below (oa.rowBase (i := 0) rfl))
        | (go_at_call 56; with_reducible refine (H1'.out _ (by repeat (first | with_reducible assumption | with_reducible refine Below.drew ?_ | with_reducible refine belowAlloc ?_ _))).mono ?_; rintro e wb ⟨vb, rfl, ob⟩
           obtain ⟨A1, c1, rfl⟩ := row_form5 (ob.row (i := 0) rfl)
           have hxb : Below W.heap.size W wb := below_call (by repeat (first | with_reducible assumption | with_reducible refine Below.drew ?_ | with_reducible refine belowAlloc ?_ _)) ob.below
           first
             | have q1 := q0.newRow ob.below (ob.rowBase (i := 0) rfl)
             | have q1 := q0.drew.newRow ob.below (ob.rowBase (i := 0) rfl)
             | have q1 := (q0.alloc (.cells #[.string ⟨#[]⟩, .slice none 0 0, .slice none 0 0, .slice none 0 0] 33)).newRow ob.below (ob.rowBase (i := 0) rfl)
             | have q1 := (q0.alloc (.cells #[.string ⟨#[]⟩, .slice none 0 0, .slice none 0 0, .slice none 0 0] 33)).drew.newRow ob.below (ob.rowBase (i := 0) rfl)
           first
             | have hz := q1.blk (i := 1) rfl
             | have hz := q1.blk (i := 2) rfl
           have e0 := cell_of_heap (o := 0) hz
           have e1 := cell_of_heap (o := 1) hz
           have e2 := cell_of_heap (o := 2) hz
           have e3 := cell_of_heap (o := 3) hz
           have fz := fun o => frozen_of_heap (o := o) hz
           have lz := lt_of_heap hz
           simp only [List.getElem?_toArray, List.getElem?_cons_zero, List.getElem?_cons_succ] at e0 e1 e2 e3))
    all_goals go_wp2_with fail
    all_goals go_meet
    all_goals first
      | exact ⟨_, A0, A1, c0, c1, rfl, (q1.alloc (.cells #[.string sn, .slice A0 (toksB x.pre0).length c0, .slice A1 (toksB x.pre1).length c1, .slice none 0 0] 33)).pick [0, 2, 1, 3, 4] (by rfl)⟩
      | exact ⟨_, A0, A1, c0, c1, rfl, (q1.alloc (.cells #[.string sn, .slice A0 (toksB x.pre0).length c0, .slice A1 (toksB x.pre1).length c1, .slice none 0 0] 33)).drew.pick [0, 2, 1, 3, 4] (by rfl)⟩
      | exact ⟨_, A0, A1, c0, c1, rfl, (q1.setFour (i := 1) rfl (.string sn) (.slice A0 (toksB x.pre0).length c0) (.slice A1 (toksB x.pre1).length c1) (.slice none 0 0)).pick [1, 2, 0, 3, 4] (by rfl)⟩
      | exact ⟨_, A0, A1, c0, c1, rfl, (q1.setFour (i := 1) rfl (.string sn) (.slice A0 (toksB x.pre0).length c0) (.slice A1 (toksB x.pre1).length c1) (.slice none 0 0)).drew.pick [1, 2, 0, 3, 4] (by rfl)⟩
      | exact ⟨_, A0, A1, c0, c1, rfl, (q1.setFour (i := 2) rfl (.string sn) (.slice A0 (toksB x.pre0).length c0) (.slice A1 (toksB x.pre1).length c1) (.slice none 0 0)).pick [2, 1, 0, 3, 4] (by rfl)⟩
      | exact ⟨_, A0, A1, c0, c1, rfl, (q1.setFour (i := 2) rfl (.string sn) (.slice A0 (toksB x.pre0).length c0) (.slice A1 (toksB x.pre1).length c1) (.slice none 0 0)).drew.pick [2, 1, 0, 3, 4] (by rfl)⟩
  case rest =>
    obtain ⟨P, A0, A1, c0, c1, rfl, o6⟩ := hcut
    have O6 := Lib.hid o6
    clear o6 O5 y1 y2 y3 hbb KS H0' H1' qq H0 H1
    have y3 := cell_of_heap (o := 3) (O6.out.blk (i := 3) rfl)
    simp only [List.getElem?_toArray, List.getElem?_cons_zero, List.getElem?_cons_succ] at y3
    unfold SplitPost at HSp
    have z1 : strO [59] = ⟨#[59]⟩ := rfl
    rw [z1, split_eq] at HSp
    clear z1
    have Hl := Lib.hid (show (splitL 59 x.msgs).length ≤ 1001 by have := splitL_length 59 x.msgs; omega)
    have hb : baseP x = ⟨x.name, toksB x.pre0, toksB x.pre1, baseMsgs (splitL 59 x.msgs)⟩ := rfl
    have Hb := Lib.hid hb
    clear hb
    generalize splitL 59 x.msgs = F at *
    go_wp2_with fail
    refine (HSp.out _ _ O6.out).mono ?_
    rintro e w7 ⟨rfl, rfl⟩
    have o7 := O6.out.alloc (.cells (strsV F).toArray 9)
    have o8 : Own w _ [rowT 3 1 (.slice A0 (toksB x.pre0).length c0) (toksB x.pre0).length (intsV (toksB x.pre0)), slicesT [(.slice none 0 0, [])], rowT 3 1 (.slice A1 (toksB x.pre1).length c1) (toksB x.pre1).length (intsV (toksB x.pre1)), blk P (.cells #[.string sn, .slice A0 (toksB x.pre0).length c0, .slice A1 (toksB x.pre1).length c1, .slice none 0 0] 33 (0, 0)), blk wc.heap.size (.cells (strsV F).toArray 9 (0, 0)), blk X (.cells #[.string ⟨#[]⟩, .slice none 0 0, .slice none 0 0, .slice none 0 0] 33 (0, 0))] := o7.newSlices.pick [3, 0, 4, 2, 1, 6] (by rfl)
    have o9 : Own w _ [rowT 3 1 (.slice A1 (toksB x.pre1).length c1) (toksB x.pre1).length (intsV (toksB x.pre1)), slicesT [(.slice A0 (toksB x.pre0).length c0, toksB x.pre0), (.slice none 0 0, [])], blk P (.cells #[.string sn, .slice A0 (toksB x.pre0).length c0, .slice A1 (toksB x.pre1).length c1, .slice none 0 0] 33 (0, 0)), blk wc.heap.size (.cells (strsV F).toArray 9 (0, 0)), blk X (.cells #[.string ⟨#[]⟩, .slice none 0 0, .slice none 0 0, .slice none 0 0] 33 (0, 0))] := o8.slice.pick [1, 0, 2, 3, 4] (by rfl)
    have O9 : Hid (Own w (wc.alloc (.cells (strsV F).toArray 9)) [blk P (.cells #[.string sn, .slice A0 (toksB x.pre0).length c0, .slice A1 (toksB x.pre1).length c1, .slice none 0 0] 33 (0, 0)), rowT 61 2 (.slice none 0 0) 0 [], slicesT [(.slice A1 (toksB x.pre1).length c1, toksB x.pre1), (.slice A0 (toksB x.pre0).length c0, toksB x.pre0), (.slice none 0 0, [])], blk wc.heap.size (.cells (strsV F).toArray 9 (0, 0)), blk X (.cells #[.string ⟨#[]⟩, .slice none 0 0, .slice none 0 0, .slice none 0 0] 33 (0, 0))]) := Lib.hid ((o9.slice.nilRow 61 2).pick [2, 0, 1, 3, 4] (by rfl))
    clear o7 o8 o9 O6 HSp y3
    generalize wc.heap.size = ZF at *
    generalize wc.alloc (.cells (strsV F).toArray 9) = W2 at *
    generalize toksB x.pre0 = t0 at *
    generalize toksB x.pre1 = t1 at *
    go_wp2_with fail
    go_loopw [32] (fun i wr => ∃ (k : Nat) (vm : Value) (mv : List (Msg × Value)) (vs : List (Value × List Int)), k ≤ F.length ∧ i = .int .i64 k ∧
        Hid (mv.map (·.1) = (baseMsgs F).take k ∧ (.slice A0 t0.length c0, t0) ∈ vs ∧ (.slice A1 t1.length c1, t1) ∈ vs ∧ (∀ x ∈ mv, (x.2, x.1.t) ∈ vs) ∧ mv.length = k) ∧
        Own w wr [blk P (.cells #[.string sn, .slice A0 t0.length c0, .slice A1 t1.length c1, vm] 33 (0, 0)), rowT 61 2 vm mv.length (msgCells mv), slicesT vs, blk ZF (.cells (strsV F).toArray 9 (0, 0)), blk X (.cells #[.string ⟨#[]⟩, .slice none 0 0, .slice none 0 0, .slice none 0 0] 33 (0, 0))])
      (fun i _ => F.length - (intOf i).toNat)
    case atStart => exact ⟨0, .slice none 0 0, [], _, by omega, rfl, Lib.hid ⟨rfl, List.mem_cons_of_mem _ List.mem_cons_self, List.mem_cons_self, by simp, rfl⟩, O9.out⟩
    case round =>
      clear O9
      obtain ⟨k, vm, mv, vs, hk, rfl, hst, ok⟩ := hrel
      have Ok := Lib.hid ok
      clear ok
      by_cases hlt : k < F.length
      · obtain ⟨r, hrk⟩ : ∃ r, F[k]? = some r := ⟨_, List.getElem?_eq_getElem hlt⟩
        have hik : (k : Int) < F.length := by omega
        have hc : wr.cell? ⟨ZF, k, none⟩ = some (.string (strO r)) := by
          rw [cell_of_heap (Ok.out.blk (i := 3) rfl)]
          simp only [strsV, List.getElem?_toArray, List.getElem?_map, hrk]; rfl
        have hpr : plainB r = true := List.all_eq_true.1 HM.out r (List.mem_of_getElem? hrk)
        have Htk := Lib.hid (show (baseMsgs F).take (k + 1) = (baseMsgs F).take k ++ [baseMsg r k] by
          rw [List.take_add_one]
          unfold baseMsgs
          rw [List.getElem?_map, List.getElem?_zipIdx, hrk]; simp)
        have Hlt := Lib.hid hlt
        have hF : F.length ≤ 1001 := Hl.out
        have hkm : mv.length ≤ 1001 := by have := hst.out.2.2.2.2; have := Hl.out; omega
        clear hrk hlt hk
        go_upto_region 9 with fail
        have y3 := cell_of_heap (o := 3) (Ok.out.blk (i := 0) rfl)
        simp only [List.getElem?_toArray, List.getElem?_cons_zero, List.getElem?_cons_succ] at y3
        have hbb : Below wr.heap.size wr wr := Below.refl _ _
        have KS := Lib.hid (show ∀ w', Below wr.heap.size wr w' → w'.cell? ⟨P, 3, none⟩ = some vm from fun w' h => (h.cell (World.block_lt_of_cell? wr _ y3)).trans y3)
        have HT := Lib.hid (fun (w' : World) (b : Below wr.heap.size wr w') => tok_plain r w' (HE.out.below (below_call Ok.out.below b)) hpr)
        unfold TokPost at HT
        have hmod : Int.tmod (k : Int) 2 = (k : Int) % 2 := Int.tmod_eq_emod_of_nonneg (by omega)
        have qq := Ok.out
        unfold baseMsg at Htk
        generalize toksB r = tt at *
        generalize (k : Int) % 2 = m2 at *
        generalize strO r = sr at *
        clear hpr hc
        go_region_law (first
          | (go_simp; go_at_call 56; with_reducible refine (HT.out _ (by repeat (first | with_reducible assumption | with_reducible refine Below.drew ?_ | with_reducible refine belowAlloc ?_ _))).mono ?_; rintro e wa ⟨va, rfl, oa⟩
             obtain ⟨A5, c5, rfl⟩ := row_form5 (oa.row (i := 0) rfl)
             have hxa : Below wr.heap.size wr wa := below_call (by repeat (first | with_reducible assumption | with_reducible refine Below.drew ?_ | with_reducible refine belowAlloc ?_ _)) oa.below
             first
               | have qa := qq.newRow oa.below (oa.rowBase (i := 0) rfl)
               | have qa := qq.drew.newRow oa.below (oa.rowBase (i := 0) rfl)
             have ya := KS.out wa hxa
             have yb := KS.out (wa.alloc (.cells #[.int .i64 m2, .slice A5 tt.length c5] 61)) (belowAlloc hxa _)
             have yc : (wa.alloc (.cells #[.int .i64 m2, .slice A5 tt.length c5] 61)).drew.cell? ⟨P, 3, none⟩ = some vm := yb
             have lP := World.block_lt_of_cell? wa _ ya)
          | (have oc := qa.alloc (.cells #[.int .i64 m2, .slice A5 tt.length c5] 61)
             refine step_ocat oc _ _ 31 rfl rfl 61 (.agg #[.int .i64 0, .slice none 0 0]) 2 32 Tryz.underlying31 einfo_msg rfl (by decide) vm mv.length (msgCells mv) rfl 3 rfl (some ⟨_, 0, none⟩) 1 1 [.int .i64 m2, .slice A5 tt.length c5] rfl (News.block (cs := [.int .i64 m2, .slice A5 tt.length c5]) (oc.blk (i := 0) rfl) rfl) (by simp [Value.oneCell']) (by unfold maxLen; omega) (by omega) ?_
             intro v6 w6 o7
             obtain ⟨A6, c6, rfl⟩ := row_form5 (o7.row (i := 3) rfl)
             have e3 := cell_of_heap (o := 3) (o7.blk (i := 2) rfl)
             have f3 := fun o => frozen_of_heap (o := o) (o7.blk (i := 2) rfl)
             have l3 := lt_of_heap (o7.blk (i := 2) rfl)
             simp only [List.getElem?_toArray, List.getElem?_cons_zero, List.getElem?_cons_succ] at e3)
          | (have oc := (qa.alloc (.cells #[.int .i64 m2, .slice A5 tt.length c5] 61)).drew
             refine step_ocat oc _ _ 31 rfl rfl 61 (.agg #[.int .i64 0, .slice none 0 0]) 2 32 Tryz.underlying31 einfo_msg rfl (by decide) vm mv.length (msgCells mv) rfl 3 rfl (some ⟨_, 0, none⟩) 1 1 [.int .i64 m2, .slice A5 tt.length c5] rfl (News.block (cs := [.int .i64 m2, .slice A5 tt.length c5]) (oc.blk (i := 0) rfl) rfl) (by simp [Value.oneCell']) (by unfold maxLen; omega) (by omega) ?_
             intro v6 w6 o7
             obtain ⟨A6, c6, rfl⟩ := row_form5 (o7.row (i := 3) rfl)
             have e3 := cell_of_heap (o := 3) (o7.blk (i := 2) rfl)
             have f3 := fun o => frozen_of_heap (o := o) (o7.blk (i := 2) rfl)
             have l3 := lt_of_heap (o7.blk (i := 2) rfl)
             simp only [List.getElem?_toArray, List.getElem?_cons_zero, List.getElem?_cons_succ] at e3)
          | (go_simp))
        all_goals
          have O11 := Lib.hid (o7.store (i := 2) rfl ((Upd.refl (One P) w6).setCell (fun _ => rfl) (.slice A6 (mv.length + 1) c6)) (heap_setCell_at (o := 3) (o7.blk (i := 2) rfl) _))
          clear o7 oc qa qq ya yb yc y3 hbb KS HT Ok oa hxa
          go_wp2_with fail
          go_roundw
        all_goals first
          | (have := Hlt.out; simp only [intOf]; omega)
          | skip
        all_goals
          have := Hlt.out
          have hmc : msgCells (mv ++ [(⟨m2, tt⟩, .slice A5 tt.length c5)]) = msgCells mv ++ [.int .i64 m2, .slice A5 tt.length c5] := by simp [msgCells]
          have hln : (mv ++ [((⟨m2, tt⟩ : Msg), Value.slice A5 tt.length c5)]).length = mv.length + 1 := by simp
          have o12 : Own w _ [rowT 3 1 (.slice A5 tt.length c5) tt.length (intsV tt), slicesT vs, blk P (.cells #[.string sn, .slice A0 t0.length c0, .slice A1 t1.length c1, .slice A6 (mv.length + 1) c6] 33 (0, 0)), rowT 61 2 (.slice A6 (mv.length + 1) c6) (mv.length + 1) (msgCells mv ++ [.int .i64 m2, .slice A5 tt.length c5]), blk ZF (.cells (strsV F).toArray 9 (0, 0)), blk X (.cells #[.string ⟨#[]⟩, .slice none 0 0, .slice none 0 0, .slice none 0 0] 33 (0, 0))] := O11.out.pick [1, 4, 2, 3, 5, 6] (by rfl)
          refine ⟨k + 1, .slice A6 (mv.length + 1) c6, mv ++ [(⟨m2, tt⟩, .slice A5 tt.length c5)], (.slice A5 tt.length c5, tt) :: vs, by omega, by go_num, Lib.hid ⟨by rw [Htk.out, ← hst.out.1]; simp, List.mem_cons_of_mem _ hst.out.2.1, List.mem_cons_of_mem _ hst.out.2.2.1, fun y hy => ?_, by rw [hln]; have := hst.out.2.2.2.2; omega⟩, ?_⟩
          · rcases List.mem_append.1 hy with hy | hy
            · exact List.mem_cons_of_mem _ (hst.out.2.2.2.1 y hy)
            · obtain rfl := List.mem_singleton.1 hy; exact List.mem_cons_self
          · rw [hmc, hln]; exact o12.slice.pick [1, 2, 0, 3, 4] (by rfl)
      · obtain rfl : k = F.length := by omega
        have hbl : (baseMsgs F).length = F.length := by unfold baseMsgs; simp
        have hms : mv.map (·.1) = baseMsgs F := by have := hst.out.1; rwa [List.take_of_length_le (by rw [hbl]; exact Nat.le_refl _)] at this
        have hlm : mv.length = (baseMsgs F).length := by rw [← hms, List.length_map]
        obtain ⟨A, c, rfl⟩ := row_form5 (Ok.out.row (i := 1) rfl)
        have o4 : Own w wr [patT ⟨.slice A0 t0.length c0, .slice A1 t1.length c1, A, c⟩ ⟨x.name, t0, t1, baseMsgs F⟩, blk P (.cells #[.string sn, .slice A0 t0.length c0, .slice A1 t1.length c1, .slice A mv.length c] 33 (0, 0)), blk X (.cells #[.string ⟨#[]⟩, .slice none 0 0, .slice none 0 0, .slice none 0 0] 33 (0, 0))] :=
          Own.pattern (p := ⟨x.name, t0, t1, baseMsgs F⟩) (v0 := .slice A0 t0.length c0) (v1 := .slice A1 t1.length c1) (A := A) (c := c) (mv := mv) (vs := vs) (M := [blk P (.cells #[.string sn, .slice A0 t0.length c0, .slice A1 t1.length c1, .slice A mv.length c] 33 (0, 0)), blk X (.cells #[.string ⟨#[]⟩, .slice none 0 0, .slice none 0 0, .slice none 0 0] 33 (0, 0))]) (Ok.out.pick [1, 2, 0, 4] (by rfl)) hst.out.2.1 hst.out.2.2.1 hms hst.out.2.2.2.1
        rw [hlm] at o4
        have y0 := cell_of_heap (o := 0) (o4.blk (i := 1) rfl)
        have y1 := cell_of_heap (o := 1) (o4.blk (i := 1) rfl)
        have y2 := cell_of_heap (o := 2) (o4.blk (i := 1) rfl)
        have y3 := cell_of_heap (o := 3) (o4.blk (i := 1) rfl)
        have x0 := cell_of_heap (o := 0) (o4.blk (i := 2) rfl)
        have x1 := cell_of_heap (o := 1) (o4.blk (i := 2) rfl)
        have x2 := cell_of_heap (o := 2) (o4.blk (i := 2) rfl)
        have x3 := cell_of_heap (o := 3) (o4.blk (i := 2) rfl)
        have fX := fun o => frozen_of_heap (o := o) (o4.blk (i := 2) rfl)
        have lX := lt_of_heap (o4.blk (i := 2) rfl)
        simp only [List.getElem?_toArray, List.getElem?_cons_zero, List.getElem?_cons_succ] at y0 y1 y2 y3 x0 x1 x2 x3
        have o6 := o4.setFour (i := 2) rfl (.string sn) (.slice A0 t0.length c0) (.slice A1 t1.length c1) (.slice A (baseMsgs F).length c)
        have hfin := Lib.hid (o6.blk (i := 2) rfl)
        have O6 := Lib.hid o6
        clear o6 o4 hk hlt Ok hst hbl hms hlm
        go_wp2_with fail
        refine bodyPost_ret (v := .tuple #[.agg #[.string sn, .slice A0 t0.length c0, .slice A1 t1.length c1, .slice A (baseMsgs F).length c], .int .i64 0]) (by simp [results, Tryz.results14, go_sem, cell_of_heap hfin.out]) rfl ?_
        rw [Hb.out]
        refine ⟨⟨.slice A0 t0.length c0, .slice A1 t1.length c1, A, c⟩, ?_, O6.out.pick [0] (by rfl)⟩
        unfold PatV.val
        rw [Hsn.out]
end Go.Proofs.YtikimmgileffgaaGreatDoor
end
/- The law's own check of two messages: it answers true, and leaves what was there as it was. -/
section
namespace Go.Proofs.YtikimmgileffgaaGreatDoor
open Go.RowKit

end Go.Proofs.YtikimmgileffgaaGreatDoor
end
/- What TransOf calls: New, Base of NN, Start (layers 1, 6, 12). -/
section
namespace Go.Proofs.YtikimmgileffgaaGreatDoor
open Go.RowKit

theorem newEA {w0 w : World} {M : List Thing} {limit : Int} {A : Ar} (O : Own w0 w M) (hA : A = newAr limit) : Calls Tryz.prog 13 #[.int .i64 limit] w fun e w' => ∃ r, e = .returned (.pointer (some ⟨r, 0, none⟩)) ∧ Own w0 w' (arena r A :: M) := by
  subst hA; exact new_own O limit
theorem baseE {w0 w : World} {M : List Thing} {p : Pat} (O : Own w0 w M) (i : Nat) (x : BRow) (hi : rowsB[i]? = some x) (he : EnvB w0) (hx : baseP x = p) :
    Calls Tryz.prog 14 #[.string (strO x.name)] w fun e w' => ∃ a0 c0 a1 c1 am cm, e = .returned (.tuple #[.agg #[.string (strO p.name), .slice a0 p.pre0.length c0, .slice a1 p.pre1.length c1, .slice am p.msgs.length cm], .int .i64 0]) ∧ Own w0 w' (patT (pvx a0 c0 a1 c1 am cm p) p :: M) := by
  subst hx
  refine (base_calls i x hi w (he.below O.below)).mono fun e w' ⟨y, h1, h2⟩ => ?_
  obtain ⟨a0, c0, a1, c1, am, cm, rfl⟩ := pvx_of (h2.hasPat (j := 0) rfl (hasPat_pat _ _))
  exact ⟨a0, c0, a1, c1, am, cm, h1, O.join1 h2⟩
theorem kept_pat {w0 : World} {M : List Thing} {i : Nat} {x : PatV} {p : Pat} (j : Nat) (hj : M[j]? = some (patT x p)) (hij : j ≠ i) : Kept w0 M i fun w => PatIn w (Old w) x p :=
  kept_thing j _ hj hij (hasPat_pat x p)
end Go.Proofs.YtikimmgileffgaaGreatDoor
end
