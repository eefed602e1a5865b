/- Packed for this claim by packm.py: Tok7, Tok8, SpL, ParL, Tok9. -/
import Derived.Test.YtikimmgileffgaaGreatDoorPk04
import Derived.Lib.Join
import Derived.Deep.DeepCutAuto
import Derived.Test.YtikimmgileffgaaGreatDoorPk01
import Derived.Lib.Split
import Derived.Lib.AtoiAll
import Derived.Lib.ParseIntB
import Derived.Lib.SlicesS
import Derived.Lib.IndexMore
import Derived.Lib.CountLaws
import Derived.Deep.RegionHeld3
/- A row of a pattern's text (layer 5): line. -/
section
namespace Go.Proofs.YtikimmgileffgaaGreatDoor
open Go.RowKit

def arrowT (who : Nat) : List UInt8 := if who = 0 then [45, 62] else [60, 45]
def joinT (t : List Int) : List UInt8 := Lib.join (t.map tokName) [44, 32]
def lineT (who : Nat) (t : List Int) : List UInt8 := ((arrowT who ++ [32]) ++ joinT t) ++ [10]
def strsV (l : List (List UInt8)) : List Value := l.map fun s => .string (strO s)
theorem einfo_strT : (Tryz.prog.info? 9).map (fun i => (i.zero, i.size, i.bytes)) = some (some (.string ⟨#[]⟩), 1, 16) := by kernel_rfl
theorem arrow0 (w : World) : (Instr.index 272 arrowsV (.int .i64 0)).run Tryz.prog w = .ok (.string (strO (arrowT 0))) w := by kernel_rfl
theorem arrow1 (w : World) : (Instr.index 272 arrowsV (.int .i64 1)).run Tryz.prog w = .ok (.string (strO (arrowT 1))) w := by kernel_rfl
theorem arrow_at {who : Nat} (h : who ≤ 1) (w : World) : (Instr.index 272 arrowsV (.int .i64 who)).run Tryz.prog w = .ok (.string (strO (arrowT who))) w := by
  have : who = 0 ∨ who = 1 := by omega
  rcases this with rfl | rfl
  · exact arrow0 w
  · exact arrow1 w
theorem tokName_len (t : Int) : (tokName t).length ≤ 3 := by unfold tokName; (repeat' split) <;> decide
theorem arrowT_len (n : Nat) : (arrowT n).length = 2 := by unfold arrowT; split <;> rfl
theorem joinTail_len (t : List Int) : (Lib.joinTail [44, 32] (t.map tokName)).length ≤ 5 * t.length := by
  induction t with
  | nil => simp [Lib.joinTail]
  | cons x t ih =>
    have := tokName_len x
    simp only [Lib.joinTail, List.map_cons, List.flatten_cons, List.length_append, List.length_cons, List.length_nil] at ih ⊢
    omega
theorem joinT_len (t : List Int) : (joinT t).length ≤ 5 * t.length := by
  unfold joinT
  cases t with
  | nil => simp [Lib.join_nil]
  | cons x t =>
    have := tokName_len x
    have := joinTail_len t
    rw [List.map_cons, Lib.join_cons, List.length_append, List.length_cons]
    omega
theorem lineT_len (who : Nat) (t : List Int) : (lineT who t).length ≤ 5 * t.length + 4 := by
  have := joinT_len t
  have := arrowT_len who
  simp only [lineT, List.length_append, List.length_cons, List.length_nil]
  omega
theorem line_runs (who : Nat) (t : List Int) (hl : t.length ≤ 1000000) : ∃ s1 s2 s3 : ByteArray,
    (∀ w : World, (Op.stringOp .add (strO (arrowT who)) ⟨#[32]⟩).run Tryz.prog w = .ok (.string s1) w) ∧ (∀ w : World, (Op.stringOp .add s1 (strO (joinT t))).run Tryz.prog w = .ok (.string s2) w) ∧
    (∀ w : World, (Op.stringOp .add s2 ⟨#[10]⟩).run Tryz.prog w = .ok (.string s3) w) ∧ s3 = strO (lineT who t) := by
  have h1 := arrowT_len who
  have h2 := joinT_len t
  refine ⟨strO (arrowT who ++ [32]), strO ((arrowT who ++ [32]) ++ joinT t), strO (lineT who t), ?_, ?_, ?_, rfl⟩
  · exact fun w => addS (arrowT who) [32] (by omega) (by decide) w
  · exact fun w => addS _ _ (by simp; omega) (by omega) w
  · exact fun w => addS _ [10] (by simp; omega) (by decide) w
/-- strings.Join at a row of tokens' names. -/
theorem join_calls {w W : World} {v : Value} {t : List Int} (h : Own w W [rowT 9 1 v t.length (strsV (t.map tokName))]) (h1 : 1 ≤ t.length) (hl : t.length ≤ 1000000) :
    Calls Tryz.prog 170 #[v, .string ⟨#[44, 32]⟩] W fun e w' => e = .returned (.string (strO (joinT t))) ∧ Below W.heap.size W w' := by
  have hr := h.row (i := 0) rfl
  obtain ⟨A', c', e1, e2, -⟩ := holds_of_owns hr
  rcases hr.2 with ⟨_, h0⟩ | ⟨g, cap, cur, rfl, _, hg, hnc, _, _, _⟩
  · omega
  · cases e1
    have hx : (List.map (fun x : ByteArray => x.data.toList) (t.map fun x => strO (tokName x))) = t.map tokName := by
      rw [List.map_map]; exact List.map_congr_left fun x _ => strO_data _
    have hj := joinT_len t
    have := Sh.strings_Join g 0 c' (t.map fun x => strO (tokName x)) ⟨#[44, 32]⟩ W (fun j x hj => by
      rcases e2 with e2 | ⟨b, o, hA, e2⟩
      · have : t = [] := by simpa [strsV] using e2
        subst this; cases hj
      · cases hA
        refine e2 j _ ?_
        simp only [strsV, List.getElem?_map, Option.map_map] at hj ⊢
        cases ht : t[j]? with
        | none => rw [ht] at hj; cases hj
        | some y => rw [ht] at hj; cases hj; rfl) (lt_of_heap hg) (by rw [List.length_map]; omega) (by rw [List.length_map]; exact hnc) (by rw [hx]; show (joinT t).length ≤ _; omega)
    rw [hx, List.length_map] at this
    have he : (⟨(Lib.join (t.map tokName) (⟨#[44, 32]⟩ : ByteArray).data.toList).toArray⟩ : ByteArray) = strO (joinT t) := rfl
    rw [he] at this
    generalize strO (joinT t) = z at *
    exact this
set_option maxHeartbeats 3200000 in
set_option maxRecDepth 100000 in
theorem line_calls {w : World} {A : Option Addr} {t : List Int} (c who : Nat) (hw : who ≤ 1) (h : Holds w A (intsV t)) (h1 : 1 ≤ t.length) (hl : t.length ≤ 1000000) :
    Calls Tryz.prog 117 #[.int .i64 who, .slice A t.length c] w fun e w' => e = .returned (.string (strO (lineT who t))) ∧ Below w.heap.size w w' := by
  have H := Lib.hid h
  have HAr := Lib.hid (fun w' => arrow_at hw w')
  have HL := Lib.hid (joinT_len t)
  have H1 := Lib.hid h1
  clear h hw h1
  go_enter Tryz.func117, Tryz.ntmps117
  go_wp2_with fail
  go_loopw [5, 10] (fun v i wr => ∃ k : Nat, k ≤ t.length ∧ i = .int .i64 k ∧ Own w wr [rowT 9 1 v k (strsV ((t.take k).map tokName))])
    (fun _ i _ => t.length - (intOf i).toNat)
  case atStart => exact ⟨0, by omega, rfl, (Own.start w).nilRow 9 1⟩
  case round =>
    obtain ⟨k, hk, rfl, ok⟩ := hrel
    have Ok := Lib.hid ok
    clear ok
    by_cases hlt : k < t.length
    · obtain ⟨x, hx⟩ : ∃ x, t[k]? = some x := ⟨_, List.getElem?_eq_getElem hlt⟩
      have hik : (k : Int) < t.length := by omega
      obtain ⟨b, o, rfl, hc⟩ : ∃ b o, A = some ⟨b, o, none⟩ ∧ wr.cell? ⟨b, o + k, none⟩ = some (.int .i64 x) := by
        rcases H.out.below Ok.out.below with h | ⟨b, o, hA, h⟩
        · have : t = [] := by simpa [intsV] using h
          subst this; cases hx
        · exact ⟨b, o, hA, h k _ (by simp [intsV, hx])⟩
      have Htk := Lib.hid (show strsV ((t.take (k + 1)).map tokName) = strsV ((t.take k).map tokName) ++ [.string (strO (tokName x))] by rw [List.take_add_one, hx]; simp [strsV])
      have Hlt := Lib.hid hlt
      have hk6 : k ≤ 1000000 := by omega
      clear hx hlt hk
      go_wp2_with fail
      refine (name_calls x wr).mono ?_
      rintro e w1 ⟨rfl, b1⟩
      have o6 := (Ok.out.call b1).alloc (.cells #[.string (strO (tokName x))] 9)
      clear b1 Ok hc
      generalize strsV ((t.take k).map tokName) = L at *
      generalize strO (tokName x) = sx at *
      go_wp2_with (at_builtin; go_loud (refine wpList_ocat o6 rfl (.tmp 14) (.tmp 17) 143 rfl 9 (.string ⟨#[]⟩) 1 16 Tryz.underlying143 einfo_strT rfl (by decide) u5 k L rfl 1 rfl (some ⟨w1.heap.size, 0, none⟩) 1 1 [.string sx] rfl (News.block (cs := [.string sx]) (new_at rfl) rfl) (by simp [Value.oneCell']) (by unfold maxLen; omega) (by omega) ?_))
      intro v6 w6 o7
      have O7 := Lib.hid o7.tail
      clear o7 o6
      go_wp2_with fail
      go_roundw
      case rel => have := Hlt.out; exact ⟨k + 1, by omega, by go_num, by rw [Htk.out]; exact O7.out⟩
      case measure => have := Hlt.out; simp only [intOf]; omega
    · obtain rfl : k = t.length := by omega
      obtain ⟨s1, s2, s3, hr1, hr2, hr3, hs3⟩ := line_runs who t hl
      have Hs3 := Lib.hid hs3
      have HJ := Lib.hid (show ∀ w', Below wr.heap.size wr w' → Calls Tryz.prog 170 #[u5, .string ⟨#[44, 32]⟩] w' fun e w'' => e = .returned (.string (strO (joinT t))) ∧ Below w'.heap.size w' w'' from fun w' b => join_calls (by have := Ok.out.call b; rwa [List.take_length] at this) H1.out hl)
      have hbb : Below wr.heap.size wr wr := Below.refl _ _
      have hi := HAr.out
      have OB := Lib.hid Ok.out.below
      clear hs3 hk hlt Ok
      generalize strO (joinT t) = j at *
      generalize strO (arrowT who) = ar at *
      go_upto_region 7 with fail
      go_region_held3 (fun _ => True) (first | exact trivial)
        (first
          | (go_at_call 169; with_reducible refine (arrows_calls _).mono ?_; rintro e wa ⟨rfl, hba⟩; have hxa : Below wr.heap.size wr wa := below_call (by repeat (first | with_reducible assumption | with_reducible refine Below.drew ?_ | with_reducible refine belowAlloc ?_ _)) hba)
          | (go_at_call 170; with_reducible refine (HJ.out _ (by repeat (first | with_reducible assumption | with_reducible refine Below.drew ?_ | with_reducible refine belowAlloc ?_ _))).mono ?_; rintro e wb ⟨rfl, hbb2⟩; have hxb : Below wr.heap.size wr wb := below_call (by repeat (first | with_reducible assumption | with_reducible refine Below.drew ?_ | with_reducible refine belowAlloc ?_ _)) hbb2))
      all_goals go_wp2_with fail
      all_goals go_ret
      all_goals exact ⟨by rw [← Hs3.out]; rfl, OB.out.trans ((by repeat (first | with_reducible assumption | with_reducible refine Below.drew ?_ | with_reducible refine belowAlloc ?_ _) : Below wr.heap.size wr _).mono OB.out.size)⟩
end Go.Proofs.YtikimmgileffgaaGreatDoor
end
/- A pattern's text (layer 5): Print. -/
section
namespace Go.Proofs.YtikimmgileffgaaGreatDoor
open Go.RowKit

def preK (p : Pat) (k : Nat) : List Int := if k = 0 then p.pre0 else p.pre1
def preT (p : Pat) : Nat → List UInt8
  | 0 => []
  | k + 1 => preT p k ++ (if preK p k = [] then [] else lineT k (preK p k))
def toldT (p : Pat) : List UInt8 := if preT p 2 = [] then [] else preT p 2 ++ [46, 46, 46, 10]
def headT (p : Pat) : List UInt8 := (p.name ++ [58, 10]) ++ toldT p
def msgT (m : Msg) : List UInt8 := lineT m.frm.toNat m.t
def printT (p : Pat) : List UInt8 := headT p ++ p.msgs.flatMap msgT
/-- What Right tells of a pattern. -/
structure RightP (p : Pat) : Prop where
  name : p.name.all okB = true
  name1 : 1 ≤ p.name.length
  name20 : p.name.length ≤ 20
  pre0 : toldB p.pre0 = true
  pre1 : toldB p.pre1 = true
  msgs1 : 1 ≤ p.msgs.length
  msgs6 : p.msgs.length ≤ 6
  frm : ∀ m ∈ p.msgs, 0 ≤ m.frm ∧ m.frm ≤ 1
  t1 : ∀ m ∈ p.msgs, 1 ≤ m.t.length ∧ m.t.length ≤ 12
  tok : ∀ m ∈ p.msgs, ∀ t ∈ m.t, 1 ≤ t ∧ t ≤ 7
theorem rightP_is {p : Pat} (h : rightP p = true) : RightP p := by
  simp only [rightP, namedB, Bool.and_eq_true, decide_eq_true_eq, Bool.not_eq_true', List.any_eq_false] at h
  obtain ⟨⟨⟨⟨⟨⟨⟨h1, h2⟩, h3⟩, h4⟩, h5⟩, h6⟩, h7⟩, h8⟩ := h
  refine ⟨h1, h2, h3, h4, h5, h6, h7, fun m hm => ?_, fun m hm => ?_, fun m hm t ht => ?_⟩
  all_goals
    have := h8 m hm
    simp only [wrongM, Bool.or_eq_true, decide_eq_true_eq, not_or] at this
    obtain ⟨⟨⟨⟨a1, a2⟩, a3⟩, a4⟩, a5⟩ := this
  · omega
  · omega
  · have a6 : ¬ noneT t = true := fun h => a5 (List.any_eq_true.2 ⟨t, ht, h⟩)
    simp only [noneT, Bool.or_eq_true, decide_eq_true_eq, not_or] at a6
    omega
theorem told_len {l : List Int} (h : toldB l = true) : l.length ≤ 2 := by
  simp only [toldB, Bool.or_eq_true, decide_eq_true_eq] at h
  rcases h with ((h | h) | h) | h <;> subst h <;> decide
theorem RightP.preK {p : Pat} (h : RightP p) (k : Nat) : toldB (preK p k) = true ∧ (Go.Proofs.YtikimmgileffgaaGreatDoor.preK p k).length ≤ 2 := by
  unfold Go.Proofs.YtikimmgileffgaaGreatDoor.preK; split
  · exact ⟨h.pre0, told_len h.pre0⟩
  · exact ⟨h.pre1, told_len h.pre1⟩
theorem preT_len {p : Pat} (h : RightP p) (k : Nat) : (preT p k).length ≤ 14 * k := by
  induction k with
  | zero => simp [preT]
  | succ k ih =>
    have h2 := (h.preK k).2
    have h3 := lineT_len k (preK p k)
    simp only [preT, List.length_append]
    split
    · simp only [List.length_nil]; omega
    · omega
theorem toldT_len {p : Pat} (h : RightP p) : (toldT p).length ≤ 32 := by
  have := preT_len h 2
  unfold toldT; split
  · simp
  · simp; omega
theorem headT_len {p : Pat} (h : RightP p) : (headT p).length ≤ 54 := by
  have := toldT_len h
  have := h.name20
  simp only [headT, List.length_append, List.length_cons, List.length_nil]; omega
theorem msgT_len {m : Msg} (h : m.t.length ≤ 12) : (msgT m).length ≤ 64 := by
  have := lineT_len m.frm.toNat m.t
  unfold msgT; omega
theorem msgsT_len : ∀ (l : List Msg), (∀ m ∈ l, m.t.length ≤ 12) → (l.flatMap msgT).length ≤ 64 * l.length
  | [], _ => by simp
  | m :: l, h => by
    have h1 := msgT_len (h m List.mem_cons_self)
    have h2 := msgsT_len l (fun x hx => h x (List.mem_cons_of_mem _ hx))
    rw [List.flatMap_cons, List.length_append, List.length_cons]; omega
theorem strO_empty (T : List UInt8) : (strO T).toList.isEmpty = decide (T = []) := by
  have h2 := beq_toListBytes (strO T) (strO [])
  rw [strO_eq] at h2
  have h3 : (strO []).toList = [] := by decide +kernel
  rw [h3] at h2
  rw [h2]
  cases (strO T).toList <;> rfl
theorem pre_at0 (v0 v1 : Value) (w : World) : (Instr.index 30 (.agg #[v0, v1]) (.int .i64 0)).run Tryz.prog w = .ok v0 w := by kernel_rfl
theorem pre_at1 (v0 v1 : Value) (w : World) : (Instr.index 30 (.agg #[v0, v1]) (.int .i64 1)).run Tryz.prog w = .ok v1 w := by kernel_rfl
theorem PatIn.preK {w : World} {S : Nat → Prop} {x : PatV} {p : Pat} (h : PatIn w S x p) (k : Nat) : IntsIn w S (if k = 0 then x.v0 else x.v1) (preK p k) := by
  unfold Go.Proofs.YtikimmgileffgaaGreatDoor.preK; split
  · exact h.pre0
  · exact h.pre1
theorem pre_at {k : Nat} (hk : k ≤ 1) (v0 v1 : Value) (w : World) : (Instr.index 30 (.agg #[v0, v1]) (.int .i64 k)).run Tryz.prog w = .ok (if k = 0 then v0 else v1) w := by
  have : k = 0 ∨ k = 1 := by omega
  rcases this with rfl | rfl
  · exact pre_at0 v0 v1 w
  · exact pre_at1 v0 v1 w
def PrintPost (p : Pat) (w : World) (e : Ending) (w' : World) : Prop := e = .returned (.tuple #[.string (strO (printT p)), .int .i64 0]) ∧ Below w.heap.size w w'
set_option maxHeartbeats 3200000 in
set_option maxRecDepth 100000 in
theorem print_calls {w : World} {x : PatV} {p : Pat} (h : PatIn w (Old w) x p) (hp : PatFits p) (hr : rightP p = true) :
    Calls Tryz.prog 61 #[x.val p] w (PrintPost p w) := by
  have HR := Lib.hid (fun W (b : Below w.heap.size w W) => right5_calls (h.below b) hp)
  rw [hr] at HR
  have R := Lib.hid (rightP_is hr)
  have HP := Lib.hid h
  clear h hp hr
  unfold PatV.val at HR ⊢
  unfold PrintPost
  go_enter Tryz.func61, Tryz.ntmps61
  go_wp2_with fail
  refine (HR.out _ (by exact (Below.refl _ _).alloc (Nat.le_refl _) _)).mono ?_
  rintro e w1 ⟨rfl, b1⟩
  have O1 := Lib.hid (((Own.start w).alloc (.cells #[.string (strO p.name), x.v0, x.v1, .slice x.A p.msgs.length x.c] 33)).call b1)
  clear b1 HR
  generalize w.heap.size = X at *
  have c0 := cell_of_heap (o := 0) (O1.out.blk (i := 0) rfl)
  have c1 := cell_of_heap (o := 1) (O1.out.blk (i := 0) rfl)
  have c2 := cell_of_heap (o := 2) (O1.out.blk (i := 0) rfl)
  have c3 := cell_of_heap (o := 3) (O1.out.blk (i := 0) rfl)
  simp only [List.getElem?_toArray, List.getElem?_cons_zero, List.getElem?_cons_succ] at c0 c1 c2 c3
  go_wp2_with fail
  clear c1 c2
  have C0 := Lib.hid c0
  have C3 := Lib.hid c3
  clear c0 c3
  go_loopw [4, 15] (fun s i wr => ∃ k : Nat, k ≤ 2 ∧ i = .int .i64 k ∧ s = .string (strO (preT p k)) ∧ Own w wr [blk X (.cells #[.string (strO p.name), x.v0, x.v1, .slice x.A p.msgs.length x.c] 33)])
    (fun _ i _ => 2 - (intOf i).toNat)
  case atStart => exact ⟨0, by omega, rfl, rfl, O1.out⟩
  case round =>
    clear O1
    obtain ⟨k, hk, rfl, rfl, ok⟩ := hrel
    have Ok := Lib.hid ok
    clear ok
    by_cases hlt : k < 2
    · have hik : (k : Int) < 2 := by omega
      have hi := fun w' => pre_at (show k ≤ 1 by omega) x.v0 x.v1 w'
      obtain ⟨A, c, hv, hh⟩ := ((HP.out.preK k).below Ok.out.below).holds
      have hl2 := (R.out.preK k).2
      have hl := preT_len R.out k
      have Hnext := Lib.hid (show preT p (k + 1) = preT p k ++ (if preK p k = [] then [] else lineT k (preK p k)) from rfl)
      have Hk := Lib.hid hlt
      rw [hv] at hi
      generalize preT p k = T0 at *
      generalize preK p k = t at *
      by_cases ht : t = []
      · have hn : strO (preT p (k + 1)) = strO T0 := by rw [Hnext.out, if_pos ht, List.append_nil]
        have d0 : decide (0 < t.length) = false := by rw [ht]; rfl
        have d1 : decide ((0 : Int) < (t.length : Int)) = false := by rw [ht]; rfl
        have Hn := Lib.hid hn
        clear hn ht hlt hk
        go_wp2_with fail
        go_roundw
        case rel => have := Hk.out; exact ⟨k + 1, by omega, by go_num, by rw [Hn.out], Ok.out⟩
        case measure => have := Hk.out; simp only [intOf]; omega
      · have h1 : 1 ≤ t.length := List.length_pos_iff.2 ht
        have d0 : decide (0 < t.length) = true := decide_eq_true h1
        have d1 : decide ((0 : Int) < (t.length : Int)) = true := decide_eq_true (by omega)
        have hll := lineT_len k t
        have HA := Lib.hid (fun (w' : World) => addS (P := Tryz.prog) T0 (lineT k t) (by omega) (by omega) w')
        have Hn := Lib.hid (show strO (preT p (k + 1)) = strO (T0 ++ lineT k t) by rw [Hnext.out, if_neg ht])
        have HL := Lib.hid (line_calls c k (by omega) hh h1 (by omega))
        generalize strO (T0 ++ lineT k t) = s1 at *
        have ha := HA.out
        generalize strO (lineT k t) = s2 at *
        generalize strO T0 = s3 at *
        clear ht h1 hlt hk hll hl Hnext HA
        go_wp2_with fail
        refine HL.out.mono ?_
        rintro e w2 ⟨rfl, b2⟩
        have O2 := Lib.hid (Ok.out.call b2)
        clear b2 Ok
        go_wp2_with fail
        go_roundw
        case rel => have := Hk.out; exact ⟨k + 1, by omega, by go_num, by rw [Hn.out], O2.out⟩
        case measure => have := Hk.out; simp only [intOf]; omega
    · obtain rfl : k = 2 := by omega
      rw [show ((2 : Nat) : Int) = 2 from rfl]
      clear hk hlt
      go_upto_if 29 with fail
      go_cut [4] (fun s wx => s = .string (strO (toldT p)) ∧ wx = wr)
      case first =>
        have hl := preT_len R.out 2
        by_cases ht : preT p 2 = []
        · have Hn := Lib.hid (show toldT p = preT p 2 by unfold toldT; rw [if_pos ht, ht])
          have he : (strO (preT p 2)).toList.isEmpty = true := by rw [strO_empty, decide_eq_true ht]
          rw [he]
          clear he
          generalize preT p 2 = T at *
          clear ht
          go_wp2_with fail
          go_meet
          exact ⟨by rw [Hn.out], rfl⟩
        · have Hn := Lib.hid (show toldT p = preT p 2 ++ [46, 46, 46, 10] by unfold toldT; rw [if_neg ht])
          have he : (strO (preT p 2)).toList.isEmpty = false := by rw [strO_empty, decide_eq_false ht]
          rw [he]
          clear he
          have ha := fun (w' : World) => addS (P := Tryz.prog) (preT p 2) [46, 46, 46, 10] (by omega) (by decide) w'
          rw [← Hn.out] at ha
          generalize strO (toldT p) = s1 at *
          generalize preT p 2 = T at *
          have hz : strO [46, 46, 46, 10] = ⟨#[46, 46, 46, 10]⟩ := rfl
          rw [hz] at ha
          clear ht hz
          go_wp2_with fail
          go_meet
          exact ⟨rfl, rfl⟩
      case rest =>
        obtain ⟨rfl, rfl⟩ := hcut
        have o3 := Ok.out
        have c0 := cell_of_heap (o := 0) (o3.blk (i := 0) rfl)
        have c3 := cell_of_heap (o := 3) (o3.blk (i := 0) rfl)
        simp only [List.getElem?_toArray, List.getElem?_cons_zero, List.getElem?_cons_succ] at c0 c3
        have hn := R.out.name20
        have hl := toldT_len R.out
        obtain ⟨s1, s2, hr1, hr2, hs2⟩ : ∃ s1 s2 : ByteArray, (∀ w' : World, (Op.stringOp .add (strO p.name) ⟨#[58, 10]⟩).run Tryz.prog w' = .ok (.string s1) w') ∧ (∀ w' : World, (Op.stringOp .add s1 (strO (toldT p))).run Tryz.prog w' = .ok (.string s2) w') ∧ s2 = strO (headT p) :=
          ⟨strO (p.name ++ [58, 10]), strO (headT p), fun w' => addS _ [58, 10] (by omega) (by decide) w', fun w' => addS _ _ (by simp; omega) (by omega) w', rfl⟩
        have B3 := Lib.hid o3.below
        have Hs2 := Lib.hid hs2
        have hml : p.msgs.length ≤ 9223372036854775807 := by have := R.out.msgs6; omega
        clear o3 Ok hn hl hs2 C0 C3
        generalize strO p.name = nm at *
        generalize strO (toldT p) = td at *
        go_wp2_with fail
        go_loopw [7, 40] (fun s i wr => ∃ k : Nat, k ≤ p.msgs.length ∧ i = .int .i64 k ∧ s = .string (strO (headT p ++ (p.msgs.take k).flatMap msgT)) ∧ Below w.heap.size w wr)
          (fun _ i _ => p.msgs.length - (intOf i).toNat)
        case atStart => exact ⟨0, by omega, rfl, by rw [Hs2.out]; simp, B3.out⟩
        case round =>
          clear B3 Hs2
          obtain ⟨k, hk, rfl, rfl, bk⟩ := hrel
          have Bk := Lib.hid bk
          clear bk
          by_cases hlt : k < p.msgs.length
          · obtain ⟨m, hm⟩ : ∃ m, p.msgs[k]? = some m := ⟨_, List.getElem?_eq_getElem hlt⟩
            have hik : (k : Int) < p.msgs.length := by omega
            have hmm := List.mem_of_getElem? hm
            obtain ⟨b, o, A2, c2, hA, x0, x1, hh⟩ := (HP.out.msgs.below Bk.out).at hm
            obtain ⟨f, hf⟩ := Int.eq_ofNat_of_zero_le (R.out.frm m hmm).1
            have hf1 : f ≤ 1 := by have := (R.out.frm m hmm).2; omega
            have ht1 := (R.out.t1 m hmm).1
            have ht2 := (R.out.t1 m hmm).2
            have hb1 := headT_len R.out
            have hb2 := msgsT_len (p.msgs.take k) (fun m hm => (R.out.t1 m (List.mem_of_mem_take hm)).2)
            have hb3 : (p.msgs.take k).length ≤ 6 := by rw [List.length_take]; have := R.out.msgs6; omega
            have hb4 := lineT_len f m.t
            have Htk := Lib.hid (show headT p ++ (p.msgs.take (k + 1)).flatMap msgT = (headT p ++ (p.msgs.take k).flatMap msgT) ++ lineT f m.t by
              rw [List.take_add_one, hm, List.flatMap_append, ← List.append_assoc]
              simp only [Option.toList_some, List.flatMap_cons, List.flatMap_nil, List.append_nil, msgT, hf, Int.toNat_natCast])
            have hb5 : (headT p ++ (p.msgs.take k).flatMap msgT).length ≤ 1000 := by rw [List.length_append]; omega
            rw [hf] at x0
            have Hlt := Lib.hid hlt
            have HA := Lib.hid (fun w' => addS (P := Tryz.prog) (headT p ++ (p.msgs.take k).flatMap msgT) (lineT f m.t) (by omega) (by omega) w')
            rw [← Htk.out] at HA
            have HL := Lib.hid (fun (w' : World) (b : Below wr.heap.size wr w') => line_calls c2 f hf1 (hh.below b) ht1 (by omega))
            generalize strO (headT p ++ (p.msgs.take k).flatMap msgT) = s3 at *
            generalize hs4 : strO (headT p ++ (p.msgs.take (k + 1)).flatMap msgT) = s4 at *
            have Hs4 := Lib.hid hs4
            clear hs4
            generalize strO (lineT f m.t) = s5 at *
            have ha := HA.out
            clear hm hmm hf ht1 ht2 hb1 hb2 hb3 hb4 hb5 hlt hk HA hh hf1
            obtain ⟨xv0, xv1, xA, xc⟩ := x
            dsimp only at hA
            subst hA
            dsimp only
            have hba := (Below.refl wr.heap.size wr).alloc (Nat.le_refl _) (.cells #[.int .i64 f, .slice A2 m.t.length c2] 61)
            go_wp2_with fail
            refine (HL.out _ hba).mono ?_
            rintro e w2 ⟨rfl, b2⟩
            have B2 := Lib.hid (below_call Bk.out (below_call hba b2))
            clear hba b2 x0 x1
            go_wp2_with fail
            go_roundw
            case rel =>
              have := Hlt.out
              exact ⟨k + 1, by omega, by go_num, by rw [Hs4.out], B2.out⟩
            case measure => have := Hlt.out; simp only [intOf]; omega
          · obtain rfl : k = p.msgs.length := by omega
            have Hq := Lib.hid (show strO (headT p ++ (p.msgs.take p.msgs.length).flatMap msgT) = strO (printT p) by rw [List.take_length]; rfl)
            clear hk hlt
            go_wp2_with fail
            go_ret2
            exact ⟨by rw [← Hq.out]; rfl, Bk.out⟩
end Go.Proofs.YtikimmgileffgaaGreatDoor
end
/- A text cut at each instance of one byte, as a plain list; the library's Split comes to it. No program in sight. -/
section
namespace Go.Proofs.YtikimmgileffgaaGreatDoor
open Go.RowKit

def splitL (c : UInt8) : List UInt8 → List (List UInt8)
  | [] => [[]]
  | b :: l => if b = c then [] :: splitL c l else match splitL c l with
    | [] => [[b]]
    | h :: t => (b :: h) :: t
theorem splitL_other {b c : UInt8} {l y : List UInt8} {t : List (List UInt8)} (h : b ≠ c) (hs : splitL c l = y :: t) : splitL c (b :: l) = (b :: y) :: t := by
  rw [splitL, if_neg h, hs]
theorem splitL_here (c : UInt8) (l : List UInt8) : splitL c (c :: l) = [] :: splitL c l := by rw [splitL, if_pos rfl]
theorem index_hit (c : UInt8) (l : List UInt8) : Lib.index (c :: l) [c] = 0 := by simp [Lib.index, List.isPrefixOf]
theorem index_other {b c : UInt8} (h : b ≠ c) (l : List UInt8) : Lib.index (b :: l) [c] = if Lib.index l [c] = -1 then -1 else Lib.index l [c] + 1 := by
  rw [Lib.index]
  have : [c].isPrefixOf (b :: l) = false := by simp [List.isPrefixOf]; exact Ne.symm h
  simp [this]
theorem split_eq (c : UInt8) : ∀ l : List UInt8, Lib.split l [c] = splitL c l
  | [] => by simp [Lib.split, splitL, Lib.count, Lib.countFrom, Lib.splitK, Lib.index]
  | b :: l => by
    have ih := split_eq c l
    by_cases h : b = c
    · subst h
      have h0 := index_hit b l
      unfold splitL
      rw [if_pos rfl, ← ih]
      unfold Lib.split
      rw [Lib.count_hit (i := 0) (by simp) (by rw [h0]; rfl)]
      show Lib.splitK [b] 0 (1 + Lib.count l [b]) (b :: l) = _
      rw [Nat.add_comm, Lib.splitK, h0]
      simp
    · have h1 := index_other h l
      unfold splitL
      rw [if_neg h, ← ih]
      rcases Lib.index_spec l [c] with ⟨hm, _⟩ | ⟨i, hi, _⟩
      · rw [if_pos hm] at h1
        unfold Lib.split
        rw [Lib.count_miss h1, Lib.count_miss hm]
        simp [Lib.splitK]
      · rw [if_neg (by omega), hi] at h1
        have h2 : Lib.index (b :: l) [c] = ((i + 1 : Nat) : Int) := by rw [h1]; rfl
        unfold Lib.split
        rw [Lib.count_hit (by simp) h2, Lib.count_hit (by simp) hi, Nat.add_comm 1, Nat.add_comm 1, Lib.splitK, Lib.splitK, h2, hi]
        have e1 : ¬ (((i + 1 : Nat) : Int) == -1) = true := by rw [beq_iff_eq]; omega
        have e2 : ¬ ((i : Int) == -1) = true := by rw [beq_iff_eq]; omega
        rw [if_neg e1, if_neg e2]
        simp
theorem splitL_length (c : UInt8) : ∀ l : List UInt8, (splitL c l).length ≤ l.length + 1
  | [] => by simp [splitL]
  | b :: l => by
    have := splitL_length c l
    unfold splitL; split
    · simp; omega
    · split
      · simp
      · rename_i h t e; rw [e] at this; simp at this ⊢; omega
theorem splitL_mem_length (c : UInt8) : ∀ (l : List UInt8), ∀ x ∈ splitL c l, x.length ≤ l.length
  | [], x, h => by simp [splitL] at h; simp [h]
  | b :: l, x, h => by
    have ih := splitL_mem_length c l
    unfold splitL at h
    split at h
    · rcases List.mem_cons.1 h with rfl | h
      · simp
      · have := ih x h; simp; omega
    · split at h
      · simp at h; simp [h]
      · rename_i y t e
        rcases List.mem_cons.1 h with rfl | h
        · have := ih y (by rw [e]; simp); simp; omega
        · have := ih x (by rw [e]; simp [h]); simp; omega
end Go.Proofs.YtikimmgileffgaaGreatDoor
end
/- What Parse's parts tell of what Print has written (layer 5). No program in sight. -/
section
namespace Go.Proofs.YtikimmgileffgaaGreatDoor
open Go.RowKit

/-- Where a separator stands first: behind a text that does not hold its first byte. -/
theorem index_after (c : UInt8) (ds : List UInt8) (rest : List UInt8) : ∀ x : List UInt8, c ∉ x → Lib.index (x ++ (c :: ds) ++ rest) (c :: ds) = x.length
  | [], _ => by
    show Lib.index (c :: (ds ++ rest)) (c :: ds) = _
    unfold Lib.index
    rw [if_pos (by rw [List.isPrefixOf_iff_prefix, List.cons_prefix_cons]; exact ⟨rfl, List.prefix_append _ _⟩)]
    rfl
  | b :: x, h => by
    have hb : b ≠ c := fun e => h (by rw [e]; exact List.mem_cons_self)
    have ih := index_after c ds rest x (fun e => h (List.mem_cons_of_mem _ e))
    show Lib.index (b :: (x ++ (c :: ds) ++ rest)) (c :: ds) = _
    rw [Lib.index, if_neg (by rw [List.isPrefixOf_iff_prefix, List.cons_prefix_cons]; exact fun e => hb e.1.symm), ih, if_neg (by rw [beq_iff_eq]; omega)]
    simp
theorem index_none (c : UInt8) (ds : List UInt8) : ∀ x : List UInt8, c ∉ x → Lib.index x (c :: ds) = -1
  | [], _ => rfl
  | b :: x, h => by
    have hb : b ≠ c := fun e => h (by rw [e]; exact List.mem_cons_self)
    rw [Lib.index, if_neg (by rw [List.isPrefixOf_iff_prefix, List.cons_prefix_cons]; exact fun e => hb e.1.symm), index_none c ds x (fun e => h (List.mem_cons_of_mem _ e))]
    rfl
theorem split_none (c : UInt8) (ds x : List UInt8) (h : c ∉ x) : Lib.split x (c :: ds) = [x] := by
  unfold Lib.split
  rw [Lib.count_miss (index_none c ds x h)]; rfl
theorem split_after (c : UInt8) (ds x rest : List UInt8) (h : c ∉ x) : Lib.split (x ++ (c :: ds) ++ rest) (c :: ds) = x :: Lib.split rest (c :: ds) := by
  have hi := index_after c ds rest x h
  have hd : (x ++ (c :: ds) ++ rest).drop (x.length + (c :: ds).length) = rest := by
    rw [show x.length + (c :: ds).length = (x ++ (c :: ds)).length by rw [List.length_append], List.drop_left]
  unfold Lib.split
  rw [Lib.count_hit (by simp) hi, hd, Nat.add_comm 1, Lib.splitK, hi, if_neg (by rw [beq_iff_eq]; omega)]
  have e : ((x.length : Int)).toNat = x.length := by omega
  rw [e, hd, Nat.add_zero, List.append_assoc, List.take_left]
theorem split_joined (c : UInt8) (ds : List UInt8) : ∀ (xs : List (List UInt8)), xs ≠ [] → (∀ x ∈ xs, c ∉ x) → Lib.split (Lib.join xs (c :: ds)) (c :: ds) = xs
  | [], h, _ => absurd rfl h
  | [x], _, hc => by rw [Lib.join_one]; exact split_none c ds x (hc x (by simp))
  | x :: y :: r, _, hc => by
    have e : Lib.join (x :: y :: r) (c :: ds) = x ++ (c :: ds) ++ Lib.join (y :: r) (c :: ds) := by
      rw [Lib.join_cons, Lib.join_cons]; simp [Lib.joinTail, List.append_assoc]
    rw [e, split_after c ds x _ (hc x (by simp)), split_joined c ds (y :: r) (by simp) (fun z hz => hc z (List.mem_cons_of_mem _ hz))]
/-- What Parse reads of an arrow, of a token's name. -/
def arrowI (a : List UInt8) : Int := if a = [45, 62] then 0 else if a = [60, 45] then 1 else -1
def tokI (s : List UInt8) : Int := if s = [63] then 0 else if s = [101] then 1 else if s = [115] then 2 else if s = [101, 101] then 3 else if s = [101, 115] then 4 else if s = [115, 101] then 5 else if s = [115, 115] then 6 else if s = [112, 115, 107] then 7 else -1
theorem strO_iff (a b : List UInt8) : strO b = strO a ↔ a = b := ⟨fun h => (strO_inj h).symm, fun h => by rw [h]⟩
theorem arrowI_eq (a : List UInt8) : Lib.idxOfS [strO [45, 62], strO [60, 45]] (strO a) = arrowI a := by
  simp only [Lib.idxOfS, Lib.idxFromS, strO_iff]; rfl
theorem tokI_eq (a : List UInt8) : Lib.idxOfS [strO [63], strO [101], strO [115], strO [101, 101], strO [101, 115], strO [115, 101], strO [115, 115], strO [112, 115, 107]] (strO a) = tokI a := by
  simp only [Lib.idxOfS, Lib.idxFromS, strO_iff]; rfl
theorem tok_round {t : Int} (h1 : 1 ≤ t) (h7 : t ≤ 7) : tokI (tokName t) = t := by
  have : t = 1 ∨ t = 2 ∨ t = 3 ∨ t = 4 ∨ t = 5 ∨ t = 6 ∨ t = 7 := by omega
  rcases this with rfl | rfl | rfl | rfl | rfl | rfl | rfl <;> decide
theorem arrow_round {who : Nat} (h : who ≤ 1) : arrowI (arrowT who) = who := by
  have : who = 0 ∨ who = 1 := by omega
  rcases this with rfl | rfl <;> decide
theorem tokName_no (c : UInt8) (h : c ≠ 101 ∧ c ≠ 115 ∧ c ≠ 112 ∧ c ≠ 107 ∧ c ≠ 63) (t : Int) : c ∉ tokName t := by
  obtain ⟨h1, h2, h3, h4, h5⟩ := h
  unfold tokName
  (repeat' split) <;> simp [h1, h2, h3, h4, h5]
theorem arrowT_no (c : UInt8) (h : c ≠ 45 ∧ c ≠ 62 ∧ c ≠ 60) (n : Nat) : c ∉ arrowT n := by
  obtain ⟨h1, h2, h3⟩ := h
  unfold arrowT; split <;> simp [h1, h2, h3]
theorem joinT_no (c : UInt8) (h : c ≠ 101 ∧ c ≠ 115 ∧ c ≠ 112 ∧ c ≠ 107 ∧ c ≠ 63) (hc : c ≠ 44 ∧ c ≠ 32) (t : List Int) : c ∉ joinT t := by
  unfold joinT
  cases t with
  | nil => simp [Lib.join_nil]
  | cons x t =>
    rw [List.map_cons, Lib.join_cons]
    intro hm
    rcases List.mem_append.1 hm with hm | hm
    · exact tokName_no c h x hm
    · unfold Lib.joinTail at hm
      rw [List.mem_flatten] at hm
      obtain ⟨l, hl, hm⟩ := hm
      rw [List.map_map] at hl
      obtain ⟨y, _, rfl⟩ := List.mem_map.1 hl
      rcases List.mem_append.1 hm with hm | hm
      · simp [hc.1, hc.2] at hm
      · exact tokName_no c h y hm
/-- A line without its end. -/
def bareT (who : Nat) (t : List Int) : List UInt8 := arrowT who ++ [32] ++ joinT t
theorem lineT_eq (who : Nat) (t : List Int) : lineT who t = bareT who t ++ [10] := rfl
def rowM (s : List UInt8) : Msg := ⟨arrowI (Lib.cut s [32]).1, (Lib.split (Lib.cut s [32]).2.1 [44, 32]).map tokI⟩
def rowB (m : Msg) : Bool := decide (0 ≤ m.frm) && !m.t.any fun t => decide (t < 1)
theorem row_bare {who : Nat} {t : List Int} (hw : who ≤ 1) (h1 : t ≠ []) (ht : ∀ x ∈ t, 1 ≤ x ∧ x ≤ 7) : rowM (bareT who t) = ⟨who, t⟩ := by
  have hi := index_after 32 [] (joinT t) (arrowT who) (arrowT_no 32 (by decide) who)
  have hc : Lib.cut (bareT who t) [32] = (arrowT who, joinT t, true) := by
    unfold Lib.cut bareT
    rw [hi, if_pos (by omega)]
    have e : ((arrowT who).length : Int).toNat = (arrowT who).length := by omega
    rw [e]
    refine Prod.ext ?_ (Prod.ext ?_ rfl)
    · rw [List.append_assoc]; exact List.take_left
    · show List.drop ((arrowT who).length + [32].length) _ = _
      rw [← List.length_append]; exact List.drop_left
  unfold rowM
  rw [hc]
  dsimp only
  unfold joinT
  rw [split_joined 44 [32] _ (by simpa using h1) (fun x hx => by obtain ⟨y, _, rfl⟩ := List.mem_map.1 hx; exact tokName_no 44 (by decide) y), List.map_map, arrow_round hw]
  congr 1
  conv => rhs; rw [← List.map_id t]
  exact List.map_congr_left fun x hx => tok_round (ht x hx).1 (ht x hx).2
theorem rowB_bare {who : Nat} {t : List Int} (ht : ∀ x ∈ t, 1 ≤ x ∧ x ≤ 7) : rowB ⟨who, t⟩ = true := by
  unfold rowB
  have : (t.any fun t => decide (t < 1)) = false := by
    rw [List.any_eq_false]; intro x hx; have := (ht x hx).1; simp; omega
  rw [this]; simp
theorem row_empty : rowB (rowM []) = false := by decide +kernel
theorem splitL_after (c : UInt8) : ∀ (x rest : List UInt8), c ∉ x → splitL c (x ++ c :: rest) = x :: splitL c rest
  | [], rest, _ => splitL_here c rest
  | b :: x, rest, h => by
    have hb : b ≠ c := fun e => h (by rw [e]; exact List.mem_cons_self)
    exact splitL_other hb (splitL_after c x rest (fun e => h (List.mem_cons_of_mem _ e)))
theorem bareT_no (who : Nat) (t : List Int) : (10 : UInt8) ∉ bareT who t := by
  unfold bareT
  intro h
  rcases List.mem_append.1 h with h | h
  · rcases List.mem_append.1 h with h | h
    · exact arrowT_no 10 (by decide) who h
    · simp at h
  · exact joinT_no 10 (by decide) (by decide) t h
theorem okB_no {s : List UInt8} (h : s.all okB = true) (c : UInt8) (hc : okB c = false) : c ∉ s := fun hm => by
  rw [List.all_eq_true] at h
  have := h c hm
  rw [hc] at this; cases this
/-- The rows of a printed pattern. -/
def toldR (p : Pat) : List (List UInt8) := (if p.pre0 = [] then [] else [bareT 0 p.pre0]) ++ (if p.pre1 = [] then [] else [bareT 1 p.pre1])
def rowsP (p : Pat) : List (List UInt8) := (toldR p ++ if toldR p = [] then [] else [[46, 46, 46]]) ++ p.msgs.map fun m => bareT m.frm.toNat m.t
theorem lines_split : ∀ (rs : List (List UInt8)), (∀ r ∈ rs, (10 : UInt8) ∉ r) → splitL 10 (rs.flatMap fun r => r ++ [10]) = rs ++ [[]]
  | [], _ => rfl
  | r :: rs, h => by
    have e : (r :: rs).flatMap (fun r => r ++ [10]) = r ++ 10 :: rs.flatMap (fun r => r ++ [10]) := by rw [List.flatMap_cons, List.append_assoc]; rfl
    rw [e, splitL_after 10 r _ (h r List.mem_cons_self), lines_split rs (fun x hx => h x (List.mem_cons_of_mem _ hx))]
    rfl
theorem toldT_lines (p : Pat) : toldT p = (toldR p ++ if toldR p = [] then [] else [[46, 46, 46]]).flatMap fun r => r ++ [10] := by
  have e0 : preK p 0 = p.pre0 := rfl
  have e1 : preK p 1 = p.pre1 := rfl
  unfold toldT toldR
  simp only [preT, e0, e1]
  by_cases h0 : p.pre0 = [] <;> by_cases h1 : p.pre1 = [] <;> simp [h0, h1, lineT_eq]
theorem msgs_lines (l : List Msg) : l.flatMap msgT = (l.map fun m => bareT m.frm.toNat m.t).flatMap fun r => r ++ [10] := by
  rw [List.flatMap_map]; rfl
theorem printT_split {p : Pat} (h : p.name.all okB = true) : splitL 10 (printT p) = (p.name ++ [58]) :: (rowsP p ++ [[]]) := by
  have e : printT p = (p.name ++ [58]) ++ 10 :: ((rowsP p).flatMap fun r => r ++ [10]) := by
    unfold printT headT rowsP
    rw [toldT_lines, msgs_lines, List.flatMap_append]
    simp
  rw [e, splitL_after 10 _ _ (by
    intro hm
    rcases List.mem_append.1 hm with hm | hm
    · exact okB_no h 10 (by decide) hm
    · simp at hm), lines_split]
  intro r hr
  unfold rowsP at hr
  rcases List.mem_append.1 hr with hr | hr
  · rcases List.mem_append.1 hr with hr | hr
    · unfold toldR at hr
      rcases List.mem_append.1 hr with hr | hr
      · by_cases h0 : p.pre0 = []
        · rw [if_pos h0] at hr; cases hr
        · rw [if_neg h0] at hr; obtain rfl := List.mem_singleton.1 hr; exact bareT_no _ _
      · by_cases h0 : p.pre1 = []
        · rw [if_pos h0] at hr; cases hr
        · rw [if_neg h0] at hr; obtain rfl := List.mem_singleton.1 hr; exact bareT_no _ _
    · by_cases h0 : toldR p = []
      · rw [if_pos h0] at hr; cases hr
      · rw [if_neg h0] at hr; obtain rfl := List.mem_singleton.1 hr; decide
  · obtain ⟨m, _, rfl⟩ := List.mem_map.1 hr; exact bareT_no _ _
end Go.Proofs.YtikimmgileffgaaGreatDoor
end
/- A row of a text read (layer 5): the library's calls, and row. -/
section
namespace Go.Proofs.YtikimmgileffgaaGreatDoor
open Go.RowKit

/-- What the strings' library reads of package-level variables. -/
structure EnvS (w : World) : Prop where
  mlen : ∃ m, w.cell? ⟨2, 0, none⟩ = some (.int .i64 m)
theorem EnvS.below {w w' : World} (h : EnvS w) (hb : Below w.heap.size w w') : EnvS w' := by
  obtain ⟨m, hm⟩ := h.mlen
  exact ⟨m, (hb.cell (World.block_lt_of_cell? w _ hm)).trans hm⟩
theorem splitK_len (sep : List UInt8) (hsep : sep ≠ []) : ∀ (n : Nat) (s : List UInt8), Lib.count s sep = n → (Lib.splitK sep 0 n s).length = n + 1
  | 0, s, _ => rfl
  | n + 1, s, h => by
    rcases Lib.index_spec s sep with ⟨hm, _⟩ | ⟨i, hi, _⟩
    · rw [Lib.count_miss hm] at h; cases h
    · rw [Lib.count_hit hsep hi] at h
      rw [Lib.splitK, hi, if_neg (by rw [beq_iff_eq]; omega)]
      have e : ((i : Int)).toNat = i := by omega
      rw [e, List.length_cons, splitK_len sep hsep n _ (by omega)]
theorem split_len (s sep : List UInt8) (hsep : sep ≠ []) : (Lib.split s sep).length = Lib.count s sep + 1 := splitK_len sep hsep _ s rfl
theorem splitB_strs (s sep : List UInt8) : Lib.splitB (strO sep) 0 (Lib.countB (strO s) (strO sep)) (strO s) = (Lib.split s sep).map strO := by
  have h := Lib.splitB_data (strO sep) 0 (Lib.countB (strO s) (strO sep)) (strO s)
  rw [strO_data, strO_data] at h
  have e : Lib.countB (strO s) (strO sep) = Lib.count s sep := by unfold Lib.countB; rw [strO_data, strO_data]
  rw [e] at h ⊢
  have h2 := congrArg (List.map strO) h
  rw [List.map_map] at h2
  have hid : (strO ∘ fun x : ByteArray => x.data.toList) = id := by funext x; exact strO_toList x
  rw [hid, List.map_id] at h2
  exact h2
def SplitPost (s sep : List UInt8) (w : World) (e : Ending) (w' : World) : Prop :=
  e = .returned (.slice (some ⟨w.heap.size, 0, none⟩) (Lib.split s sep).length (Lib.split s sep).length) ∧ w' = w.alloc (.cells (strsV (Lib.split s sep)).toArray 9)
theorem split5_calls (s sep : List UInt8) (w : World) (he : EnvS w) (hs : s.length < 4294967281) (h1 : sep ≠ []) : Calls Tryz.prog 57 #[.string (strO s), .string (strO sep)] w (SplitPost s sep w) := by
  obtain ⟨m, hm⟩ := he.mlen
  have h2 : 1 ≤ (strO sep).size := by rw [size_str]; exact List.length_pos_iff.2 h1
  refine (Sh.strings_Split (strO s) (strO sep) m w (by rw [size_str]; exact hs) hm h2).mono fun e w' ⟨h3, h4⟩ => ?_
  have e1 : Lib.countB (strO s) (strO sep) + 1 = (Lib.split s sep).length := by rw [split_len _ _ h1]; unfold Lib.countB; rw [strO_data, strO_data]
  rw [splitB_strs] at h4
  rw [e1] at h3
  exact ⟨h3, by rw [h4, List.map_map]; rfl⟩
def CutPost (s sep : List UInt8) (w : World) (e : Ending) (w' : World) : Prop :=
  e = .returned (.tuple #[.string (strO (Lib.cut s sep).1), .string (strO (Lib.cut s sep).2.1), .bool (Lib.cut s sep).2.2]) ∧ Below w.heap.size w w'
theorem cut5_calls (s sep : List UInt8) (w : World) (he : EnvS w) (hs : s.length < 4294967281) : Calls Tryz.prog 172 #[.string (strO s), .string (strO sep)] w (CutPost s sep w) := by
  obtain ⟨m, hm⟩ := he.mlen
  refine (Sh.strings_Cut (strO s) (strO sep) m w (by rw [size_str]; exact hs) hm).mono fun e w' ⟨h3, n, h4⟩ => ⟨?_, ?_⟩
  · rw [h3, strO_data, strO_data]; rfl
  · rw [h4]; exact Upd.below (S := None) ((Upd.refl _ _).drewN _) (Nat.le_refl _) (fun _ _ h => h)
theorem index5_calls (xs : List (List UInt8)) (x : List UInt8) (b o c : Nat) (w : World) (hn : xs.length ≤ 9223372036854775807) (hc : ∀ j s, xs[j]? = some s → w.cell? ⟨b, o + j, none⟩ = some (.string (strO s))) :
    Calls Tryz.prog 53 #[.slice (some ⟨b, o, none⟩) xs.length c, .string (strO x)] w fun e w' => e = .returned (.int .i64 (Lib.idxOfS (xs.map strO) (strO x))) ∧ w' = w := by
  have h := Sh.slices_Index_string b o xs.length c (xs.map strO) (strO x) w (by rw [List.length_map]; exact Nat.le_refl _) hn (fun j hj => by
    rw [List.length_map] at hj
    rw [List.getD_eq_getElem?_getD, List.getElem?_map, List.getElem?_eq_getElem hj]
    exact hc j _ (List.getElem?_eq_getElem hj))
  rwa [show (xs.map strO).take xs.length = xs.map strO by rw [← List.length_map (f := strO), List.take_length]] at h
theorem enters_row1 : ∀ args w, (callFunc 173 args).run Tryz.prog w = .ok (.enter 173 args) w := enters_of Tryz.func173 (by kernel_rfl) rfl
theorem row1_calls (t : Int) (w : World) : Calls Tryz.prog 173 #[.int .i64 t] w fun e w' => e = .returned (.bool (decide (t < 1))) ∧ w = w' := by
  go_enter Tryz.func173, Tryz.ntmps173
  go_wp2_with fail
  go_ret
  exact ⟨rfl, rfl⟩
theorem row1_pred (w : World) : PredAt Tryz.prog 173 #[] (Value.int .i64) (fun t => decide (t < 1)) w := fun W x _ => by
  show Calls Tryz.prog 173 #[.int .i64 x] W _
  exact (row1_calls x W).mono fun e w' ⟨h1, h2⟩ => ⟨h1, 0, by rw [← h2]; rfl⟩
theorem anyBad_calls {w : World} {A : Option Addr} {l : List Int} (c : Nat) (h : Holds w A (intsV l)) (hl : l.length ≤ 9223372036854775807) :
    Calls Tryz.prog 114 #[.slice A l.length c, .func (.func 173) #[] #[]] w fun e w' => e = .returned (.bool (l.any fun t => decide (t < 1))) ∧ Below w.heap.size w w' := by
  rcases h with h | ⟨b, o, rfl, h⟩
  · have h0 : l = [] := by simpa [intsV] using h
    subst h0
    exact (Sh.slices_ContainsFunc_empty (α := Int) A c _ w).mono fun e w' ⟨h1, h2⟩ => ⟨h1, by rw [h2]; exact Below.refl _ _⟩
  · refine (Sh.slices_ContainsFunc (Value.int .i64) (fun t => decide (t < 1)) 173 #[] enters_row1 b o l.length c l w (row1_pred w) (Nat.le_refl _) hl (fun j hj => h j _ (by simp [intsV, hj]))).mono fun e w' ⟨h1, q, h2⟩ => ⟨?_, ?_⟩
    · rw [h1, List.take_length]
    · rw [h2]; exact Upd.below (S := None) ((Upd.refl _ _).drewN _) (Nat.le_refl _) (fun _ _ h => h)
end Go.Proofs.YtikimmgileffgaaGreatDoor
end
