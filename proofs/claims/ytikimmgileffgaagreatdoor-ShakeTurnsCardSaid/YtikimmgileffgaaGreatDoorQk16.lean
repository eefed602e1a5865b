/- Packed by packn.py: ValX, ValY, ValZ, ValC. -/
import Derived.Test.YtikimmgileffgaaGreatDoorQk15
/- The rules of patterns (layer 7): begin, end. Printed by s_valid3.py. -/
section
namespace Go.Proofs.YtikimmgileffgaaGreatDoor
open Go.RowKit
theorem List.set_eq_of_getElem? {α : Type} {l : List α} {i : Nat} {x : α} (h : l[i]? = some x) : l.set i x = l := by
  obtain ⟨hi, rfl⟩ := List.getElem?_eq_some_iff.1 h
  exact List.set_getElem_self hi
set_option warningAsError false in
set_option maxRecDepth 100000 in
set_option maxHeartbeats 2000000 in
theorem begin1E {w : World} {frm : Int} {ts : List Int} {A : Option Addr} {c : Nat} (hh : Holds w A (intsV ts)) (hl : ts.length ≤ 9223372036854775807) :
    Calls Tryz.prog 184 #[.agg #[.int .i64 frm, .slice A ts.length c]] w fun e' w' => e' = .returned (.bool (decide ((7 : Int) ∈ ts))) ∧ Below w.heap.size w w' := by
 have O0 := Own.start w
 replace O0 : Own w w (List.map Ent.t []) := O0
 refine gent O0 Tryz.func184 ?_
 refine sg1 [.n [], .p 2, .a (.r 0)] O0 fun b1 w2 O3 => ?_
 obtain ⟨is4, hm5⟩ : ∃ b, decide (7 ∈ ts) = b := ⟨_, rfl⟩
 refine gU (args := #[.slice A ts.length c, .int .i64 7]) (containsE O3 hh hl hm5) fun w6 O7 => ?_
 refine sg0 [.p 1] O7 fun w9 O10 => ?_
 exact gret (v := .bool is4) [] O10 (⟨by simp [hm5], O10.below⟩)
set_option warningAsError false in
set_option maxRecDepth 100000 in
set_option maxHeartbeats 2000000 in
theorem mode1E {w : World} {frm : Int} {ts : List Int} {A : Option Addr} {c : Nat} (hh : Holds w A (intsV ts)) (hl : ts.length ≤ 9223372036854775807) :
    Calls Tryz.prog 199 #[.agg #[.int .i64 frm, .slice A ts.length c]] w fun e' w' => e' = .returned (.bool (decide ((7 : Int) ∈ ts))) ∧ Below w.heap.size w w' := by
 have O0 := Own.start w
 replace O0 : Own w w (List.map Ent.t []) := O0
 refine gent O0 Tryz.func199 ?_
 refine sg1 [.n [], .p 2, .a (.r 0)] O0 fun b1 w2 O3 => ?_
 obtain ⟨is4, hm5⟩ : ∃ b, decide (7 ∈ ts) = b := ⟨_, rfl⟩
 refine gU (args := #[.slice A ts.length c, .int .i64 7]) (containsE O3 hh hl hm5) fun w6 O7 => ?_
 refine sg0 [.p 1] O7 fun w9 O10 => ?_
 exact gret (v := .bool is4) [] O10 (⟨by simp [hm5], O10.below⟩)
set_option warningAsError false in
set_option maxRecDepth 100000 in
set_option maxHeartbeats 2000000 in
theorem endE {w0 w : World} {M : List Thing} {b : Nat} {f : Nat → Bool} {A0 A1 A : Option Addr} {c0 c1 c : Nat} {p : Pat} (O : Own w0 w M) (i : Nat) (hi : M[i]? = some (blk b (vObj f))) (hp : PatIn w0 (Old w0) (pvx A0 c0 A1 c1 A c p) p) (hne : p.msgs ≠ []) :
    Calls Tryz.prog 153 #[.pointer (some ⟨b, 0, none⟩), .agg #[.string (strO p.name), .slice A0 p.pre0.length c0, .slice A1 p.pre1.length c1, .slice A p.msgs.length c]] w fun e' w' => e' = .returned (.int .i64 (endV p f)) ∧ Own w0 w' M := by
 obtain ⟨T, _, O0, back⟩ := O.focD hi
 replace O0 : Own _ _ (List.map Ent.t (.blk b (.cells #[.bool (f 0), .bool (f 1), .bool (f 2), .bool (f 3), .bool (f 4), .bool (f 5), .bool (f 6), .bool (f 7), .bool (f 8), .bool (f 9), .bool (f 10), .bool (f 11), .bool (f 12), .bool (f 13), .bool (f 14), .bool (f 15)] 256) :: T)) := O0
 obtain ⟨m0, hm0, hfr⟩ : ∃ m, p.msgs[0]? = some m ∧ frm0 p = m.frm := by cases hms : p.msgs with | nil => rw [hms] at hne; exact absurd rfl hne | cons m l => exact ⟨m, rfl, by simp [frm0, hms]⟩
 obtain ⟨mb, mq, B, d, hA, hB, hcell⟩ := msg_at hp.msgs hm0
 have hpos : 0 < p.msgs.length := List.length_pos_iff.2 hne
 refine gent O0 Tryz.func153 ?_
 refine sg1 [.n [], .p 4] O0 fun b1 w2 O3 => ?_
 rcases Bool.eq_false_or_eq_true (f 15) with h4 | h4
 · refine sg0 [.a (bR 1 h4), .p 3, .u 2, .p 4, .a (.r 0)] O3 fun w5 O6 => ?_
   refine gi (args := #[.agg #[.string (strO p.name), .slice A0 p.pre0.length c0, .slice A1 p.pre1.length c1, .slice A p.msgs.length c]]) Tryz.func98 O6 fun O6i => ?_
   refine sg1 [.n [], .p 2, .a (.r 0), .p 1] O6i fun b7 w8 O9 => ?_
   rcases Bool.eq_false_or_eq_true ((p.msgs.length : Int) == 1) with h10 | h10
   · have h10p : (p.msgs.length : Int) = 1 := by simpa using h10
     have h10o : oneWay p = true := by simp [oneWay]; omega
     refine sg0 [.a (bT h10), .p 1] O9 fun w11 O12 => ?_
     refine gir [] O12 fun O13 => ?_
     refine sg0 [.p 2, .a (.r 1), .a (.i _ mb mq p.msgs.length 0 hA hpos), .p 1] O13 fun w14 O15 => ?_
     refine gx [.cell mb (mq + 0 * 2) (.int .i64 m0.frm)] O15 ⟨(hcell _ O15.below).1, trivial⟩ fun O16 => ?_
     refine sg0 [.a (.r 0), .p 1] O16 fun w17 O18 => ?_
     rcases Bool.eq_false_or_eq_true (m0.frm != 0) with h19 | h19
     · have h19p : ¬ m0.frm = 0 := by simpa using h19
       refine sg0 [.a (bT h19), .p 8, .a (.r 2)] O18 fun w20 O21 => ?_
       refine gi (args := #[.agg #[.string (strO p.name), .slice A0 p.pre0.length c0, .slice A1 p.pre1.length c1, .slice A p.msgs.length c]]) Tryz.func98 O21 fun O21i => ?_
       refine sg1 [.n [], .p 2, .a (.r 0), .p 1, .a (bT h10), .p 1] O21i fun b22 w23 O24 => ?_
       refine gir [] O24 fun O25 => ?_
       refine sg0 [.p 2, .a (.r 2), .a (.i _ mb mq p.msgs.length 0 hA hpos), .p 1] O25 fun w26 O27 => ?_
       refine gx [.cell mb (mq + 0 * 2) (.int .i64 m0.frm)] O27 ⟨(hcell _ O27.below).1, trivial⟩ fun O28 => ?_
       refine sg0 [.a (.r 0), .p 1] O28 fun w29 O30 => ?_
       rcases Bool.eq_false_or_eq_true (m0.frm != 1) with h31 | h31
       · have h31p : ¬ m0.frm = 1 := by simpa using h31
         refine sg0 [.a (bT h31), .p 7] O30 fun w32 O33 => ?_
         have h9 : Own w0 w32 (M.set i (blk b (vObj f))) := back 3 O33
         rw [List.set_eq_of_getElem? hi] at h9
         exact gret (v := .int .i64 0) [] O33 (⟨by first | (exfalso; omega) | simp [endV, hfr, h4, h10o, h19p, h31p], h9⟩)
       · have h31p : m0.frm = 1 := by simpa using h31
         refine sg0 [.a (bT h31), .p 4] O30 fun w34 O35 => ?_
         refine gU (args := #[.pointer (some ⟨b, 0, none⟩), .int .i64 1]) (sealingE (f := f) O35 3 (by kernel_rfl) (by decide)) fun w36 O37 => ?_
         refine sg0 [.p 2] O37 fun w39 O40 => ?_
         rcases Bool.eq_false_or_eq_true (decide ((forbV f 1) > 0)) with h41 | h41
         · have h41p : (0 < (forbV f 1)) := by simpa only [decide_eq_true_eq, decide_eq_false_iff_not] using h41
           refine sg0 [.a (bT h41), .p 3] O40 fun w42 O43 => ?_
           have h9 : Own w0 w42 (M.set i (blk b (vObj f))) := back 3 O43
           rw [List.set_eq_of_getElem? hi] at h9
           exact gret (v := .int .i64 (forbV f 1)) [] O43 (⟨by first | (exfalso; omega) | simp [endV, hfr, h4, h10o, h31p, h41p], h9⟩)
         · have h41p : ¬ (0 < (forbV f 1)) := by simpa only [decide_eq_true_eq, decide_eq_false_iff_not] using h41
           refine sg0 [.a (bT h41), .p 6] O40 fun w44 O45 => ?_
           have h9 : Own w0 w44 (M.set i (blk b (vObj f))) := back 3 O45
           rw [List.set_eq_of_getElem? hi] at h9
           exact gret (v := .int .i64 0) [] O45 (⟨by first | (exfalso; omega) | simp [endV, hfr, h4, h10o, h31p, h41p], h9⟩)
     · have h19p : m0.frm = 0 := by simpa using h19
       refine sg0 [.a (bT h19), .p 4] O18 fun w46 O47 => ?_
       refine gU (args := #[.pointer (some ⟨b, 0, none⟩), .int .i64 0]) (sealingE (f := f) O47 2 (by kernel_rfl) (by decide)) fun w48 O49 => ?_
       refine sg0 [.p 2] O49 fun w51 O52 => ?_
       rcases Bool.eq_false_or_eq_true (decide ((forbV f 0) > 0)) with h53 | h53
       · have h53p : (0 < (forbV f 0)) := by simpa only [decide_eq_true_eq, decide_eq_false_iff_not] using h53
         refine sg0 [.a (bT h53), .p 3] O52 fun w54 O55 => ?_
         have h9 : Own w0 w54 (M.set i (blk b (vObj f))) := back 2 O55
         rw [List.set_eq_of_getElem? hi] at h9
         exact gret (v := .int .i64 (forbV f 0)) [] O55 (⟨by first | (exfalso; omega) | simp [endV, hfr, h4, h10o, h19p, h53p], h9⟩)
       · have h53p : ¬ (0 < (forbV f 0)) := by simpa only [decide_eq_true_eq, decide_eq_false_iff_not] using h53
         refine sg0 [.a (bT h53), .p 7, .a (.r 1)] O52 fun w56 O57 => ?_
         refine gi (args := #[.agg #[.string (strO p.name), .slice A0 p.pre0.length c0, .slice A1 p.pre1.length c1, .slice A p.msgs.length c]]) Tryz.func98 O57 fun O57i => ?_
         refine sg1 [.n [], .p 2, .a (.r 0), .p 1, .a (bT h10), .p 1] O57i fun b58 w59 O60 => ?_
         refine gir [] O60 fun O61 => ?_
         refine sg0 [.p 2, .a (.r 2), .a (.i _ mb mq p.msgs.length 0 hA hpos), .p 1] O61 fun w62 O63 => ?_
         refine gx [.cell mb (mq + 0 * 2) (.int .i64 m0.frm)] O63 ⟨(hcell _ O63.below).1, trivial⟩ fun O64 => ?_
         refine sg0 [.a (.r 0), .p 1] O64 fun w65 O66 => ?_
         rcases Bool.eq_false_or_eq_true (m0.frm != 1) with h67 | h67
         · have h67p : ¬ m0.frm = 1 := by simpa using h67
           refine sg0 [.a (bT h67), .p 7] O66 fun w68 O69 => ?_
           have h9 : Own w0 w68 (M.set i (blk b (vObj f))) := back 3 O69
           rw [List.set_eq_of_getElem? hi] at h9
           exact gret (v := .int .i64 0) [] O69 (⟨by first | (exfalso; omega) | simp [endV, hfr, h4, h10o, h19p, h53p], h9⟩)
         · have h67p : m0.frm = 1 := by simpa using h67
           refine sg0 [.a (bT h67), .p 4] O66 fun w70 O71 => ?_
           refine gU (args := #[.pointer (some ⟨b, 0, none⟩), .int .i64 1]) (sealingE (f := f) O71 3 (by kernel_rfl) (by decide)) fun w72 O73 => ?_
           refine sg0 [.p 2] O73 fun w75 O76 => ?_
           rcases Bool.eq_false_or_eq_true (decide ((forbV f 1) > 0)) with h77 | h77
           · have h77p : (0 < (forbV f 1)) := by simpa only [decide_eq_true_eq, decide_eq_false_iff_not] using h77
             refine sg0 [.a (bT h77), .p 3] O76 fun w78 O79 => ?_
             have h9 : Own w0 w78 (M.set i (blk b (vObj f))) := back 3 O79
             rw [List.set_eq_of_getElem? hi] at h9
             exact gret (v := .int .i64 (forbV f 1)) [] O79 (⟨by first | (exfalso; omega) | simp [endV, hfr, h4, h10p, h10o, h19p, h53p, h67p, h77p], h9⟩)
           · have h77p : ¬ (0 < (forbV f 1)) := by simpa only [decide_eq_true_eq, decide_eq_false_iff_not] using h77
             refine sg0 [.a (bT h77), .p 6] O76 fun w80 O81 => ?_
             have h9 : Own w0 w80 (M.set i (blk b (vObj f))) := back 3 O81
             rw [List.set_eq_of_getElem? hi] at h9
             exact gret (v := .int .i64 0) [] O81 (⟨by first | (exfalso; omega) | simp [endV, hfr, h4, h10p, h10o, h19p, h53p, h67p, h77p], h9⟩)
   · have h10p : ¬ (p.msgs.length : Int) = 1 := by simpa using h10
     have h10o : oneWay p = false := by simp [oneWay]; omega
     refine sg0 [.a (bT h10), .p 1] O9 fun w82 O83 => ?_
     refine gir [] O83 fun O84 => ?_
     refine sg0 [.p 12] O84 fun w85 O86 => ?_
     refine gU (args := #[.pointer (some ⟨b, 0, none⟩), .int .i64 0]) (sealingE (f := f) O86 2 (by kernel_rfl) (by decide)) fun w87 O88 => ?_
     refine sg0 [.p 2] O88 fun w90 O91 => ?_
     rcases Bool.eq_false_or_eq_true (decide ((forbV f 0) > 0)) with h92 | h92
     · have h92p : (0 < (forbV f 0)) := by simpa only [decide_eq_true_eq, decide_eq_false_iff_not] using h92
       refine sg0 [.a (bT h92), .p 3] O91 fun w93 O94 => ?_
       have h9 : Own w0 w93 (M.set i (blk b (vObj f))) := back 2 O94
       rw [List.set_eq_of_getElem? hi] at h9
       exact gret (v := .int .i64 (forbV f 0)) [] O94 (⟨by first | (exfalso; omega) | simp [endV, hfr, h4, h10o, h92p], h9⟩)
     · have h92p : ¬ (0 < (forbV f 0)) := by simpa only [decide_eq_true_eq, decide_eq_false_iff_not] using h92
       refine sg0 [.a (bT h92), .p 7, .a (.r 1)] O91 fun w95 O96 => ?_
       refine gi (args := #[.agg #[.string (strO p.name), .slice A0 p.pre0.length c0, .slice A1 p.pre1.length c1, .slice A p.msgs.length c]]) Tryz.func98 O96 fun O96i => ?_
       refine sg1 [.n [], .p 2, .a (.r 0), .p 1, .a (bT h10), .p 1] O96i fun b97 w98 O99 => ?_
       refine gir [] O99 fun O100 => ?_
       refine sg0 [.p 12] O100 fun w101 O102 => ?_
       refine gU (args := #[.pointer (some ⟨b, 0, none⟩), .int .i64 1]) (sealingE (f := f) O102 3 (by kernel_rfl) (by decide)) fun w103 O104 => ?_
       refine sg0 [.p 2] O104 fun w106 O107 => ?_
       rcases Bool.eq_false_or_eq_true (decide ((forbV f 1) > 0)) with h108 | h108
       · have h108p : (0 < (forbV f 1)) := by simpa only [decide_eq_true_eq, decide_eq_false_iff_not] using h108
         refine sg0 [.a (bT h108), .p 3] O107 fun w109 O110 => ?_
         have h9 : Own w0 w109 (M.set i (blk b (vObj f))) := back 3 O110
         rw [List.set_eq_of_getElem? hi] at h9
         exact gret (v := .int .i64 (forbV f 1)) [] O110 (⟨by first | (exfalso; omega) | simp [endV, hfr, h4, h10o, h92p, h108p], h9⟩)
       · have h108p : ¬ (0 < (forbV f 1)) := by simpa only [decide_eq_true_eq, decide_eq_false_iff_not] using h108
         refine sg0 [.a (bT h108), .p 6] O107 fun w111 O112 => ?_
         have h9 : Own w0 w111 (M.set i (blk b (vObj f))) := back 3 O112
         rw [List.set_eq_of_getElem? hi] at h9
         exact gret (v := .int .i64 0) [] O112 (⟨by first | (exfalso; omega) | simp [endV, hfr, h4, h10o, h92p, h108p], h9⟩)
 · refine sg0 [.a (bR 1 h4), .p 3] O3 fun w113 O114 => ?_
   have h9 : Own w0 w113 (M.set i (blk b (vObj f))) := back 1 O114
   rw [List.set_eq_of_getElem? hi] at h9
   exact gret (v := .int .i64 7) [] O114 (⟨by first | (exfalso; omega) | simp [endV, h4], h9⟩)
end Go.Proofs.YtikimmgileffgaaGreatDoor
end
/- Whether there is a PSK anywhere in a pattern (layers 7, 12). -/
section
namespace Go.Proofs.YtikimmgileffgaaGreatDoor
open Go.RowKit

theorem enters_begin1 : ∀ args w, (callFunc 184 args).run Tryz.prog w = .ok (.enter 184 args) w := enters_of Tryz.func184 (by kernel_rfl) rfl
theorem begin1_test (w : World) : MsgTest 184 #[] (fun m => decide ((7 : Int) ∈ m.t)) w := by
  intro w' _ m A c hl hh
  exact begin1E hh hl
theorem enters_mode1 : ∀ args w, (callFunc 199 args).run Tryz.prog w = .ok (.enter 199 args) w := enters_of Tryz.func199 (by kernel_rfl) rfl
theorem mode1_test (w : World) : MsgTest 199 #[] (fun m => decide ((7 : Int) ∈ m.t)) w := by
  intro w' _ m A c hl hh
  exact mode1E hh hl
theorem anyPskE (f : FuncId) (hf : f = 184 ∨ f = 199) {w0 w : World} {M : List Thing} {A : Option Addr} {ms : List Msg} {c : Nat} {is : Bool} (O : Own w0 w M) (h : MsgsIn w (Old w) A ms) (hl : ms.length ≤ 9223372036854775807) (hm : ∀ m ∈ ms, m.t.length ≤ 9223372036854775807) (hi : (ms.any fun m => decide ((7 : Int) ∈ m.t)) = is) :
    Calls Tryz.prog 168 #[.slice A ms.length c, .func (.func f) #[] #[]] w fun e w' => e = .returned (.bool is) ∧ Own w0 w' M := by
  rcases hf with rfl | rfl
  · refine (containsMsg_calls c _ #[] _ enters_begin1 (begin1_test w) h hl hm).mono ?_
    rintro e w' ⟨rfl, hb⟩
    exact ⟨by rw [hi], O.call hb⟩
  · refine (containsMsg_calls c _ #[] _ enters_mode1 (mode1_test w) h hl hm).mono ?_
    rintro e w' ⟨rfl, hb⟩
    exact ⟨by rw [hi], O.call hb⟩
end Go.Proofs.YtikimmgileffgaaGreatDoor
end
/- The rules of patterns (layer 7): begin. Printed by s_valid4.py. -/
section
namespace Go.Proofs.YtikimmgileffgaaGreatDoor
open Go.RowKit
set_option warningAsError false in
set_option maxRecDepth 100000 in
set_option maxHeartbeats 4000000 in
theorem beginVE {w : World} {A0 A1 A : Option Addr} {c0 c1 c : Nat} {p : Pat} (hp : PatIn w (Old w) (pvx A0 c0 A1 c1 A c p) p) (hp0 : Holds w A0 (intsV p.pre0)) (hp1 : Holds w A1 (intsV p.pre1)) (hr : rightP p = true) :
    Calls Tryz.prog 151 #[.agg #[.string (strO p.name), .slice A0 p.pre0.length c0, .slice A1 p.pre1.length c1, .slice A p.msgs.length c]] w fun e' w' => e' = .returned (.agg #[.bool (beginV p 0), .bool (beginV p 1), .bool (beginV p 2), .bool (beginV p 3), .bool (beginV p 4), .bool (beginV p 5), .bool (beginV p 6), .bool (beginV p 7), .bool (beginV p 8), .bool (beginV p 9), .bool (beginV p 10), .bool (beginV p 11), .bool (beginV p 12), .bool (beginV p 13), .bool (beginV p 14), .bool (beginV p 15)]) ∧ Below w.heap.size w w' := by
 have O0 := Own.start w
 replace O0 : Own w w (List.map Ent.t []) := O0
 obtain ⟨hnm, htold0, htold1, hma, hmz, hms⟩ := right_facts hr
 have hl0 := told_len htold0
 have hl1 := told_len htold1
 refine gent O0 Tryz.func151 ?_
 refine sg3 [.n [], .n [], .n [], .p 1, .a (.r 2), .p 1, .u 2, .p 9] O0 fun b1 b2 b3 w4 O5 => ?_
 refine gl (fun (zz : Nat × (Nat → Bool)) => match zz with | (k, g0) => [(1, .pointer (some ⟨b1, 0, none⟩)), (2, .pointer (some ⟨b2, 0, none⟩)), (3, .pointer (some ⟨b3, 0, none⟩)), (4, .int .i64 0), (9, .agg #[.slice A0 p.pre0.length c0, .slice A1 p.pre1.length c1]), (10, .int .i64 0), (14, .slice A0 p.pre0.length c0), (15, .int .i64 (p.pre0.length : Int)), (16, .int .i64 (k : Int))]) (fun (zz : Nat × (Nat → Bool)) => match zz with | (k, g0) => [.blk b3 (.cells #[.bool (g0 0), .bool (g0 1), .bool (g0 2), .bool (g0 3), .bool (g0 4), .bool (g0 5), .bool (g0 6), .bool (g0 7), .bool (g0 8), .bool (g0 9), .bool (g0 10), .bool (g0 11), .bool (g0 12), .bool (g0 13), .bool (g0 14), .bool (g0 15)] 256), .blk b2 (.cells #[.bool false, .bool false, .bool false, .bool false, .bool false, .bool false, .bool false, .bool false, .bool false, .bool false, .bool false, .bool false, .bool false, .bool false, .bool false, .bool false] 256), .blk b1 (.cells #[.string (strO p.name), .slice A0 p.pre0.length c0, .slice A1 p.pre1.length c1, .slice A p.msgs.length c] 33)]) (fun (zz : Nat × (Nat → Bool)) w => match zz with | (k, g0) => k ≤ p.pre0.length ∧ markV 0 (p.pre0.drop k) g0 = markV 0 p.pre0 (fun _ => false)) (fun (zz : Nat × (Nat → Bool)) => match zz with | (k, g0) => p.pre0.length - k) (0, (fun _ => false)) (O5.as 0) ⟨(Nat.zero_le _), rfl⟩ ?_
 rintro M8 ⟨k, g0⟩ w6 hM9 O7 ⟨hk, hq⟩
 rcases Bool.eq_false_or_eq_true (decide ((k : Int) < (p.pre0.length : Int))) with h10 | h10
 · have h10p : ((k : Int) < (p.pre0.length : Int)) := by simpa only [decide_eq_true_eq, decide_eq_false_iff_not] using h10
   have hk : k + 1 ≤ p.pre0.length := by have := h10p; omega
   obtain ⟨t, ht⟩ : ∃ t, p.pre0[k]? = some t := ⟨_, List.getElem?_eq_getElem hk⟩
   obtain ⟨qb, q, hA, hcell⟩ := holdsI_at hp0 ht
   have hdrop := drop_at ht
   refine sg0 [.a (bT h10), .p 1, .a (.i _ qb q p.pre0.length k hA hk)] O7 fun w11 O12 => ?_
   refine gx [.cell qb (q + k * 1) (.int .i64 t)] O12 ⟨(hcell _ O12.below), trivial⟩ fun O13 => ?_
   refine sg0 [.a (.r 0), .p 5] O13 fun w14 O15 => ?_
   rcases told_facts htold0 t (List.mem_of_getElem? ht) with ht1 | ht1
   · subst ht1
     refine sg0 [.p 1, .s 0 [], .a (iW ((k : Int) + 1)), .p 1] O15 fun w16 O17 => ?_
     exact gz _ fun a F => hM9 a _ (k + 1, putV g0 (3 * 0 + Int.toNat 1) true) F (O17.as 0) ⟨hk, (by rw [← hq, hdrop]; rfl)⟩ (show p.pre0.length - (k + 1) < p.pre0.length - k by omega)
   · subst ht1
     refine sg0 [.p 1, .s 0 [], .a (iW ((k : Int) + 1)), .p 1] O15 fun w18 O19 => ?_
     exact gz _ fun a F => hM9 a _ (k + 1, putV g0 (3 * 0 + Int.toNat 2) true) F (O19.as 0) ⟨hk, (by rw [← hq, hdrop]; rfl)⟩ (show p.pre0.length - (k + 1) < p.pre0.length - k by omega)
 · have h10p : ¬ ((k : Int) < (p.pre0.length : Int)) := by simpa only [decide_eq_true_eq, decide_eq_false_iff_not] using h10
   have hq2 : g0 = markV 0 p.pre0 (fun _ => false) := by rw [← hq, List.drop_eq_nil_of_le (by have := h10p; omega)]; rfl
   refine sg0 [.a (bT h10), .p 12] O7 fun w20 O21 => ?_
   refine gl (fun (zz : Nat × (Nat → Bool)) => match zz with | (k, g1) => [(1, .pointer (some ⟨b1, 0, none⟩)), (2, .pointer (some ⟨b2, 0, none⟩)), (3, .pointer (some ⟨b3, 0, none⟩)), (4, .int .i64 1), (9, .agg #[.slice A0 p.pre0.length c0, .slice A1 p.pre1.length c1]), (10, .int .i64 1), (14, .slice A1 p.pre1.length c1), (15, .int .i64 (p.pre1.length : Int)), (16, .int .i64 (k : Int))]) (fun (zz : Nat × (Nat → Bool)) => match zz with | (k, g1) => [.blk b3 (.cells #[.bool (g1 0), .bool (g1 1), .bool (g1 2), .bool (g1 3), .bool (g1 4), .bool (g1 5), .bool (g1 6), .bool (g1 7), .bool (g1 8), .bool (g1 9), .bool (g1 10), .bool (g1 11), .bool (g1 12), .bool (g1 13), .bool (g1 14), .bool (g1 15)] 256), .blk b2 (.cells #[.bool false, .bool false, .bool false, .bool false, .bool false, .bool false, .bool false, .bool false, .bool false, .bool false, .bool false, .bool false, .bool false, .bool false, .bool false, .bool false] 256), .blk b1 (.cells #[.string (strO p.name), .slice A0 p.pre0.length c0, .slice A1 p.pre1.length c1, .slice A p.msgs.length c] 33)]) (fun (zz : Nat × (Nat → Bool)) w => match zz with | (k, g1) => k ≤ p.pre1.length ∧ markV 1 (p.pre1.drop k) g1 = markV 1 p.pre1 (markV 0 p.pre0 (fun _ => false))) (fun (zz : Nat × (Nat → Bool)) => match zz with | (k, g1) => p.pre1.length - k) (0, g0) (O21.as 0) ⟨(Nat.zero_le _), (by rw [hq2]; rfl)⟩ ?_
   rintro M24 ⟨k, g1⟩ w22 hM25 O23 ⟨hk, hq⟩
   rcases Bool.eq_false_or_eq_true (decide ((k : Int) < (p.pre1.length : Int))) with h26 | h26
   · have h26p : ((k : Int) < (p.pre1.length : Int)) := by simpa only [decide_eq_true_eq, decide_eq_false_iff_not] using h26
     have hk : k + 1 ≤ p.pre1.length := by have := h26p; omega
     obtain ⟨t, ht⟩ : ∃ t, p.pre1[k]? = some t := ⟨_, List.getElem?_eq_getElem hk⟩
     obtain ⟨qb, q, hA, hcell⟩ := holdsI_at hp1 ht
     have hdrop := drop_at ht
     refine sg0 [.a (bT h26), .p 1, .a (.i _ qb q p.pre1.length k hA hk)] O23 fun w27 O28 => ?_
     refine gx [.cell qb (q + k * 1) (.int .i64 t)] O28 ⟨(hcell _ O28.below), trivial⟩ fun O29 => ?_
     refine sg0 [.a (.r 0), .p 5] O29 fun w30 O31 => ?_
     rcases told_facts htold1 t (List.mem_of_getElem? ht) with ht1 | ht1
     · subst ht1
       refine sg0 [.p 1, .s 0 [], .a (iW ((k : Int) + 1)), .p 1] O31 fun w32 O33 => ?_
       exact gz _ fun a F => hM25 a _ (k + 1, putV g1 (3 * 1 + Int.toNat 1) true) F (O33.as 0) ⟨hk, (by rw [← hq, hdrop]; rfl)⟩ (show p.pre1.length - (k + 1) < p.pre1.length - k by omega)
     · subst ht1
       refine sg0 [.p 1, .s 0 [], .a (iW ((k : Int) + 1)), .p 1] O31 fun w34 O35 => ?_
       exact gz _ fun a F => hM25 a _ (k + 1, putV g1 (3 * 1 + Int.toNat 2) true) F (O35.as 0) ⟨hk, (by rw [← hq, hdrop]; rfl)⟩ (show p.pre1.length - (k + 1) < p.pre1.length - k by omega)
   · have h26p : ¬ ((k : Int) < (p.pre1.length : Int)) := by simpa only [decide_eq_true_eq, decide_eq_false_iff_not] using h26
     have hq2 : g1 = markV 1 p.pre1 (markV 0 p.pre0 (fun _ => false)) := by rw [← hq, List.drop_eq_nil_of_le (by have := h26p; omega)]; rfl
     refine sg0 [.a (bT h26), .p 6, .a (.r 2)] O23 fun w36 O37 => ?_
     obtain ⟨is38, hm39⟩ : ∃ b, modeP p = b := ⟨_, rfl⟩
     refine gU (args := #[.slice A p.msgs.length c, .func (.func 184) #[] #[]]) (anyPskE 184 (by decide) O37 (hp.below O37.below).msgs (by omega) (fun m hm => by have := (hms m hm).2.2.1; omega) hm39) fun w40 O41 => ?_
     refine sg0 [.p 1, .s 0 [], .p 1] O41 fun w43 O44 => ?_
     rcases Bool.eq_false_or_eq_true (is38) with h45 | h45
     · refine sg0 [.a (bR 0 h45), .p 4] O44 fun w46 O47 => ?_
       rcases Bool.eq_false_or_eq_true (g1 1) with h48 | h48
       · refine sg0 [.a (bR 0 h48), .p 8, .s 0 [], .a (.r 0), .s 1 []] O47 fun w49 O50 => ?_
         have hB := beginV_eq htold0 htold1 (g := g1) hq2
         have hc0 : beginV p 0 = g1 0 := by rw [hB 0 (by decide)]; first | rfl | simp [hm39, h45, h48]
         have hc1 : beginV p 1 = g1 1 := by rw [hB 1 (by decide)]; first | rfl | simp [hm39, h45, h48]
         have hc2 : beginV p 2 = g1 2 := by rw [hB 2 (by decide)]; first | rfl | simp [hm39, h45, h48]
         have hc3 : beginV p 3 = g1 3 := by rw [hB 3 (by decide)]; first | rfl | simp [hm39, h45, h48]
         have hc4 : beginV p 4 = g1 4 := by rw [hB 4 (by decide)]; first | rfl | simp [hm39, h45, h48]
         have hc5 : beginV p 5 = g1 5 := by rw [hB 5 (by decide)]; first | rfl | simp [hm39, h45, h48]
         have hc6 : beginV p 6 = g1 6 := by rw [hB 6 (by decide)]; first | rfl | simp [hm39, h45, h48]
         have hc7 : beginV p 7 = g1 7 := by rw [hB 7 (by decide)]; first | rfl | simp [hm39, h45, h48]
         have hc8 : beginV p 8 = g1 8 := by rw [hB 8 (by decide)]; first | rfl | simp [hm39, h45, h48]
         have hc9 : beginV p 9 = g1 9 := by rw [hB 9 (by decide)]; first | rfl | simp [hm39, h45, h48]
         have hc10 : beginV p 10 = g1 10 := by rw [hB 10 (by decide)]; first | rfl | simp [hm39, h45, h48]
         have hc11 : beginV p 11 = g1 11 := by rw [hB 11 (by decide)]; first | rfl | simp [hm39, h45, h48]
         have hc12 : beginV p 12 = g1 12 := by rw [hB 12 (by decide)]; first | rfl | simp [hm39, h45, h48]
         have hc13 : beginV p 13 = g1 13 := by rw [hB 13 (by decide)]; first | rfl | simp [hm39, h45, h48]
         have hc14 : beginV p 14 = is38 := by rw [hB 14 (by decide)]; first | rfl | simp [hm39, h45]
         have hc15 : beginV p 15 = true := by rw [hB 15 (by decide)]; first | rfl | simp [hm39, h45, h48]
         exact gret (v := .agg #[.bool (g1 0), .bool (g1 1), .bool (g1 2), .bool (g1 3), .bool (g1 4), .bool (g1 5), .bool (g1 6), .bool (g1 7), .bool (g1 8), .bool (g1 9), .bool (g1 10), .bool (g1 11), .bool (g1 12), .bool (g1 13), .bool is38, .bool true]) [1] O50 (⟨by rw [hc0, hc1, hc2, hc3, hc4, hc5, hc6, hc7, hc8, hc9, hc10, hc11, hc12, hc13, hc14, hc15], O50.below⟩)
       · refine sg0 [.a (bR 0 h48), .p 4] O47 fun w51 O52 => ?_
         rcases Bool.eq_false_or_eq_true (g1 4) with h53 | h53
         · refine sg0 [.a (bR 0 h53), .p 3, .s 0 [], .a (.r 0), .s 1 []] O52 fun w54 O55 => ?_
           have hB := beginV_eq htold0 htold1 (g := g1) hq2
           have hc0 : beginV p 0 = g1 0 := by rw [hB 0 (by decide)]; first | rfl | simp [hm39, h45, h48, h53]
           have hc1 : beginV p 1 = g1 1 := by rw [hB 1 (by decide)]; first | rfl | simp [hm39, h45, h48, h53]
           have hc2 : beginV p 2 = g1 2 := by rw [hB 2 (by decide)]; first | rfl | simp [hm39, h45, h48, h53]
           have hc3 : beginV p 3 = g1 3 := by rw [hB 3 (by decide)]; first | rfl | simp [hm39, h45, h48, h53]
           have hc4 : beginV p 4 = g1 4 := by rw [hB 4 (by decide)]; first | rfl | simp [hm39, h45, h48, h53]
           have hc5 : beginV p 5 = g1 5 := by rw [hB 5 (by decide)]; first | rfl | simp [hm39, h45, h48, h53]
           have hc6 : beginV p 6 = g1 6 := by rw [hB 6 (by decide)]; first | rfl | simp [hm39, h45, h48, h53]
           have hc7 : beginV p 7 = g1 7 := by rw [hB 7 (by decide)]; first | rfl | simp [hm39, h45, h48, h53]
           have hc8 : beginV p 8 = g1 8 := by rw [hB 8 (by decide)]; first | rfl | simp [hm39, h45, h48, h53]
           have hc9 : beginV p 9 = g1 9 := by rw [hB 9 (by decide)]; first | rfl | simp [hm39, h45, h48, h53]
           have hc10 : beginV p 10 = g1 10 := by rw [hB 10 (by decide)]; first | rfl | simp [hm39, h45, h48, h53]
           have hc11 : beginV p 11 = g1 11 := by rw [hB 11 (by decide)]; first | rfl | simp [hm39, h45, h48, h53]
           have hc12 : beginV p 12 = g1 12 := by rw [hB 12 (by decide)]; first | rfl | simp [hm39, h45, h48, h53]
           have hc13 : beginV p 13 = g1 13 := by rw [hB 13 (by decide)]; first | rfl | simp [hm39, h45, h48, h53]
           have hc14 : beginV p 14 = is38 := by rw [hB 14 (by decide)]; first | rfl | simp [hm39, h45]
           have hc15 : beginV p 15 = true := by rw [hB 15 (by decide)]; first | rfl | simp [hm39, h45, h48, h53]
           exact gret (v := .agg #[.bool (g1 0), .bool (g1 1), .bool (g1 2), .bool (g1 3), .bool (g1 4), .bool (g1 5), .bool (g1 6), .bool (g1 7), .bool (g1 8), .bool (g1 9), .bool (g1 10), .bool (g1 11), .bool (g1 12), .bool (g1 13), .bool is38, .bool true]) [1] O55 (⟨by rw [hc0, hc1, hc2, hc3, hc4, hc5, hc6, hc7, hc8, hc9, hc10, hc11, hc12, hc13, hc14, hc15], O55.below⟩)
         · refine sg0 [.a (bR 0 h53), .p 3, .s 0 [], .a (.r 0), .s 1 []] O52 fun w56 O57 => ?_
           have hB := beginV_eq htold0 htold1 (g := g1) hq2
           have hc0 : beginV p 0 = g1 0 := by rw [hB 0 (by decide)]; first | rfl | simp [hm39, h45, h48, h53]
           have hc1 : beginV p 1 = g1 1 := by rw [hB 1 (by decide)]; first | rfl | simp [hm39, h45, h48, h53]
           have hc2 : beginV p 2 = g1 2 := by rw [hB 2 (by decide)]; first | rfl | simp [hm39, h45, h48, h53]
           have hc3 : beginV p 3 = g1 3 := by rw [hB 3 (by decide)]; first | rfl | simp [hm39, h45, h48, h53]
           have hc4 : beginV p 4 = g1 4 := by rw [hB 4 (by decide)]; first | rfl | simp [hm39, h45, h48, h53]
           have hc5 : beginV p 5 = g1 5 := by rw [hB 5 (by decide)]; first | rfl | simp [hm39, h45, h48, h53]
           have hc6 : beginV p 6 = g1 6 := by rw [hB 6 (by decide)]; first | rfl | simp [hm39, h45, h48, h53]
           have hc7 : beginV p 7 = g1 7 := by rw [hB 7 (by decide)]; first | rfl | simp [hm39, h45, h48, h53]
           have hc8 : beginV p 8 = g1 8 := by rw [hB 8 (by decide)]; first | rfl | simp [hm39, h45, h48, h53]
           have hc9 : beginV p 9 = g1 9 := by rw [hB 9 (by decide)]; first | rfl | simp [hm39, h45, h48, h53]
           have hc10 : beginV p 10 = g1 10 := by rw [hB 10 (by decide)]; first | rfl | simp [hm39, h45, h48, h53]
           have hc11 : beginV p 11 = g1 11 := by rw [hB 11 (by decide)]; first | rfl | simp [hm39, h45, h48, h53]
           have hc12 : beginV p 12 = g1 12 := by rw [hB 12 (by decide)]; first | rfl | simp [hm39, h45, h48, h53]
           have hc13 : beginV p 13 = g1 13 := by rw [hB 13 (by decide)]; first | rfl | simp [hm39, h45, h48, h53]
           have hc14 : beginV p 14 = is38 := by rw [hB 14 (by decide)]; first | rfl | simp [hm39, h45]
           have hc15 : beginV p 15 = false := by rw [hB 15 (by decide)]; first | rfl | simp [hm39, h45, h48, h53]
           exact gret (v := .agg #[.bool (g1 0), .bool (g1 1), .bool (g1 2), .bool (g1 3), .bool (g1 4), .bool (g1 5), .bool (g1 6), .bool (g1 7), .bool (g1 8), .bool (g1 9), .bool (g1 10), .bool (g1 11), .bool (g1 12), .bool (g1 13), .bool is38, .bool false]) [1] O57 (⟨by rw [hc0, hc1, hc2, hc3, hc4, hc5, hc6, hc7, hc8, hc9, hc10, hc11, hc12, hc13, hc14, hc15], O57.below⟩)
     · refine sg0 [.a (bR 0 h45), .p 13, .s 0 [], .a (.r 0), .s 1 []] O44 fun w58 O59 => ?_
       have hB := beginV_eq htold0 htold1 (g := g1) hq2
       have hc0 : beginV p 0 = g1 0 := by rw [hB 0 (by decide)]; first | rfl | simp [hm39, h45]
       have hc1 : beginV p 1 = g1 1 := by rw [hB 1 (by decide)]; first | rfl | simp [hm39, h45]
       have hc2 : beginV p 2 = g1 2 := by rw [hB 2 (by decide)]; first | rfl | simp [hm39, h45]
       have hc3 : beginV p 3 = g1 3 := by rw [hB 3 (by decide)]; first | rfl | simp [hm39, h45]
       have hc4 : beginV p 4 = g1 4 := by rw [hB 4 (by decide)]; first | rfl | simp [hm39, h45]
       have hc5 : beginV p 5 = g1 5 := by rw [hB 5 (by decide)]; first | rfl | simp [hm39, h45]
       have hc6 : beginV p 6 = g1 6 := by rw [hB 6 (by decide)]; first | rfl | simp [hm39, h45]
       have hc7 : beginV p 7 = g1 7 := by rw [hB 7 (by decide)]; first | rfl | simp [hm39, h45]
       have hc8 : beginV p 8 = g1 8 := by rw [hB 8 (by decide)]; first | rfl | simp [hm39, h45]
       have hc9 : beginV p 9 = g1 9 := by rw [hB 9 (by decide)]; first | rfl | simp [hm39, h45]
       have hc10 : beginV p 10 = g1 10 := by rw [hB 10 (by decide)]; first | rfl | simp [hm39, h45]
       have hc11 : beginV p 11 = g1 11 := by rw [hB 11 (by decide)]; first | rfl | simp [hm39, h45]
       have hc12 : beginV p 12 = g1 12 := by rw [hB 12 (by decide)]; first | rfl | simp [hm39, h45]
       have hc13 : beginV p 13 = g1 13 := by rw [hB 13 (by decide)]; first | rfl | simp [hm39, h45]
       have hc14 : beginV p 14 = is38 := by rw [hB 14 (by decide)]; first | rfl | simp [hm39, h45]
       have hc15 : beginV p 15 = false := by rw [hB 15 (by decide)]; first | rfl | simp [hm39, h45]
       exact gret (v := .agg #[.bool (g1 0), .bool (g1 1), .bool (g1 2), .bool (g1 3), .bool (g1 4), .bool (g1 5), .bool (g1 6), .bool (g1 7), .bool (g1 8), .bool (g1 9), .bool (g1 10), .bool (g1 11), .bool (g1 12), .bool (g1 13), .bool is38, .bool false]) [1] O59 (⟨by rw [hc0, hc1, hc2, hc3, hc4, hc5, hc6, hc7, hc8, hc9, hc10, hc11, hc12, hc13, hc14, hc15], O59.below⟩)
end Go.Proofs.YtikimmgileffgaaGreatDoor
end
/- The rules of patterns (layer 7): Check. Printed by s_valid5.py. -/
section
namespace Go.Proofs.YtikimmgileffgaaGreatDoor
open Go.RowKit
set_option warningAsError false in
set_option maxRecDepth 100000 in
set_option maxHeartbeats 4000000 in
theorem checkE {w : World} {A0 A1 A : Option Addr} {c0 c1 c : Nat} {p : Pat} {r k e : Int} (hp : PatIn w (Old w) (pvx A0 c0 A1 c1 A c p) p) (hp0 : Holds w A0 (intsV p.pre0)) (hp1 : Holds w A1 (intsV p.pre1)) (hfit : PatFits p) (hf : checkV p = (r, k, e)) :
    Calls Tryz.prog 94 #[.agg #[.string (strO p.name), .slice A0 p.pre0.length c0, .slice A1 p.pre1.length c1, .slice A p.msgs.length c]] w fun e' w' => e' = .returned (.tuple #[.int .i64 r, .int .i64 k, .int .i64 e]) ∧ Below w.heap.size w w' := by
 have O0 := Own.start w
 replace O0 : Own w w (List.map Ent.t []) := O0
 refine gent O0 Tryz.func94 ?_
 refine sg1 [.n [], .p 3, .a (.r 0)] O0 fun b1 w2 O3 => ?_
 obtain ⟨is4, hm5⟩ : ∃ b, rightP p = b := ⟨_, rfl⟩
 refine gU (args := #[.agg #[.string (strO p.name), .slice A0 p.pre0.length c0, .slice A1 p.pre1.length c1, .slice A p.msgs.length c]]) (rightE O3 hp hfit hm5) fun w6 O7 => ?_
 rcases Bool.eq_false_or_eq_true (is4) with h9 | h9
 · have hr : rightP p = true := hm5.trans h9
   obtain ⟨hnm, htold0, htold1, hma, hmz, hms⟩ := right_facts hr
   have hne : p.msgs ≠ [] := fun h => by rw [h] at hma; simp at hma
   refine sg0 [.a (bN h9), .p 1, .a (.r 0)] O7 fun w10 O11 => ?_
   refine gB O11 (args := #[.agg #[.string (strO p.name), .slice A0 p.pre0.length c0, .slice A1 p.pre1.length c1, .slice A p.msgs.length c]]) (beginVE (hp.below O11.below) (hp0.below O11.below) (hp1.below O11.below) hr) fun w12 O13 => ?_
   refine sg1 [.n [], .s 0 [], .p 1, .a (.r 1), .p 2] O13 fun b15 w16 O17 => ?_
   refine gl (fun (zz : Nat × Int × (Nat → Bool)) => match zz with | (k, last, f2) => [(1, .pointer (some ⟨b1, 0, none⟩)), (2, .int .i64 0), (3, .int .i64 0), (4, .int .i64 0), (5, .pointer (some ⟨b15, 0, none⟩)), (16, .slice A p.msgs.length c), (17, .int .i64 (p.msgs.length : Int)), (18, .int .i64 (k : Int))]) (fun (zz : Nat × Int × (Nat → Bool)) => match zz with | (k, last, f2) => [.blk b15 (.cells #[.bool (f2 0), .bool (f2 1), .bool (f2 2), .bool (f2 3), .bool (f2 4), .bool (f2 5), .bool (f2 6), .bool (f2 7), .bool (f2 8), .bool (f2 9), .bool (f2 10), .bool (f2 11), .bool (f2 12), .bool (f2 13), .bool (f2 14), .bool (f2 15)] 256), .blk b1 (.cells #[.string (strO p.name), .slice A0 p.pre0.length c0, .slice A1 p.pre1.length c1, .slice A p.msgs.length c] 33)]) (fun (zz : Nat × Int × (Nat → Bool)) w => match zz with | (k, last, f2) => k ≤ p.msgs.length ∧ roundsV k last (p.msgs.drop k) f2 = roundsV 0 0 p.msgs (beginV p) ∧ (∀ m', 0 < k → p.msgs[k - 1]? = some m' → m'.frm = last)) (fun (zz : Nat × Int × (Nat → Bool)) => match zz with | (k, last, f2) => p.msgs.length - k) (0, 0, beginV p) (O17.as 0) ⟨(Nat.zero_le _), rfl, (fun _ h => absurd h (by decide))⟩ ?_
   rintro M20 ⟨k, last, f2⟩ w18 hM21 O19 ⟨hk, hq, hlast⟩
   rcases Bool.eq_false_or_eq_true (decide ((k : Int) < (p.msgs.length : Int))) with h22 | h22
   · have h22p : ((k : Int) < (p.msgs.length : Int)) := by simpa only [decide_eq_true_eq, decide_eq_false_iff_not] using h22
     have hk : k + 1 ≤ p.msgs.length := by have := h22p; omega
     obtain ⟨m, hm⟩ : ∃ m, p.msgs[k]? = some m := ⟨_, List.getElem?_eq_getElem hk⟩
     obtain ⟨mb, mq, B, d, hA, hB, hcell⟩ := msg_at hp.msgs hm
     have hmf := hms m (List.mem_of_getElem? hm)
     have hdrop := drop_at hm
     refine sg0 [.a (bT h22), .p 2, .a (.i _ mb mq p.msgs.length k hA hk)] O19 fun w23 O24 => ?_
     refine gx [.cell mb (mq + k * 2) (.int .i64 m.frm), .cell mb (mq + k * 2 + 1) (.slice B m.t.length d)] O24 ⟨(hcell _ O24.below).1, (hcell _ O24.below).2, trivial⟩ fun O25 => ?_
     refine sg1 [.a (.l [0, 1]), .n [], .p 1, .s 0 []] O25 fun b26 w27 O28 => ?_
     rcases Bool.eq_false_or_eq_true (decide ((k : Int) > 0)) with h29 | h29
     · have h29p : (0 < (k : Int)) := by simpa only [decide_eq_true_eq, decide_eq_false_iff_not] using h29
       have h29k : 0 < k := by omega
       obtain ⟨ml, hml⟩ : ∃ m, p.msgs[k - 1]? = some m := ⟨_, List.getElem?_eq_getElem (by omega)⟩
       obtain ⟨lb, lq, LB, ld, hlA, hlB, hlcell⟩ := msg_at hp.msgs hml
       have hlf := hlast ml h29k hml
       refine gx [.cell lb (lq + (k - 1) * 2) (.int .i64 ml.frm), .cell lb (lq + (k - 1) * 2) (.int .i64 ml.frm)] O28 ⟨(hlcell _ O28.below).1, (hlcell _ O28.below).1, trivial⟩ fun O30 => ?_
       refine sg0 [.d [0, 2], .qs [0], .q 1 (bT h29), .qs [2, 3], .q 4 (.r 1), .qs [5], .q 6 (.v (.int .i64 (IntKind.i64.wrap ((k : Int) - 1))) (.int .i64 ((k - 1 : Nat) : Int)) (congrArg (Value.int .i64) (by rw [i64_id (by omega) (by omega)]; omega))), .q 7 (.i _ lb lq p.msgs.length (k - 1) hlA (by omega)), .qs [8], .q 9 (.r 2), .qs [10], .q 11 (.r 0)] O30 fun w31 O32 => ?_
       rcases Bool.eq_false_or_eq_true (ml.frm == m.frm) with h33 | h33
       · have h33p : ml.frm = m.frm := by simpa using h33
         refine sg0 [.q 12 (bT h33), .qs [13], .z, .p 5] O32 fun w34 O35 => ?_
         first | (exfalso; omega) | (simp [checkV, hm5, h9, ← hq, hdrop, roundsV, h29k, ← hlf, h33p] at hf; obtain ⟨rfl, rfl, rfl⟩ := hf; exact gret [] O35 ⟨rfl, O35.below⟩)
       · have h33p : ¬ ml.frm = m.frm := by simpa using h33
         refine sg0 [.q 12 (bT h33), .qs [13], .z, .p 1, .a (.r 2)] O32 fun w36 O37 => ?_
         obtain ⟨e38, f39, hm40⟩ : ∃ e38 f39, msgV m.frm.toNat m.t f2 = (e38, f39) := ⟨_, _, rfl⟩
         refine gSb (args := #[.pointer (some ⟨b15, 0, none⟩), .agg #[.int .i64 m.frm, .slice B m.t.length d]]) (messageE O37 1 (by kernel_rfl) hB hmf.1 hmf.2.2.2 (by have := hmf.2.2.1; omega) hm40) fun w41 O42 => ?_
         refine sg0 [.p 2] O42 fun w44 O45 => ?_
         rcases Bool.eq_false_or_eq_true (decide (e38 > 0)) with h46 | h46
         · have h46p : (0 < e38) := by simpa only [decide_eq_true_eq, decide_eq_false_iff_not] using h46
           refine sg0 [.a (bT h46), .p 6] O45 fun w47 O48 => ?_
           first | (exfalso; omega) | (simp [checkV, hm5, h9, ← hq, hdrop, roundsV, h29k, ← hlf, h33p, hm40, h46p] at hf; obtain ⟨rfl, rfl, rfl⟩ := hf; exact gret [] O48 ⟨rfl, O48.below⟩)
         · have h46p : ¬ (0 < e38) := by simpa only [decide_eq_true_eq, decide_eq_false_iff_not] using h46
           refine sg0 [.a (bT h46), .p 1, .a (iW ((k : Int) + 1)), .p 1] O45 fun w49 O50 => ?_
           exact gz _ fun a F => hM21 a _ (k + 1, m.frm, f39) F (O50.as 1) ⟨hk, (by rw [← hq, hdrop, ← hlf]; simp [roundsV, h29k, h33p, hm40, h46p]), (fun m' _ hm' => by rw [Nat.add_sub_cancel, hm] at hm'; cases hm'; rfl)⟩ (show p.msgs.length - (k + 1) < p.msgs.length - k by omega)
     · have h29p : ¬ (0 < (k : Int)) := by simpa only [decide_eq_true_eq, decide_eq_false_iff_not] using h29
       have h29k : ¬ 0 < k := by omega
       refine sg0 [.d [0, 2], .qs [0], .q 1 (bT h29), .qs [2, 3, 4, 5, 6, 7, 8, 9, 10, 11, 12, 13], .z, .p 1, .a (.r 0)] O28 fun w51 O52 => ?_
       obtain ⟨e53, f54, hm55⟩ : ∃ e53 f54, msgV m.frm.toNat m.t f2 = (e53, f54) := ⟨_, _, rfl⟩
       refine gSb (args := #[.pointer (some ⟨b15, 0, none⟩), .agg #[.int .i64 m.frm, .slice B m.t.length d]]) (messageE O52 1 (by kernel_rfl) hB hmf.1 hmf.2.2.2 (by have := hmf.2.2.1; omega) hm55) fun w56 O57 => ?_
       refine sg0 [.p 2] O57 fun w59 O60 => ?_
       rcases Bool.eq_false_or_eq_true (decide (e53 > 0)) with h61 | h61
       · have h61p : (0 < e53) := by simpa only [decide_eq_true_eq, decide_eq_false_iff_not] using h61
         refine sg0 [.a (bT h61), .p 6] O60 fun w62 O63 => ?_
         first | (exfalso; omega) | (simp [checkV, hm5, h9, ← hq, hdrop, roundsV, h29k, hm55, h61p] at hf; obtain ⟨rfl, rfl, rfl⟩ := hf; exact gret [] O63 ⟨rfl, O63.below⟩)
       · have h61p : ¬ (0 < e53) := by simpa only [decide_eq_true_eq, decide_eq_false_iff_not] using h61
         refine sg0 [.a (bT h61), .p 1, .a (iW ((k : Int) + 1)), .p 1] O60 fun w64 O65 => ?_
         exact gz _ fun a F => hM21 a _ (k + 1, m.frm, f54) F (O65.as 1) ⟨hk, (by rw [← hq, hdrop]; simp [roundsV, h29k, hm55, h61p]), (fun m' _ hm' => by rw [Nat.add_sub_cancel, hm] at hm'; cases hm'; rfl)⟩ (show p.msgs.length - (k + 1) < p.msgs.length - k by omega)
   · have h22p : ¬ ((k : Int) < (p.msgs.length : Int)) := by simpa only [decide_eq_true_eq, decide_eq_false_iff_not] using h22
     have hq2 : roundsV 0 0 p.msgs (beginV p) = (0, 0, f2) := by rw [← hq, List.drop_eq_nil_of_le (by have := h22p; omega)]; rfl
     refine sg0 [.a (bT h22), .p 1, .a (.r 1)] O19 fun w66 O67 => ?_
     refine gU (args := #[.pointer (some ⟨b15, 0, none⟩), .agg #[.string (strO p.name), .slice A0 p.pre0.length c0, .slice A1 p.pre1.length c1, .slice A p.msgs.length c]]) (endE (f := f2) O67 0 (by kernel_rfl) hp hne) fun w68 O69 => ?_
     refine sg0 [.p 2] O69 fun w71 O72 => ?_
     rcases Bool.eq_false_or_eq_true (decide ((endV p f2) > 0)) with h73 | h73
     · have h73p : (0 < (endV p f2)) := by simpa only [decide_eq_true_eq, decide_eq_false_iff_not] using h73
       refine sg0 [.a (bT h73), .p 1, .d [1], .qs [0, 1], .q 2 (.r 0), .qs [3, 4, 5, 6], .z] O72 fun w74 O75 => ?_
       first | (exfalso; omega) | (simp [checkV, hm5, h9, hq2, h73p] at hf; obtain ⟨rfl, rfl, rfl⟩ := hf; exact gret [] O75 ⟨rfl, O75.below⟩)
     · have h73p : ¬ (0 < (endV p f2)) := by simpa only [decide_eq_true_eq, decide_eq_false_iff_not] using h73
       refine sg0 [.a (bT h73), .p 4] O72 fun w76 O77 => ?_
       first | (exfalso; omega) | (simp [checkV, hm5, h9, hq2, h73p] at hf; obtain ⟨rfl, rfl, rfl⟩ := hf; exact gret [] O77 ⟨rfl, O77.below⟩)
 · refine sg0 [.a (bN h9), .p 4] O7 fun w78 O79 => ?_
   first | (exfalso; omega) | (simp [checkV, hm5, h9] at hf; obtain ⟨rfl, rfl, rfl⟩ := hf; exact gret [] O79 ⟨rfl, O79.below⟩)
end Go.Proofs.YtikimmgileffgaaGreatDoor
end
