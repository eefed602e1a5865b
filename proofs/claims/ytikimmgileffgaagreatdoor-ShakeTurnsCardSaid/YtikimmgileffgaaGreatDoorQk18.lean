/- Packed by packn.py: NeedW. -/
import Derived.Test.YtikimmgileffgaaGreatDoorQk17
import Derived.Test.YtikimmgileffgaaGreatDoorQk11
namespace Go.Proofs.YtikimmgileffgaaGreatDoor
open Go.RowKit
set_option warningAsError false in
set_option maxRecDepth 100000 in
set_option maxHeartbeats 4000000 in
theorem enoughE {w : World} {ns ne nrs nre hs he hrs hre : Bool} {np hp : Int} :
    Calls Tryz.prog 60 #[.agg #[.bool ns, .bool ne, .bool nrs, .bool nre, .int .i64 np], .agg #[.bool hs, .bool he, .bool hrs, .bool hre, .int .i64 hp]] w fun e' w' => e' = .returned (.bool (enough ⟨ns, ne, nrs, nre, np⟩ ⟨hs, he, hrs, hre, hp⟩)) ∧ Below w.heap.size w w' := by
 have O0 := Own.start w
 replace O0 : Own w w (List.map Ent.t []) := O0
 refine gent O0 Tryz.func60 ?_
 refine sg2 [.n [], .n [], .p 2] O0 fun b1 b2 w3 O4 => ?_
 rcases Bool.eq_false_or_eq_true (ns) with h5 | h5
 · refine sg0 [.a (bR 1 h5), .p 2, .a (.r 0), .p 2] O4 fun w6 O7 => ?_
   rcases Bool.eq_false_or_eq_true (ne) with h8 | h8
   · refine sg0 [.a (bR 1 h8), .p 2, .a (.r 0), .p 2] O7 fun w9 O10 => ?_
     rcases Bool.eq_false_or_eq_true (nrs) with h11 | h11
     · refine sg0 [.a (bR 1 h11), .p 2, .a (.r 0), .p 2] O10 fun w12 O13 => ?_
       rcases Bool.eq_false_or_eq_true (nre) with h14 | h14
       · refine sg1 [.a (bR 1 h14), .p 2, .a (.r 0), .p 2, .a (.r 0), .p 1, .n [], .s 0 [], .a (.r 0), .a (.r 2), .a (.e (((hs == ns) && ((he == ne) && ((hrs == nrs) && ((hre == nre) && ((hp == np) && true)))))) _ rfl), .p 1] O13 fun b15 w16 O17 => ?_
         exact gret (v := .bool ((hs == ns) && ((he == ne) && ((hrs == nrs) && ((hre == nre) && ((hp == np) && true)))))) [] O17 (⟨by cases hs <;> cases he <;> cases hrs <;> cases hre <;> simp [enough, h5, h8, h11, h14, Bool.beq_eq_decide_eq], O17.below⟩)
       · refine sg1 [.a (bR 1 h14), .p 5, .a (.r 0), .p 1, .n [], .s 0 [], .a (.r 0), .a (.r 2), .a (.e (((hs == ns) && ((he == ne) && ((hrs == nrs) && ((false == nre) && ((hp == np) && true)))))) _ rfl), .p 1] O13 fun b18 w19 O20 => ?_
         exact gret (v := .bool ((hs == ns) && ((he == ne) && ((hrs == nrs) && ((false == nre) && ((hp == np) && true)))))) [] O20 (⟨by cases hs <;> cases he <;> cases hrs <;> cases hre <;> simp [enough, h5, h8, h11, h14, Bool.beq_eq_decide_eq], O20.below⟩)
     · refine sg0 [.a (bR 1 h11), .p 5] O10 fun w21 O22 => ?_
       rcases Bool.eq_false_or_eq_true (nre) with h23 | h23
       · refine sg1 [.a (bR 1 h23), .p 2, .a (.r 0), .p 2, .a (.r 0), .p 1, .n [], .s 0 [], .a (.r 0), .a (.r 2), .a (.e (((hs == ns) && ((he == ne) && ((false == nrs) && ((hre == nre) && ((hp == np) && true)))))) _ rfl), .p 1] O22 fun b24 w25 O26 => ?_
         exact gret (v := .bool ((hs == ns) && ((he == ne) && ((false == nrs) && ((hre == nre) && ((hp == np) && true)))))) [] O26 (⟨by cases hs <;> cases he <;> cases hrs <;> cases hre <;> simp [enough, h5, h8, h11, h23, Bool.beq_eq_decide_eq], O26.below⟩)
       · refine sg1 [.a (bR 1 h23), .p 5, .a (.r 0), .p 1, .n [], .s 0 [], .a (.r 0), .a (.r 2), .a (.e (((hs == ns) && ((he == ne) && ((false == nrs) && ((false == nre) && ((hp == np) && true)))))) _ rfl), .p 1] O22 fun b27 w28 O29 => ?_
         exact gret (v := .bool ((hs == ns) && ((he == ne) && ((false == nrs) && ((false == nre) && ((hp == np) && true)))))) [] O29 (⟨by cases hs <;> cases he <;> cases hrs <;> cases hre <;> simp [enough, h5, h8, h11, h23, Bool.beq_eq_decide_eq], O29.below⟩)
   · refine sg0 [.a (bR 1 h8), .p 5] O7 fun w30 O31 => ?_
     rcases Bool.eq_false_or_eq_true (nrs) with h32 | h32
     · refine sg0 [.a (bR 1 h32), .p 2, .a (.r 0), .p 2] O31 fun w33 O34 => ?_
       rcases Bool.eq_false_or_eq_true (nre) with h35 | h35
       · refine sg1 [.a (bR 1 h35), .p 2, .a (.r 0), .p 2, .a (.r 0), .p 1, .n [], .s 0 [], .a (.r 0), .a (.r 2), .a (.e (((hs == ns) && ((false == ne) && ((hrs == nrs) && ((hre == nre) && ((hp == np) && true)))))) _ rfl), .p 1] O34 fun b36 w37 O38 => ?_
         exact gret (v := .bool ((hs == ns) && ((false == ne) && ((hrs == nrs) && ((hre == nre) && ((hp == np) && true)))))) [] O38 (⟨by cases hs <;> cases he <;> cases hrs <;> cases hre <;> simp [enough, h5, h8, h32, h35, Bool.beq_eq_decide_eq], O38.below⟩)
       · refine sg1 [.a (bR 1 h35), .p 5, .a (.r 0), .p 1, .n [], .s 0 [], .a (.r 0), .a (.r 2), .a (.e (((hs == ns) && ((false == ne) && ((hrs == nrs) && ((false == nre) && ((hp == np) && true)))))) _ rfl), .p 1] O34 fun b39 w40 O41 => ?_
         exact gret (v := .bool ((hs == ns) && ((false == ne) && ((hrs == nrs) && ((false == nre) && ((hp == np) && true)))))) [] O41 (⟨by cases hs <;> cases he <;> cases hrs <;> cases hre <;> simp [enough, h5, h8, h32, h35, Bool.beq_eq_decide_eq], O41.below⟩)
     · refine sg0 [.a (bR 1 h32), .p 5] O31 fun w42 O43 => ?_
       rcases Bool.eq_false_or_eq_true (nre) with h44 | h44
       · refine sg1 [.a (bR 1 h44), .p 2, .a (.r 0), .p 2, .a (.r 0), .p 1, .n [], .s 0 [], .a (.r 0), .a (.r 2), .a (.e (((hs == ns) && ((false == ne) && ((false == nrs) && ((hre == nre) && ((hp == np) && true)))))) _ rfl), .p 1] O43 fun b45 w46 O47 => ?_
         exact gret (v := .bool ((hs == ns) && ((false == ne) && ((false == nrs) && ((hre == nre) && ((hp == np) && true)))))) [] O47 (⟨by cases hs <;> cases he <;> cases hrs <;> cases hre <;> simp [enough, h5, h8, h32, h44, Bool.beq_eq_decide_eq], O47.below⟩)
       · refine sg1 [.a (bR 1 h44), .p 5, .a (.r 0), .p 1, .n [], .s 0 [], .a (.r 0), .a (.r 2), .a (.e (((hs == ns) && ((false == ne) && ((false == nrs) && ((false == nre) && ((hp == np) && true)))))) _ rfl), .p 1] O43 fun b48 w49 O50 => ?_
         exact gret (v := .bool ((hs == ns) && ((false == ne) && ((false == nrs) && ((false == nre) && ((hp == np) && true)))))) [] O50 (⟨by cases hs <;> cases he <;> cases hrs <;> cases hre <;> simp [enough, h5, h8, h32, h44, Bool.beq_eq_decide_eq], O50.below⟩)
 · refine sg0 [.a (bR 1 h5), .p 5] O4 fun w51 O52 => ?_
   rcases Bool.eq_false_or_eq_true (ne) with h53 | h53
   · refine sg0 [.a (bR 1 h53), .p 2, .a (.r 0), .p 2] O52 fun w54 O55 => ?_
     rcases Bool.eq_false_or_eq_true (nrs) with h56 | h56
     · refine sg0 [.a (bR 1 h56), .p 2, .a (.r 0), .p 2] O55 fun w57 O58 => ?_
       rcases Bool.eq_false_or_eq_true (nre) with h59 | h59
       · refine sg1 [.a (bR 1 h59), .p 2, .a (.r 0), .p 2, .a (.r 0), .p 1, .n [], .s 0 [], .a (.r 0), .a (.r 2), .a (.e (((false == ns) && ((he == ne) && ((hrs == nrs) && ((hre == nre) && ((hp == np) && true)))))) _ rfl), .p 1] O58 fun b60 w61 O62 => ?_
         exact gret (v := .bool ((false == ns) && ((he == ne) && ((hrs == nrs) && ((hre == nre) && ((hp == np) && true)))))) [] O62 (⟨by cases hs <;> cases he <;> cases hrs <;> cases hre <;> simp [enough, h5, h53, h56, h59, Bool.beq_eq_decide_eq], O62.below⟩)
       · refine sg1 [.a (bR 1 h59), .p 5, .a (.r 0), .p 1, .n [], .s 0 [], .a (.r 0), .a (.r 2), .a (.e (((false == ns) && ((he == ne) && ((hrs == nrs) && ((false == nre) && ((hp == np) && true)))))) _ rfl), .p 1] O58 fun b63 w64 O65 => ?_
         exact gret (v := .bool ((false == ns) && ((he == ne) && ((hrs == nrs) && ((false == nre) && ((hp == np) && true)))))) [] O65 (⟨by cases hs <;> cases he <;> cases hrs <;> cases hre <;> simp [enough, h5, h53, h56, h59, Bool.beq_eq_decide_eq], O65.below⟩)
     · refine sg0 [.a (bR 1 h56), .p 5] O55 fun w66 O67 => ?_
       rcases Bool.eq_false_or_eq_true (nre) with h68 | h68
       · refine sg1 [.a (bR 1 h68), .p 2, .a (.r 0), .p 2, .a (.r 0), .p 1, .n [], .s 0 [], .a (.r 0), .a (.r 2), .a (.e (((false == ns) && ((he == ne) && ((false == nrs) && ((hre == nre) && ((hp == np) && true)))))) _ rfl), .p 1] O67 fun b69 w70 O71 => ?_
         exact gret (v := .bool ((false == ns) && ((he == ne) && ((false == nrs) && ((hre == nre) && ((hp == np) && true)))))) [] O71 (⟨by cases hs <;> cases he <;> cases hrs <;> cases hre <;> simp [enough, h5, h53, h56, h68, Bool.beq_eq_decide_eq], O71.below⟩)
       · refine sg1 [.a (bR 1 h68), .p 5, .a (.r 0), .p 1, .n [], .s 0 [], .a (.r 0), .a (.r 2), .a (.e (((false == ns) && ((he == ne) && ((false == nrs) && ((false == nre) && ((hp == np) && true)))))) _ rfl), .p 1] O67 fun b72 w73 O74 => ?_
         exact gret (v := .bool ((false == ns) && ((he == ne) && ((false == nrs) && ((false == nre) && ((hp == np) && true)))))) [] O74 (⟨by cases hs <;> cases he <;> cases hrs <;> cases hre <;> simp [enough, h5, h53, h56, h68, Bool.beq_eq_decide_eq], O74.below⟩)
   · refine sg0 [.a (bR 1 h53), .p 5] O52 fun w75 O76 => ?_
     rcases Bool.eq_false_or_eq_true (nrs) with h77 | h77
     · refine sg0 [.a (bR 1 h77), .p 2, .a (.r 0), .p 2] O76 fun w78 O79 => ?_
       rcases Bool.eq_false_or_eq_true (nre) with h80 | h80
       · refine sg1 [.a (bR 1 h80), .p 2, .a (.r 0), .p 2, .a (.r 0), .p 1, .n [], .s 0 [], .a (.r 0), .a (.r 2), .a (.e (((false == ns) && ((false == ne) && ((hrs == nrs) && ((hre == nre) && ((hp == np) && true)))))) _ rfl), .p 1] O79 fun b81 w82 O83 => ?_
         exact gret (v := .bool ((false == ns) && ((false == ne) && ((hrs == nrs) && ((hre == nre) && ((hp == np) && true)))))) [] O83 (⟨by cases hs <;> cases he <;> cases hrs <;> cases hre <;> simp [enough, h5, h53, h77, h80, Bool.beq_eq_decide_eq], O83.below⟩)
       · refine sg1 [.a (bR 1 h80), .p 5, .a (.r 0), .p 1, .n [], .s 0 [], .a (.r 0), .a (.r 2), .a (.e (((false == ns) && ((false == ne) && ((hrs == nrs) && ((false == nre) && ((hp == np) && true)))))) _ rfl), .p 1] O79 fun b84 w85 O86 => ?_
         exact gret (v := .bool ((false == ns) && ((false == ne) && ((hrs == nrs) && ((false == nre) && ((hp == np) && true)))))) [] O86 (⟨by cases hs <;> cases he <;> cases hrs <;> cases hre <;> simp [enough, h5, h53, h77, h80, Bool.beq_eq_decide_eq], O86.below⟩)
     · refine sg0 [.a (bR 1 h77), .p 5] O76 fun w87 O88 => ?_
       rcases Bool.eq_false_or_eq_true (nre) with h89 | h89
       · refine sg1 [.a (bR 1 h89), .p 2, .a (.r 0), .p 2, .a (.r 0), .p 1, .n [], .s 0 [], .a (.r 0), .a (.r 2), .a (.e (((false == ns) && ((false == ne) && ((false == nrs) && ((hre == nre) && ((hp == np) && true)))))) _ rfl), .p 1] O88 fun b90 w91 O92 => ?_
         exact gret (v := .bool ((false == ns) && ((false == ne) && ((false == nrs) && ((hre == nre) && ((hp == np) && true)))))) [] O92 (⟨by cases hs <;> cases he <;> cases hrs <;> cases hre <;> simp [enough, h5, h53, h77, h89, Bool.beq_eq_decide_eq], O92.below⟩)
       · refine sg1 [.a (bR 1 h89), .p 5, .a (.r 0), .p 1, .n [], .s 0 [], .a (.r 0), .a (.r 2), .a (.e (((false == ns) && ((false == ne) && ((false == nrs) && ((false == nre) && ((hp == np) && true)))))) _ rfl), .p 1] O88 fun b93 w94 O95 => ?_
         exact gret (v := .bool ((false == ns) && ((false == ne) && ((false == nrs) && ((false == nre) && ((hp == np) && true)))))) [] O95 (⟨by cases hs <;> cases he <;> cases hrs <;> cases hre <;> simp [enough, h5, h53, h77, h89, Bool.beq_eq_decide_eq], O95.below⟩)
set_option warningAsError false in
set_option maxRecDepth 100000 in
set_option maxHeartbeats 4000000 in
theorem needE0 {w : World} {A0 A1 A : Option Addr} {c0 c1 c : Nat} {p : Pat} (hp : PatIn w (Old w) (pvx A0 c0 A1 c1 A c p) p) (hp0 : Holds w A0 (intsV p.pre0)) (hp1 : Holds w A1 (intsV p.pre1)) (hl0 : p.pre0.length ≤ 9223372036854775807) (hl1 : p.pre1.length ≤ 9223372036854775807) (hfit : PatFits p) :
    Calls Tryz.prog 58 #[.agg #[.string (strO p.name), .slice A0 p.pre0.length c0, .slice A1 p.pre1.length c1, .slice A p.msgs.length c], .int .i64 0] w fun e' w' => e' = .returned (.tuple #[.agg #[.bool (needOf p 0).1.s, .bool (needOf p 0).1.e, .bool (needOf p 0).1.rs, .bool (needOf p 0).1.re, .int .i64 (needOf p 0).1.psks], .int .i64 (needOf p 0).2]) ∧ Below w.heap.size w w' := by
 have O0 := Own.start w
 replace O0 : Own w w (List.map Ent.t []) := O0
 refine gent O0 Tryz.func58 ?_
 refine sg2 [.n [], .n [], .p 8, .a (.r 1)] O0 fun b1 b2 w3 O4 => ?_
 obtain ⟨r7, k8, e5, hm6⟩ : ∃ r k e, checkV p = (r, k, e) := ⟨_, _, _, rfl⟩
 refine gU (args := #[.agg #[.string (strO p.name), .slice A0 p.pre0.length c0, .slice A1 p.pre1.length c1, .slice A p.msgs.length c]]) (checkE' O4 hp hfit hm6) fun w9 O10 => ?_
 refine sg0 [.p 8] O10 fun w12 O13 => ?_
 rcases Bool.eq_false_or_eq_true (e5 != 0) with h14 | h14
 · have h14p : ¬ e5 = 0 := by simpa using h14
   refine sg0 [.a (bT h14), .p 3, .s 0 [], .p 1] O13 fun w15 O16 => ?_
   exact gret (v := .tuple #[.agg #[.bool false, .bool false, .bool false, .bool false, .int .i64 0], .int .i64 e5]) [] O16 (⟨by simp [needOf, NK.zero, hm6, h14p], O16.below⟩)
 · have h14p : e5 = 0 := by simpa using h14
   have hr : rightP p = true := by cases hq : rightP p with | true => rfl | false => simp [checkV, hq] at hm6; omega
   obtain ⟨hnm, htold0, htold1, hma, hmz, hms⟩ := right_facts hr
   refine sg0 [.a (bT h14), .p 1] O13 fun w17 O18 => ?_
   refine gj false 6 O18 (fun (bk : Nat) => [(1, .int .i64 0), (2, .pointer (some ⟨b1, 0, none⟩)), (4, .pointer (some ⟨b2, 0, none⟩)), (5, .int .i64 0), (9, .pointer (some ⟨bk, 0, none⟩))]) (fun (bk : Nat) => [.blk bk (.cells #[.bool (decide ((2 : Int) ∈ p.pre0)), .bool (decide ((1 : Int) ∈ p.pre0)), .bool (decide ((2 : Int) ∈ p.pre1)), .bool (decide ((1 : Int) ∈ p.pre1)), .int .i64 0] 151), .blk b2 (.cells #[.bool false, .bool false, .bool false, .bool false, .int .i64 0] 151), .blk b1 (.cells #[.string (strO p.name), .slice A0 p.pre0.length c0, .slice A1 p.pre1.length c1, .slice A p.msgs.length c] 33)]) (fun (bk : Nat) w => True) ?_ ?_
   · intro _ hM19 O20
     refine sg0 [.d [1], .qs [0, 1, 2], .q 3 (.r 0), .qs [5, 6, 7], .q 8 (.r 0), .qs [10, 11, 12, 13], .q 14 (.r 0), .qs [16, 17, 18, 19], .q 20 (.r 0)] O20 fun w21 O22 => ?_
     refine gA [4, 23] O22 ⟨?_, ?_, trivial⟩
     · intro O23
       refine gU (js := [1]) (args := #[.slice A0 p.pre0.length c0, .int .i64 2]) (containsE O23 hp0 hl0 rfl) fun w24 O25 => ?_
       refine gA [9, 23] O25 ⟨?_, ?_, trivial⟩
       · intro O27
         refine gU (js := [1]) (args := #[.slice A0 p.pre0.length c0, .int .i64 1]) (containsE O27 hp0 hl0 rfl) fun w28 O29 => ?_
         refine gA [15, 23] O29 ⟨?_, ?_, trivial⟩
         · intro O31
           refine gU (js := [1]) (args := #[.slice A1 p.pre1.length c1, .int .i64 2]) (containsE O31 hp1 hl1 rfl) fun w32 O33 => ?_
           refine gA [21, 23] O33 ⟨?_, ?_, trivial⟩
           · intro O35
             refine gU (js := [1]) (args := #[.slice A1 p.pre1.length c1, .int .i64 1]) (containsE O35 hp1 hl1 rfl) fun w36 O37 => ?_
             refine sg1 [.qs [22], .o 23, .n [2], .o 24, .s 0 [2], .z] O37 fun b39 w40 O41 => ?_
             exact gz _ fun a F => hM19 a _ b39 F (O41.as 0) trivial
           · intro O42
             refine sg1 [.n [2], .o 21] O42 fun b43 w44 O45 => ?_
             refine gU (js := [2]) (args := #[.slice A1 p.pre1.length c1, .int .i64 1]) (containsE O45 hp1 hl1 rfl) fun w46 O47 => ?_
             refine sg0 [.qs [22], .o 24, .s 0 [2], .z] O47 fun w49 O50 => ?_
             exact gz _ fun a F => hM19 a _ b43 F (O50.as 0) trivial
         · intro O51
           refine sg1 [.n [2], .o 15] O51 fun b52 w53 O54 => ?_
           refine gU (js := [2]) (args := #[.slice A1 p.pre1.length c1, .int .i64 2]) (containsE O54 hp1 hl1 rfl) fun w55 O56 => ?_
           refine sg0 [.o 21] O56 fun w58 O59 => ?_
           refine gU (js := [2]) (args := #[.slice A1 p.pre1.length c1, .int .i64 1]) (containsE O59 hp1 hl1 rfl) fun w60 O61 => ?_
           refine sg0 [.qs [22], .o 24, .s 0 [2], .z] O61 fun w63 O64 => ?_
           exact gz _ fun a F => hM19 a _ b52 F (O64.as 0) trivial
       · intro O65
         refine sg1 [.n [2], .o 9] O65 fun b66 w67 O68 => ?_
         refine gU (js := [2]) (args := #[.slice A0 p.pre0.length c0, .int .i64 1]) (containsE O68 hp0 hl0 rfl) fun w69 O70 => ?_
         refine sg0 [.o 15] O70 fun w72 O73 => ?_
         refine gU (js := [2]) (args := #[.slice A1 p.pre1.length c1, .int .i64 2]) (containsE O73 hp1 hl1 rfl) fun w74 O75 => ?_
         refine sg0 [.o 21] O75 fun w77 O78 => ?_
         refine gU (js := [2]) (args := #[.slice A1 p.pre1.length c1, .int .i64 1]) (containsE O78 hp1 hl1 rfl) fun w79 O80 => ?_
         refine sg0 [.qs [22], .o 24, .s 0 [2], .z] O80 fun w82 O83 => ?_
         exact gz _ fun a F => hM19 a _ b66 F (O83.as 0) trivial
     · intro O84
       refine sg1 [.n [2], .o 4] O84 fun b85 w86 O87 => ?_
       refine gU (js := [2]) (args := #[.slice A0 p.pre0.length c0, .int .i64 2]) (containsE O87 hp0 hl0 rfl) fun w88 O89 => ?_
       refine sg0 [.o 9] O89 fun w91 O92 => ?_
       refine gU (js := [2]) (args := #[.slice A0 p.pre0.length c0, .int .i64 1]) (containsE O92 hp0 hl0 rfl) fun w93 O94 => ?_
       refine sg0 [.o 15] O94 fun w96 O97 => ?_
       refine gU (js := [2]) (args := #[.slice A1 p.pre1.length c1, .int .i64 2]) (containsE O97 hp1 hl1 rfl) fun w98 O99 => ?_
       refine sg0 [.o 21] O99 fun w101 O102 => ?_
       refine gU (js := [2]) (args := #[.slice A1 p.pre1.length c1, .int .i64 1]) (containsE O102 hp1 hl1 rfl) fun w103 O104 => ?_
       refine sg0 [.qs [22], .o 24, .s 0 [2], .z] O104 fun w106 O107 => ?_
       exact gz _ fun a F => hM19 a _ b85 F (O107.as 0) trivial
   · rintro bk w108 O109 _
     refine sg0 [.p 1, .a (.r 2), .p 2] O109 fun w110 O111 => ?_
     refine gl (fun (zz : Nat × Bool × Int) => match zz with | (k, s, n) => [(1, .int .i64 0), (4, .pointer (some ⟨b2, 0, none⟩)), (5, .int .i64 0), (9, .pointer (some ⟨bk, 0, none⟩)), (55, .slice A p.msgs.length c), (56, .int .i64 (p.msgs.length : Int)), (57, .int .i64 (k : Int))]) (fun (zz : Nat × Bool × Int) => match zz with | (k, s, n) => [.blk bk (.cells #[.bool s, .bool (decide ((1 : Int) ∈ p.pre0)), .bool (decide ((2 : Int) ∈ p.pre1)), .bool (decide ((1 : Int) ∈ p.pre1)), .int .i64 n] 151), .blk b2 (.cells #[.bool false, .bool false, .bool false, .bool false, .int .i64 0] 151), .blk b1 (.cells #[.string (strO p.name), .slice A0 p.pre0.length c0, .slice A1 p.pre1.length c1, .slice A p.msgs.length c] 33)]) (fun (zz : Nat × Bool × Int) w => match zz with | (k, s, n) => k ≤ p.msgs.length ∧ needMsgs 0 (p.msgs.drop k) s n = needMsgs 0 p.msgs (decide ((2 : Int) ∈ p.pre0)) 0 ∧ (0 ≤ n ∧ n ≤ 12 * k)) (fun (zz : Nat × Bool × Int) => match zz with | (k, s, n) => p.msgs.length - k) (0, decide ((2 : Int) ∈ p.pre0), 0) (O111.as 0) ⟨(Nat.zero_le _), rfl, (by omega)⟩ ?_
     rintro M114 ⟨k, s, n⟩ w112 hM115 O113 ⟨hk, hq, hn⟩
     rcases Bool.eq_false_or_eq_true (decide ((k : Int) < (p.msgs.length : Int))) with h116 | h116
     · have h116p : ((k : Int) < (p.msgs.length : Int)) := by simpa only [decide_eq_true_eq, decide_eq_false_iff_not] using h116
       have hk : k + 1 ≤ p.msgs.length := by have := h116p; omega
       obtain ⟨m, hm⟩ : ∃ m, p.msgs[k]? = some m := ⟨_, List.getElem?_eq_getElem hk⟩
       obtain ⟨mb, mq, D, d, hA, hD, hcell⟩ := msg_at hp.msgs hm
       have hmf := hms m (List.mem_of_getElem? hm)
       have hdrop := drop_at hm
       refine sg0 [.a (bT h116), .p 1, .a (.i _ mb mq p.msgs.length k hA hk)] O113 fun w117 O118 => ?_
       refine gx [.cell mb (mq + k * 2) (.int .i64 m.frm), .cell mb (mq + k * 2 + 1) (.slice D m.t.length d)] O118 ⟨(hcell _ O118.below).1, (hcell _ O118.below).2, trivial⟩ fun O119 => ?_
       refine sg1 [.a (.l [0, 1]), .n [], .s 0 [], .p 1, .a (.r 0), .p 2] O119 fun b120 w121 O122 => ?_
       refine gl (fun (zz : Nat × Bool × Int) => match zz with | (j, s2, n2) => [(1, .int .i64 0), (4, .pointer (some ⟨b2, 0, none⟩)), (5, .int .i64 0), (9, .pointer (some ⟨bk, 0, none⟩)), (11, .pointer (some ⟨b120, 0, none⟩)), (55, .slice A p.msgs.length c), (56, .int .i64 (p.msgs.length : Int)), (57, .int .i64 (k : Int)), (62, .slice D m.t.length d), (63, .int .i64 (m.t.length : Int)), (64, .int .i64 (j : Int))]) (fun (zz : Nat × Bool × Int) => match zz with | (j, s2, n2) => [.blk b120 (.cells #[.int .i64 m.frm, .slice D m.t.length d] 61), .blk bk (.cells #[.bool s2, .bool (decide ((1 : Int) ∈ p.pre0)), .bool (decide ((2 : Int) ∈ p.pre1)), .bool (decide ((1 : Int) ∈ p.pre1)), .int .i64 n2] 151), .blk b2 (.cells #[.bool false, .bool false, .bool false, .bool false, .int .i64 0] 151), .blk b1 (.cells #[.string (strO p.name), .slice A0 p.pre0.length c0, .slice A1 p.pre1.length c1, .slice A p.msgs.length c] 33)]) (fun (zz : Nat × Bool × Int) w => match zz with | (j, s2, n2) => j ≤ m.t.length ∧ needTok 0 m.frm (m.t.drop j) s2 n2 = needTok 0 m.frm m.t s n ∧ (0 ≤ n2 ∧ n2 ≤ n + j)) (fun (zz : Nat × Bool × Int) => match zz with | (j, s2, n2) => m.t.length - j) (0, s, n) (O122.as 0) ⟨(Nat.zero_le _), rfl, (by omega)⟩ ?_
       rintro M125 ⟨j, s2, n2⟩ w123 hM126 O124 ⟨hj, hqj, hn2⟩
       rcases Bool.eq_false_or_eq_true (decide ((j : Int) < (m.t.length : Int))) with h127 | h127
       · have h127p : ((j : Int) < (m.t.length : Int)) := by simpa only [decide_eq_true_eq, decide_eq_false_iff_not] using h127
         have hj : j + 1 ≤ m.t.length := by have := h127p; omega
         obtain ⟨t, ht⟩ : ∃ t, m.t[j]? = some t := ⟨_, List.getElem?_eq_getElem hj⟩
         obtain ⟨tb, tq, hD2, htcell⟩ := holdsI_at hD ht
         have hdropj := drop_at ht
         refine sg0 [.a (bT h127), .p 1, .a (.i _ tb tq m.t.length j hD2 hj)] O124 fun w128 O129 => ?_
         refine gx [.cell tb (tq + j * 1) (.int .i64 t)] O129 ⟨(htcell _ O129.below), trivial⟩ fun O130 => ?_
         refine sg0 [.a (.r 0), .p 2] O130 fun w131 O132 => ?_
         rcases Bool.eq_false_or_eq_true (t == 7) with h133 | h133
         · have h133p : t = 7 := by simpa using h133
           refine sg0 [.a (bT h133), .p 3, .a (.r 2), .a (iW (n2 + 1)), .p 1, .s 1 [], .a (iW ((j : Int) + 1)), .p 1] O132 fun w134 O135 => ?_
           exact gz _ fun a F => hM126 a _ (j + 1, s2, n2 + 1) F (O135.as 0) ⟨hj, (by rw [← hqj, hdropj]; simp [needTok, h133p]), (by omega)⟩ (show m.t.length - (j + 1) < m.t.length - j by omega)
         · have h133p : ¬ t = 7 := by simpa using h133
           refine sg0 [.a (bT h133), .p 3] O132 fun w136 O137 => ?_
           rcases Bool.eq_false_or_eq_true (t == 2) with h138 | h138
           · have h138p : t = 2 := by simpa using h138
             refine sg0 [.a (bT h138), .p 2, .a (.r 1), .p 1] O137 fun w139 O140 => ?_
             rcases Bool.eq_false_or_eq_true (m.frm == 0) with h141 | h141
             · have h141p : m.frm = 0 := by simpa using h141
               refine sg0 [.a (bT h141), .p 4, .s 1 [], .a (iW ((j : Int) + 1)), .p 1] O140 fun w142 O143 => ?_
               exact gz _ fun a F => hM126 a _ (j + 1, true, n2) F (O143.as 0) ⟨hj, (by rw [← hqj, hdropj]; simp [needTok, h138p, h141p]), (by omega)⟩ (show m.t.length - (j + 1) < m.t.length - j by omega)
             · have h141p : ¬ m.frm = 0 := by simpa using h141
               refine sg0 [.a (bT h141), .p 3, .a (iW ((j : Int) + 1)), .p 1] O140 fun w144 O145 => ?_
               exact gz _ fun a F => hM126 a _ (j + 1, s2, n2) F (O145.as 0) ⟨hj, (by rw [← hqj, hdropj]; simp [needTok, h138p, h141p]), (by omega)⟩ (show m.t.length - (j + 1) < m.t.length - j by omega)
           · have h138p : ¬ t = 2 := by simpa using h138
             refine sg0 [.a (bT h138), .p 8, .a (iW ((j : Int) + 1)), .p 1] O137 fun w146 O147 => ?_
             exact gz _ fun a F => hM126 a _ (j + 1, s2, n2) F (O147.as 0) ⟨hj, (by rw [← hqj, hdropj]; simp [needTok, h133p, h138p]), (by omega)⟩ (show m.t.length - (j + 1) < m.t.length - j by omega)
       · have h127p : ¬ ((j : Int) < (m.t.length : Int)) := by simpa only [decide_eq_true_eq, decide_eq_false_iff_not] using h127
         have hj2 : needTok 0 m.frm m.t s n = (s2, n2) := by rw [← hqj, List.drop_eq_nil_of_le (by have := h127p; omega)]; rfl
         refine sg0 [.a (bT h127), .p 1, .a (iW ((k : Int) + 1)), .p 1] O124 fun w148 O149 => ?_
         exact gz _ fun a F => hM115 a _ (k + 1, s2, n2) F (O149.as 1) ⟨hk, (by rw [← hq, hdrop]; simp [needMsgs, hj2]), (by have := hmf.2.2.1; omega)⟩ (show p.msgs.length - (k + 1) < p.msgs.length - k by omega)
     · have h116p : ¬ ((k : Int) < (p.msgs.length : Int)) := by simpa only [decide_eq_true_eq, decide_eq_false_iff_not] using h116
       have hq2 : needMsgs 0 p.msgs (decide ((2 : Int) ∈ p.pre0)) 0 = (s, n) := by rw [← hq, List.drop_eq_nil_of_le (by have := h116p; omega)]; rfl
       refine sg0 [.a (bT h116), .p 1, .a (.r 0), .s 1 [], .p 1] O113 fun w150 O151 => ?_
       exact gret (v := .tuple #[.agg #[.bool s, .bool (decide ((1 : Int) ∈ p.pre0)), .bool (decide ((2 : Int) ∈ p.pre1)), .bool (decide ((1 : Int) ∈ p.pre1)), .int .i64 n], .int .i64 0]) [1] O151 (⟨by simp [needOf, preOf, hm6, h14p, hq2], O151.below⟩)
set_option warningAsError false in
set_option maxRecDepth 100000 in
set_option maxHeartbeats 4000000 in
theorem needE1 {w : World} {A0 A1 A : Option Addr} {c0 c1 c : Nat} {p : Pat} (hp : PatIn w (Old w) (pvx A0 c0 A1 c1 A c p) p) (hp0 : Holds w A0 (intsV p.pre0)) (hp1 : Holds w A1 (intsV p.pre1)) (hl0 : p.pre0.length ≤ 9223372036854775807) (hl1 : p.pre1.length ≤ 9223372036854775807) (hfit : PatFits p) :
    Calls Tryz.prog 58 #[.agg #[.string (strO p.name), .slice A0 p.pre0.length c0, .slice A1 p.pre1.length c1, .slice A p.msgs.length c], .int .i64 1] w fun e' w' => e' = .returned (.tuple #[.agg #[.bool (needOf p 1).1.s, .bool (needOf p 1).1.e, .bool (needOf p 1).1.rs, .bool (needOf p 1).1.re, .int .i64 (needOf p 1).1.psks], .int .i64 (needOf p 1).2]) ∧ Below w.heap.size w w' := by
 have O0 := Own.start w
 replace O0 : Own w w (List.map Ent.t []) := O0
 refine gent O0 Tryz.func58 ?_
 refine sg2 [.n [], .n [], .p 8, .a (.r 1)] O0 fun b1 b2 w3 O4 => ?_
 obtain ⟨r7, k8, e5, hm6⟩ : ∃ r k e, checkV p = (r, k, e) := ⟨_, _, _, rfl⟩
 refine gU (args := #[.agg #[.string (strO p.name), .slice A0 p.pre0.length c0, .slice A1 p.pre1.length c1, .slice A p.msgs.length c]]) (checkE' O4 hp hfit hm6) fun w9 O10 => ?_
 refine sg0 [.p 8] O10 fun w12 O13 => ?_
 rcases Bool.eq_false_or_eq_true (e5 != 0) with h14 | h14
 · have h14p : ¬ e5 = 0 := by simpa using h14
   refine sg0 [.a (bT h14), .p 3, .s 0 [], .p 1] O13 fun w15 O16 => ?_
   exact gret (v := .tuple #[.agg #[.bool false, .bool false, .bool false, .bool false, .int .i64 0], .int .i64 e5]) [] O16 (⟨by simp [needOf, NK.zero, hm6, h14p], O16.below⟩)
 · have h14p : e5 = 0 := by simpa using h14
   have hr : rightP p = true := by cases hq : rightP p with | true => rfl | false => simp [checkV, hq] at hm6; omega
   obtain ⟨hnm, htold0, htold1, hma, hmz, hms⟩ := right_facts hr
   refine sg0 [.a (bT h14), .p 1] O13 fun w17 O18 => ?_
   refine gj false 6 O18 (fun (bk : Nat) => [(1, .int .i64 1), (2, .pointer (some ⟨b1, 0, none⟩)), (4, .pointer (some ⟨b2, 0, none⟩)), (5, .int .i64 0), (9, .pointer (some ⟨bk, 0, none⟩))]) (fun (bk : Nat) => [.blk bk (.cells #[.bool (decide ((2 : Int) ∈ p.pre1)), .bool (decide ((1 : Int) ∈ p.pre1)), .bool (decide ((2 : Int) ∈ p.pre0)), .bool (decide ((1 : Int) ∈ p.pre0)), .int .i64 0] 151), .blk b2 (.cells #[.bool false, .bool false, .bool false, .bool false, .int .i64 0] 151), .blk b1 (.cells #[.string (strO p.name), .slice A0 p.pre0.length c0, .slice A1 p.pre1.length c1, .slice A p.msgs.length c] 33)]) (fun (bk : Nat) w => True) ?_ ?_
   · intro _ hM19 O20
     refine sg0 [.d [1], .qs [0, 1, 2], .q 3 (.r 0), .qs [5, 6, 7], .q 8 (.r 0), .qs [10, 11, 12, 13], .q 14 (.r 0), .qs [16, 17, 18, 19], .q 20 (.r 0)] O20 fun w21 O22 => ?_
     refine gA [4, 23] O22 ⟨?_, ?_, trivial⟩
     · intro O23
       refine gU (js := [1]) (args := #[.slice A1 p.pre1.length c1, .int .i64 2]) (containsE O23 hp1 hl1 rfl) fun w24 O25 => ?_
       refine gA [9, 23] O25 ⟨?_, ?_, trivial⟩
       · intro O27
         refine gU (js := [1]) (args := #[.slice A1 p.pre1.length c1, .int .i64 1]) (containsE O27 hp1 hl1 rfl) fun w28 O29 => ?_
         refine gA [15, 23] O29 ⟨?_, ?_, trivial⟩
         · intro O31
           refine gU (js := [1]) (args := #[.slice A0 p.pre0.length c0, .int .i64 2]) (containsE O31 hp0 hl0 rfl) fun w32 O33 => ?_
           refine gA [21, 23] O33 ⟨?_, ?_, trivial⟩
           · intro O35
             refine gU (js := [1]) (args := #[.slice A0 p.pre0.length c0, .int .i64 1]) (containsE O35 hp0 hl0 rfl) fun w36 O37 => ?_
             refine sg1 [.qs [22], .o 23, .n [2], .o 24, .s 0 [2], .z] O37 fun b39 w40 O41 => ?_
             exact gz _ fun a F => hM19 a _ b39 F (O41.as 0) trivial
           · intro O42
             refine sg1 [.n [2], .o 21] O42 fun b43 w44 O45 => ?_
             refine gU (js := [2]) (args := #[.slice A0 p.pre0.length c0, .int .i64 1]) (containsE O45 hp0 hl0 rfl) fun w46 O47 => ?_
             refine sg0 [.qs [22], .o 24, .s 0 [2], .z] O47 fun w49 O50 => ?_
             exact gz _ fun a F => hM19 a _ b43 F (O50.as 0) trivial
         · intro O51
           refine sg1 [.n [2], .o 15] O51 fun b52 w53 O54 => ?_
           refine gU (js := [2]) (args := #[.slice A0 p.pre0.length c0, .int .i64 2]) (containsE O54 hp0 hl0 rfl) fun w55 O56 => ?_
           refine sg0 [.o 21] O56 fun w58 O59 => ?_
           refine gU (js := [2]) (args := #[.slice A0 p.pre0.length c0, .int .i64 1]) (containsE O59 hp0 hl0 rfl) fun w60 O61 => ?_
           refine sg0 [.qs [22], .o 24, .s 0 [2], .z] O61 fun w63 O64 => ?_
           exact gz _ fun a F => hM19 a _ b52 F (O64.as 0) trivial
       · intro O65
         refine sg1 [.n [2], .o 9] O65 fun b66 w67 O68 => ?_
         refine gU (js := [2]) (args := #[.slice A1 p.pre1.length c1, .int .i64 1]) (containsE O68 hp1 hl1 rfl) fun w69 O70 => ?_
         refine sg0 [.o 15] O70 fun w72 O73 => ?_
         refine gU (js := [2]) (args := #[.slice A0 p.pre0.length c0, .int .i64 2]) (containsE O73 hp0 hl0 rfl) fun w74 O75 => ?_
         refine sg0 [.o 21] O75 fun w77 O78 => ?_
         refine gU (js := [2]) (args := #[.slice A0 p.pre0.length c0, .int .i64 1]) (containsE O78 hp0 hl0 rfl) fun w79 O80 => ?_
         refine sg0 [.qs [22], .o 24, .s 0 [2], .z] O80 fun w82 O83 => ?_
         exact gz _ fun a F => hM19 a _ b66 F (O83.as 0) trivial
     · intro O84
       refine sg1 [.n [2], .o 4] O84 fun b85 w86 O87 => ?_
       refine gU (js := [2]) (args := #[.slice A1 p.pre1.length c1, .int .i64 2]) (containsE O87 hp1 hl1 rfl) fun w88 O89 => ?_
       refine sg0 [.o 9] O89 fun w91 O92 => ?_
       refine gU (js := [2]) (args := #[.slice A1 p.pre1.length c1, .int .i64 1]) (containsE O92 hp1 hl1 rfl) fun w93 O94 => ?_
       refine sg0 [.o 15] O94 fun w96 O97 => ?_
       refine gU (js := [2]) (args := #[.slice A0 p.pre0.length c0, .int .i64 2]) (containsE O97 hp0 hl0 rfl) fun w98 O99 => ?_
       refine sg0 [.o 21] O99 fun w101 O102 => ?_
       refine gU (js := [2]) (args := #[.slice A0 p.pre0.length c0, .int .i64 1]) (containsE O102 hp0 hl0 rfl) fun w103 O104 => ?_
       refine sg0 [.qs [22], .o 24, .s 0 [2], .z] O104 fun w106 O107 => ?_
       exact gz _ fun a F => hM19 a _ b85 F (O107.as 0) trivial
   · rintro bk w108 O109 _
     refine sg0 [.p 1, .a (.r 2), .p 2] O109 fun w110 O111 => ?_
     refine gl (fun (zz : Nat × Bool × Int) => match zz with | (k, s, n) => [(1, .int .i64 1), (4, .pointer (some ⟨b2, 0, none⟩)), (5, .int .i64 0), (9, .pointer (some ⟨bk, 0, none⟩)), (55, .slice A p.msgs.length c), (56, .int .i64 (p.msgs.length : Int)), (57, .int .i64 (k : Int))]) (fun (zz : Nat × Bool × Int) => match zz with | (k, s, n) => [.blk bk (.cells #[.bool s, .bool (decide ((1 : Int) ∈ p.pre1)), .bool (decide ((2 : Int) ∈ p.pre0)), .bool (decide ((1 : Int) ∈ p.pre0)), .int .i64 n] 151), .blk b2 (.cells #[.bool false, .bool false, .bool false, .bool false, .int .i64 0] 151), .blk b1 (.cells #[.string (strO p.name), .slice A0 p.pre0.length c0, .slice A1 p.pre1.length c1, .slice A p.msgs.length c] 33)]) (fun (zz : Nat × Bool × Int) w => match zz with | (k, s, n) => k ≤ p.msgs.length ∧ needMsgs 1 (p.msgs.drop k) s n = needMsgs 1 p.msgs (decide ((2 : Int) ∈ p.pre1)) 0 ∧ (0 ≤ n ∧ n ≤ 12 * k)) (fun (zz : Nat × Bool × Int) => match zz with | (k, s, n) => p.msgs.length - k) (0, decide ((2 : Int) ∈ p.pre1), 0) (O111.as 0) ⟨(Nat.zero_le _), rfl, (by omega)⟩ ?_
     rintro M114 ⟨k, s, n⟩ w112 hM115 O113 ⟨hk, hq, hn⟩
     rcases Bool.eq_false_or_eq_true (decide ((k : Int) < (p.msgs.length : Int))) with h116 | h116
     · have h116p : ((k : Int) < (p.msgs.length : Int)) := by simpa only [decide_eq_true_eq, decide_eq_false_iff_not] using h116
       have hk : k + 1 ≤ p.msgs.length := by have := h116p; omega
       obtain ⟨m, hm⟩ : ∃ m, p.msgs[k]? = some m := ⟨_, List.getElem?_eq_getElem hk⟩
       obtain ⟨mb, mq, D, d, hA, hD, hcell⟩ := msg_at hp.msgs hm
       have hmf := hms m (List.mem_of_getElem? hm)
       have hdrop := drop_at hm
       refine sg0 [.a (bT h116), .p 1, .a (.i _ mb mq p.msgs.length k hA hk)] O113 fun w117 O118 => ?_
       refine gx [.cell mb (mq + k * 2) (.int .i64 m.frm), .cell mb (mq + k * 2 + 1) (.slice D m.t.length d)] O118 ⟨(hcell _ O118.below).1, (hcell _ O118.below).2, trivial⟩ fun O119 => ?_
       refine sg1 [.a (.l [0, 1]), .n [], .s 0 [], .p 1, .a (.r 0), .p 2] O119 fun b120 w121 O122 => ?_
       refine gl (fun (zz : Nat × Bool × Int) => match zz with | (j, s2, n2) => [(1, .int .i64 1), (4, .pointer (some ⟨b2, 0, none⟩)), (5, .int .i64 0), (9, .pointer (some ⟨bk, 0, none⟩)), (11, .pointer (some ⟨b120, 0, none⟩)), (55, .slice A p.msgs.length c), (56, .int .i64 (p.msgs.length : Int)), (57, .int .i64 (k : Int)), (62, .slice D m.t.length d), (63, .int .i64 (m.t.length : Int)), (64, .int .i64 (j : Int))]) (fun (zz : Nat × Bool × Int) => match zz with | (j, s2, n2) => [.blk b120 (.cells #[.int .i64 m.frm, .slice D m.t.length d] 61), .blk bk (.cells #[.bool s2, .bool (decide ((1 : Int) ∈ p.pre1)), .bool (decide ((2 : Int) ∈ p.pre0)), .bool (decide ((1 : Int) ∈ p.pre0)), .int .i64 n2] 151), .blk b2 (.cells #[.bool false, .bool false, .bool false, .bool false, .int .i64 0] 151), .blk b1 (.cells #[.string (strO p.name), .slice A0 p.pre0.length c0, .slice A1 p.pre1.length c1, .slice A p.msgs.length c] 33)]) (fun (zz : Nat × Bool × Int) w => match zz with | (j, s2, n2) => j ≤ m.t.length ∧ needTok 1 m.frm (m.t.drop j) s2 n2 = needTok 1 m.frm m.t s n ∧ (0 ≤ n2 ∧ n2 ≤ n + j)) (fun (zz : Nat × Bool × Int) => match zz with | (j, s2, n2) => m.t.length - j) (0, s, n) (O122.as 0) ⟨(Nat.zero_le _), rfl, (by omega)⟩ ?_
       rintro M125 ⟨j, s2, n2⟩ w123 hM126 O124 ⟨hj, hqj, hn2⟩
       rcases Bool.eq_false_or_eq_true (decide ((j : Int) < (m.t.length : Int))) with h127 | h127
       · have h127p : ((j : Int) < (m.t.length : Int)) := by simpa only [decide_eq_true_eq, decide_eq_false_iff_not] using h127
         have hj : j + 1 ≤ m.t.length := by have := h127p; omega
         obtain ⟨t, ht⟩ : ∃ t, m.t[j]? = some t := ⟨_, List.getElem?_eq_getElem hj⟩
         obtain ⟨tb, tq, hD2, htcell⟩ := holdsI_at hD ht
         have hdropj := drop_at ht
         refine sg0 [.a (bT h127), .p 1, .a (.i _ tb tq m.t.length j hD2 hj)] O124 fun w128 O129 => ?_
         refine gx [.cell tb (tq + j * 1) (.int .i64 t)] O129 ⟨(htcell _ O129.below), trivial⟩ fun O130 => ?_
         refine sg0 [.a (.r 0), .p 2] O130 fun w131 O132 => ?_
         rcases Bool.eq_false_or_eq_true (t == 7) with h133 | h133
         · have h133p : t = 7 := by simpa using h133
           refine sg0 [.a (bT h133), .p 3, .a (.r 2), .a (iW (n2 + 1)), .p 1, .s 1 [], .a (iW ((j : Int) + 1)), .p 1] O132 fun w134 O135 => ?_
           exact gz _ fun a F => hM126 a _ (j + 1, s2, n2 + 1) F (O135.as 0) ⟨hj, (by rw [← hqj, hdropj]; simp [needTok, h133p]), (by omega)⟩ (show m.t.length - (j + 1) < m.t.length - j by omega)
         · have h133p : ¬ t = 7 := by simpa using h133
           refine sg0 [.a (bT h133), .p 3] O132 fun w136 O137 => ?_
           rcases Bool.eq_false_or_eq_true (t == 2) with h138 | h138
           · have h138p : t = 2 := by simpa using h138
             refine sg0 [.a (bT h138), .p 2, .a (.r 1), .p 1] O137 fun w139 O140 => ?_
             rcases Bool.eq_false_or_eq_true (m.frm == 1) with h141 | h141
             · have h141p : m.frm = 1 := by simpa using h141
               refine sg0 [.a (bT h141), .p 4, .s 1 [], .a (iW ((j : Int) + 1)), .p 1] O140 fun w142 O143 => ?_
               exact gz _ fun a F => hM126 a _ (j + 1, true, n2) F (O143.as 0) ⟨hj, (by rw [← hqj, hdropj]; simp [needTok, h138p, h141p]), (by omega)⟩ (show m.t.length - (j + 1) < m.t.length - j by omega)
             · have h141p : ¬ m.frm = 1 := by simpa using h141
               refine sg0 [.a (bT h141), .p 3, .a (iW ((j : Int) + 1)), .p 1] O140 fun w144 O145 => ?_
               exact gz _ fun a F => hM126 a _ (j + 1, s2, n2) F (O145.as 0) ⟨hj, (by rw [← hqj, hdropj]; simp [needTok, h138p, h141p]), (by omega)⟩ (show m.t.length - (j + 1) < m.t.length - j by omega)
           · have h138p : ¬ t = 2 := by simpa using h138
             refine sg0 [.a (bT h138), .p 8, .a (iW ((j : Int) + 1)), .p 1] O137 fun w146 O147 => ?_
             exact gz _ fun a F => hM126 a _ (j + 1, s2, n2) F (O147.as 0) ⟨hj, (by rw [← hqj, hdropj]; simp [needTok, h133p, h138p]), (by omega)⟩ (show m.t.length - (j + 1) < m.t.length - j by omega)
       · have h127p : ¬ ((j : Int) < (m.t.length : Int)) := by simpa only [decide_eq_true_eq, decide_eq_false_iff_not] using h127
         have hj2 : needTok 1 m.frm m.t s n = (s2, n2) := by rw [← hqj, List.drop_eq_nil_of_le (by have := h127p; omega)]; rfl
         refine sg0 [.a (bT h127), .p 1, .a (iW ((k : Int) + 1)), .p 1] O124 fun w148 O149 => ?_
         exact gz _ fun a F => hM115 a _ (k + 1, s2, n2) F (O149.as 1) ⟨hk, (by rw [← hq, hdrop]; simp [needMsgs, hj2]), (by have := hmf.2.2.1; omega)⟩ (show p.msgs.length - (k + 1) < p.msgs.length - k by omega)
     · have h116p : ¬ ((k : Int) < (p.msgs.length : Int)) := by simpa only [decide_eq_true_eq, decide_eq_false_iff_not] using h116
       have hq2 : needMsgs 1 p.msgs (decide ((2 : Int) ∈ p.pre1)) 0 = (s, n) := by rw [← hq, List.drop_eq_nil_of_le (by have := h116p; omega)]; rfl
       refine sg0 [.a (bT h116), .p 1, .a (.r 0), .s 1 [], .p 1] O113 fun w150 O151 => ?_
       exact gret (v := .tuple #[.agg #[.bool s, .bool (decide ((1 : Int) ∈ p.pre1)), .bool (decide ((2 : Int) ∈ p.pre0)), .bool (decide ((1 : Int) ∈ p.pre0)), .int .i64 n], .int .i64 0]) [1] O151 (⟨by simp [needOf, preOf, hm6, h14p, hq2], O151.below⟩)
end Go.Proofs.YtikimmgileffgaaGreatDoor
