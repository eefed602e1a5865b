/- Packed by packn.py: ShkW, ShF. -/
import Derived.Test.YtikimmgileffgaaGreatDoorQk19
import Derived.Test.YtikimmgileffgaaGreatDoorQk11
/- The beginning of a handshake (layer 12). Printed by s_shk1.py. -/
section
namespace Go.Proofs.YtikimmgileffgaaGreatDoor
open Go.RowKit
set_option warningAsError false in
set_option maxRecDepth 100000 in
set_option maxHeartbeats 4000000 in
theorem keptE {w0 w : World} {M : List Thing} {ns ne nrs nre : Bool} {np kS kE kRS kRE : Int} {B : Option Addr} {d : Nat} {psks : List Int} (O : Own w0 w M) (hh : Holds w0 B (intsV psks)) (hl : psks.length * 8 ≤ 140737488355328) :
    Calls Tryz.prog 63 #[.agg #[.bool ns, .bool ne, .bool nrs, .bool nre, .int .i64 np], .agg #[.int .i64 kS, .int .i64 kE, .int .i64 kRS, .int .i64 kRE, .slice B psks.length d]] w fun e' w' => ∃ bk dk, e' = .returned (.agg #[.int .i64 (sel ns kS), .int .i64 (sel ne kE), .int .i64 (sel nrs kRS), .int .i64 (sel nre kRE), .slice bk psks.length dk]) ∧ Own w0 w' (rowT 3 1 (.slice bk psks.length dk) psks.length (intsV psks) :: M) := by
 obtain ⟨T, hT, O0⟩ := O.all
 refine gent O0 Tryz.func63 ?_
 refine sg3 [.n [], .n [], .n [], .p 1, .a (.r 1)] O0 fun b1 b2 b3 w4 O5 => ?_
 refine gc (args := #[.slice B psks.length d]) (cloneE O5 hh hl) ?_
 rintro e8 w6 ⟨bk, dk, rfl, O7⟩
 refine gr O7.mcons fun O7 => ?_
 refine sg2 [.p 1, .n [], .s 0 [], .p 1, .a (.r 4), .p 4, .a (.r 4), .p 4, .a (.r 4), .p 4, .a (.r 4), .p 3, .n [], .p 2, .u 4] O7 fun b9 b10 w11 O12 => ?_
 refine gk O12 (fun (o0 : Int) => [(4, .pointer (some ⟨b3, 0, none⟩)), (5, .pointer (some ⟨b9, 0, none⟩)), (32, .slice (some ⟨b10, 0, none⟩) 4 4), (33, .int .i64 4), (34, .int .i64 1)]) (fun (o0 : Int) => (.blk b10 (.cells #[.bool ns, .pointer (some ⟨b9, 0, none⟩), .pointer (some ⟨b2, 0, none⟩), .bool ne, .pointer (some ⟨b9, 1, none⟩), .pointer (some ⟨b2, 1, none⟩), .bool nrs, .pointer (some ⟨b9, 2, none⟩), .pointer (some ⟨b2, 2, none⟩), .bool nre, .pointer (some ⟨b9, 3, none⟩), .pointer (some ⟨b2, 3, none⟩)] 224) :: .blk b9 (.cells #[.int .i64 o0, .int .i64 0, .int .i64 0, .int .i64 0, .slice bk psks.length dk] 38) :: .thing (rowT 3 1 (.slice bk psks.length dk) psks.length (intsV psks)) :: .blk b3 (.cells #[.int .i64 0, .int .i64 0, .int .i64 0, .int .i64 0, .slice none 0 0] 38) :: .blk b2 (.cells #[.int .i64 kS, .int .i64 kE, .int .i64 kRS, .int .i64 kRE, .slice B psks.length d] 38) :: .blk b1 (.cells #[.bool ns, .bool ne, .bool nrs, .bool nre, .int .i64 np] 151) :: T)) (fun (o0 : Int) w => o0 = sel ns kS) ?_ ?_
 · intro _ hM13 O14
   refine sg1 [.p 3, .a (.r 0), .n [], .s 0 [], .p 1, .a (.r 0)] O14 fun b15 w16 O17 => ?_
   rcases Bool.eq_false_or_eq_true (ns) with h18 | h18
   · refine sg0 [.c _ _ h18, .d [0, 5], .qs [0], .q 1 (.r 0), .qs [2], .q 3 (.r 0), .qs [4], .q 5 (.r 1), .qs [6], .o 7, .s 2 [0, 5], .z, .p 2] O17 fun w19 O20 => ?_
     exact gz _ fun a F => hM13 a _ kS F (O20.as 1) (by simp [sel, h18])
   · refine sg0 [.c _ _ h18, .p 2] O17 fun w21 O22 => ?_
     exact gz _ fun a F => hM13 a _ 0 F (O22.as 1) (by simp [sel, h18])
 · rintro o0 w23 O24 ho0
   refine gk O24 (fun (o1 : Int) => [(4, .pointer (some ⟨b3, 0, none⟩)), (5, .pointer (some ⟨b9, 0, none⟩)), (32, .slice (some ⟨b10, 0, none⟩) 4 4), (33, .int .i64 4), (34, .int .i64 2)]) (fun (o1 : Int) => (.blk b10 (.cells #[.bool ns, .pointer (some ⟨b9, 0, none⟩), .pointer (some ⟨b2, 0, none⟩), .bool ne, .pointer (some ⟨b9, 1, none⟩), .pointer (some ⟨b2, 1, none⟩), .bool nrs, .pointer (some ⟨b9, 2, none⟩), .pointer (some ⟨b2, 2, none⟩), .bool nre, .pointer (some ⟨b9, 3, none⟩), .pointer (some ⟨b2, 3, none⟩)] 224) :: .blk b9 (.cells #[.int .i64 o0, .int .i64 o1, .int .i64 0, .int .i64 0, .slice bk psks.length dk] 38) :: .thing (rowT 3 1 (.slice bk psks.length dk) psks.length (intsV psks)) :: .blk b3 (.cells #[.int .i64 0, .int .i64 0, .int .i64 0, .int .i64 0, .slice none 0 0] 38) :: .blk b2 (.cells #[.int .i64 kS, .int .i64 kE, .int .i64 kRS, .int .i64 kRE, .slice B psks.length d] 38) :: .blk b1 (.cells #[.bool ns, .bool ne, .bool nrs, .bool nre, .int .i64 np] 151) :: T)) (fun (o1 : Int) w => o1 = sel ne kE) ?_ ?_
   · intro _ hM25 O26
     refine sg1 [.p 3, .a (.r 0), .n [], .s 0 [], .p 1, .a (.r 0)] O26 fun b27 w28 O29 => ?_
     rcases Bool.eq_false_or_eq_true (ne) with h30 | h30
     · refine sg0 [.c _ _ h30, .d [0, 5], .qs [0], .q 1 (.r 0), .qs [2], .q 3 (.r 0), .qs [4], .q 5 (.r 1), .qs [6], .o 7, .s 2 [0, 5], .z, .p 2] O29 fun w31 O32 => ?_
       exact gz _ fun a F => hM25 a _ kE F (O32.as 1) (by simp [sel, h30])
     · refine sg0 [.c _ _ h30, .p 2] O29 fun w33 O34 => ?_
       exact gz _ fun a F => hM25 a _ 0 F (O34.as 1) (by simp [sel, h30])
   · rintro o1 w35 O36 ho1
     refine gk O36 (fun (o2 : Int) => [(4, .pointer (some ⟨b3, 0, none⟩)), (5, .pointer (some ⟨b9, 0, none⟩)), (32, .slice (some ⟨b10, 0, none⟩) 4 4), (33, .int .i64 4), (34, .int .i64 3)]) (fun (o2 : Int) => (.blk b10 (.cells #[.bool ns, .pointer (some ⟨b9, 0, none⟩), .pointer (some ⟨b2, 0, none⟩), .bool ne, .pointer (some ⟨b9, 1, none⟩), .pointer (some ⟨b2, 1, none⟩), .bool nrs, .pointer (some ⟨b9, 2, none⟩), .pointer (some ⟨b2, 2, none⟩), .bool nre, .pointer (some ⟨b9, 3, none⟩), .pointer (some ⟨b2, 3, none⟩)] 224) :: .blk b9 (.cells #[.int .i64 o0, .int .i64 o1, .int .i64 o2, .int .i64 0, .slice bk psks.length dk] 38) :: .thing (rowT 3 1 (.slice bk psks.length dk) psks.length (intsV psks)) :: .blk b3 (.cells #[.int .i64 0, .int .i64 0, .int .i64 0, .int .i64 0, .slice none 0 0] 38) :: .blk b2 (.cells #[.int .i64 kS, .int .i64 kE, .int .i64 kRS, .int .i64 kRE, .slice B psks.length d] 38) :: .blk b1 (.cells #[.bool ns, .bool ne, .bool nrs, .bool nre, .int .i64 np] 151) :: T)) (fun (o2 : Int) w => o2 = sel nrs kRS) ?_ ?_
     · intro _ hM37 O38
       refine sg1 [.p 3, .a (.r 0), .n [], .s 0 [], .p 1, .a (.r 0)] O38 fun b39 w40 O41 => ?_
       rcases Bool.eq_false_or_eq_true (nrs) with h42 | h42
       · refine sg0 [.c _ _ h42, .d [0, 5], .qs [0], .q 1 (.r 0), .qs [2], .q 3 (.r 0), .qs [4], .q 5 (.r 1), .qs [6], .o 7, .s 2 [0, 5], .z, .p 2] O41 fun w43 O44 => ?_
         exact gz _ fun a F => hM37 a _ kRS F (O44.as 1) (by simp [sel, h42])
       · refine sg0 [.c _ _ h42, .p 2] O41 fun w45 O46 => ?_
         exact gz _ fun a F => hM37 a _ 0 F (O46.as 1) (by simp [sel, h42])
     · rintro o2 w47 O48 ho2
       refine gk O48 (fun (o3 : Int) => [(4, .pointer (some ⟨b3, 0, none⟩)), (5, .pointer (some ⟨b9, 0, none⟩)), (32, .slice (some ⟨b10, 0, none⟩) 4 4), (33, .int .i64 4), (34, .int .i64 4)]) (fun (o3 : Int) => (.blk b10 (.cells #[.bool ns, .pointer (some ⟨b9, 0, none⟩), .pointer (some ⟨b2, 0, none⟩), .bool ne, .pointer (some ⟨b9, 1, none⟩), .pointer (some ⟨b2, 1, none⟩), .bool nrs, .pointer (some ⟨b9, 2, none⟩), .pointer (some ⟨b2, 2, none⟩), .bool nre, .pointer (some ⟨b9, 3, none⟩), .pointer (some ⟨b2, 3, none⟩)] 224) :: .blk b9 (.cells #[.int .i64 o0, .int .i64 o1, .int .i64 o2, .int .i64 o3, .slice bk psks.length dk] 38) :: .thing (rowT 3 1 (.slice bk psks.length dk) psks.length (intsV psks)) :: .blk b3 (.cells #[.int .i64 0, .int .i64 0, .int .i64 0, .int .i64 0, .slice none 0 0] 38) :: .blk b2 (.cells #[.int .i64 kS, .int .i64 kE, .int .i64 kRS, .int .i64 kRE, .slice B psks.length d] 38) :: .blk b1 (.cells #[.bool ns, .bool ne, .bool nrs, .bool nre, .int .i64 np] 151) :: T)) (fun (o3 : Int) w => o3 = sel nre kRE) ?_ ?_
       · intro _ hM49 O50
         refine sg1 [.p 3, .a (.r 0), .n [], .s 0 [], .p 1, .a (.r 0)] O50 fun b51 w52 O53 => ?_
         rcases Bool.eq_false_or_eq_true (nre) with h54 | h54
         · refine sg0 [.c _ _ h54, .d [0, 5], .qs [0], .q 1 (.r 0), .qs [2], .q 3 (.r 0), .qs [4], .q 5 (.r 1), .qs [6], .o 7, .s 2 [0, 5], .z, .p 2] O53 fun w55 O56 => ?_
           exact gz _ fun a F => hM49 a _ kRE F (O56.as 1) (by simp [sel, h54])
         · refine sg0 [.c _ _ h54, .p 2] O53 fun w57 O58 => ?_
           exact gz _ fun a F => hM49 a _ 0 F (O58.as 1) (by simp [sel, h54])
       · rintro o3 w59 O60 ho3
         refine sg0 [.p 2, .a (.r 1), .s 3 []] O60 fun w61 O62 => ?_
         subst ho0 ho1 ho2 ho3
         exact gret [3] O62 (⟨bk, dk, rfl, O62.rowB hT 2 3⟩)
set_option warningAsError false in
set_option maxRecDepth 100000 in
set_option maxHeartbeats 4000000 in
theorem publicE {w0 w : World} {M : List Thing} {r : Nat} {A A' : Ar} {role at_ nx kS kE kRS kRE sk sh sc sn : Int} {sb : Bool} {a0 a1 am bk : Option Addr} {c0 c1 cm dk : Nat} {p : Pat} {psks : List Int} {who t y e : Int} (O : Own w0 w M) (i : Nat) (hi : M[i]? = some (arena r A)) (hf : publicC A role kS kE kRS kRE who t = (A', y, e)) :
    Calls Tryz.prog 122 #[.agg #[.int .i64 role, .int .i64 at_, .int .i64 nx, .string (strO p.name), .slice a0 p.pre0.length c0, .slice a1 p.pre1.length c1, .slice am p.msgs.length cm, .int .i64 kS, .int .i64 kE, .int .i64 kRS, .int .i64 kRE, .slice bk psks.length dk, .int .i64 sk, .int .i64 sh, .int .i64 sc, .bool sb, .int .u64 sn], .pointer (some ⟨r, 0, none⟩), .int .i64 who, .int .i64 t] w fun e' w' => e' = .returned (.tuple #[.int .i64 y, .int .i64 e]) ∧ Own w0 w' (M.set i (arena r A')) := by
 obtain ⟨T, hT, O0, back⟩ := O.focD hi
 refine gent O0 Tryz.func122 ?_
 refine sg1 [.n [], .p 4, .a (.r 0)] O0 fun b1 w2 O3 => ?_
 rcases Bool.eq_false_or_eq_true (who != role) with h4 | h4
 · have h4p : ¬ who = role := by simpa using h4
   refine sg0 [.a (bT h4), .p 2] O3 fun w5 O6 => ?_
   rcases Bool.eq_false_or_eq_true (t == 1) with h7 | h7
   · have h7p : t = 1 := by simpa using h7
     refine sg0 [.a (bT h7), .p 5, .a (.r 0), .p 2] O6 fun w8 O9 => ?_
     simp [publicC, h4p, h7p] at hf
     obtain ⟨rfl, rfl, rfl⟩ := hf
     exact gret [] O9 (⟨rfl, back 1 O9⟩)
   · have h7p : ¬ t = 1 := by simpa using h7
     refine sg0 [.a (bT h7), .p 5, .a (.r 0), .a (bT h4), .p 4, .a (.r 0), .p 2] O6 fun w10 O11 => ?_
     simp [publicC, h4p, h7p] at hf
     obtain ⟨rfl, rfl, rfl⟩ := hf
     exact gret [] O11 (⟨rfl, back 1 O11⟩)
 · have h4p : who = role := by simpa using h4
   refine sg0 [.a (bT h4), .p 8, .a (.r 0), .a (bT h4), .p 3] O3 fun w12 O13 => ?_
   rcases Bool.eq_false_or_eq_true (t == 1) with h14 | h14
   · have h14p : t = 1 := by simpa using h14
     refine sg0 [.a (bT h14), .p 5, .a (.r 0), .p 1] O13 fun w15 O16 => ?_
     obtain ⟨A17, y18, e19, hm20⟩ : ∃ A17 y18 e19, mk A ⟨2, 0, kE, 0, 0⟩ = (A17, y18, e19) := ⟨_, _, _, rfl⟩
     refine gS (mkE (r := r) O16 1 (by kernel_rfl) (by decide) (by decide) hm20) fun w21 O22 => ?_
     refine sg0 [.p 4] O22 fun w24 O25 => ?_
     simp [publicC, h4p, h14p, hm20] at hf
     obtain ⟨rfl, rfl, rfl⟩ := hf
     exact gret [] O25 (⟨rfl, back 1 O25⟩)
   · have h14p : ¬ t = 1 := by simpa using h14
     refine sg0 [.a (bT h14), .p 5, .a (.r 0), .p 1] O13 fun w26 O27 => ?_
     obtain ⟨A28, y29, e30, hm31⟩ : ∃ A28 y29 e30, mk A ⟨2, 0, kS, 0, 0⟩ = (A28, y29, e30) := ⟨_, _, _, rfl⟩
     refine gS (mkE (r := r) O27 1 (by kernel_rfl) (by decide) (by decide) hm31) fun w32 O33 => ?_
     refine sg0 [.p 4] O33 fun w35 O36 => ?_
     simp [publicC, h4p, h14p, hm31] at hf
     obtain ⟨rfl, rfl, rfl⟩ := hf
     exact gret [] O36 (⟨rfl, back 1 O36⟩)
set_option warningAsError false in
set_option maxRecDepth 100000 in
set_option maxHeartbeats 4000000 in
theorem openHE {w0 w : World} {M : List Thing} {r : Nat} {A A' : Ar} {X : Thing} {role at_ nx kS kE kRS kRE sk sh sc sn : Int} {sb : Bool} {a0 a1 am bk : Option Addr} {c0 c1 cm dk : Nat} {p : Pat} {psks : List Int} {z : Int} {eph : Bool} {y' : Sy} {e : Int} {v : Value} (O : Own w0 w M) (i : Nat) (hi : M[i]? = some (arena r A)) (j : Nat) (hj : M[j]? = some X) (hX : HasPat X (pvx a0 c0 a1 c1 am cm p) p) (hfit : PatFits p) (hij : j ≠ i) (hf : openY A ⟨sk, sh, ⟨sc, sb, sn⟩⟩ (modeP p) z eph = (A', y', e)) (hv : (upd e ⟨role, at_, nx, pvx a0 c0 a1 c1 am cm p, p, kS, kE, kRS, kRE, .slice bk psks.length dk, psks, y'⟩).val = v) :
    Calls Tryz.prog 123 #[.agg #[.int .i64 role, .int .i64 at_, .int .i64 nx, .string (strO p.name), .slice a0 p.pre0.length c0, .slice a1 p.pre1.length c1, .slice am p.msgs.length cm, .int .i64 kS, .int .i64 kE, .int .i64 kRS, .int .i64 kRE, .slice bk psks.length dk, .int .i64 sk, .int .i64 sh, .int .i64 sc, .bool sb, .int .u64 sn], .pointer (some ⟨r, 0, none⟩), .int .i64 z, .bool eph] w fun e' w' => e' = .returned (.tuple #[v, .int .i64 e]) ∧ Own w0 w' (M.set i (arena r A')) := by
 obtain ⟨T, hT, O0, back⟩ := O.focD hi
 have hjT := hT j X hij hj
 refine gent O0 Tryz.func123 ?_
 refine sg2 [.n [], .n [], .p 2, .a (.r 1), .p 2] O0 fun b1 b2 w3 O4 => ?_
 obtain ⟨A5, k6, h7, c8, b9, n10, e11, hm12⟩ : ∃ A5 k6 h7 c8 b9 n10 e11, mixHashS A ⟨sk, sh, ⟨sc, sb, sn⟩⟩ z = (A5, ⟨k6, h7, ⟨c8, b9, n10⟩⟩, e11) := ⟨_, _, _, _, _, _, _, rfl⟩
 refine gS (mixHashE (r := r) O4 2 (by kernel_rfl) hm12) fun w13 O14 => ?_
 refine sg1 [.p 3, .n [], .s 0 [], .p 2] O14 fun b16 w17 O18 => ?_
 rcases Bool.eq_false_or_eq_true (e11 == 0) with h19 | h19
 · have h19p : e11 = 0 := by simpa using h19
   refine sg0 [.a (bT h19), .p 1] O18 fun w20 O21 => ?_
   rcases Bool.eq_false_or_eq_true (eph) with h22 | h22
   · refine sg0 [.a (bT h22), .p 3, .a (.r 2)] O21 fun w23 O24 => ?_
     refine gi (args := #[.agg #[.string (strO p.name), .slice a0 p.pre0.length c0, .slice a1 p.pre1.length c1, .slice am p.msgs.length cm]]) Tryz.func174 O24 fun O24i => ?_
     refine sg1 [.n [], .p 2, .a (.r 0)] O24i fun b25 w26 O27 => ?_
     obtain ⟨md28, hm29⟩ : ∃ b, modeP p = b := ⟨_, rfl⟩
     refine gU (args := #[.slice am p.msgs.length cm, .func (.func 199) #[] #[]]) (modeE O27 (j + 5) (atT hjT 5) hX hfit hm29 rfl) fun w30 O31 => ?_
     rcases Bool.eq_false_or_eq_true (md28) with h33 | h33
     · refine sg0 [.a (bT h33)] O31 fun w34 O35 => ?_
       refine gir [] O35 fun O36 => ?_
       refine sg0 [.p 2, .a (.r 1), .p 2] O36 fun w37 O38 => ?_
       obtain ⟨A39, k40, h41, c42, b43, n44, e45, hm46⟩ : ∃ A39 k40 h41 c42 b43 n44 e45, mixKeyS A5 ⟨k6, h7, ⟨c8, b9, n10⟩⟩ z = (A39, ⟨k40, h41, ⟨c42, b43, n44⟩⟩, e45) := ⟨_, _, _, _, _, _, _, rfl⟩
       refine gS (mixKeyE (r := r) O38 4 (by kernel_rfl) hm46) fun w47 O48 => ?_
       refine sg0 [.p 3, .s 1 [], .p 2] O48 fun w50 O51 => ?_
       rcases Bool.eq_false_or_eq_true (e45 != 0) with h52 | h52
       · have h52p : ¬ e45 = 0 := by simpa using h52
         refine sg0 [.a (bT h52), .p 3, .s 2 [], .p 1] O51 fun w53 O54 => ?_
         simp [openY, Sy.zero, Ci.zero, hm12, h19p, h22, hm29, h33, hm46, h52p] at hf
         obtain ⟨rfl, rfl, rfl⟩ := hf
         first | rw [upd_ok] at hv | rw [upd_no (by assumption)] at hv
         subst hv
         exact gret [2] O54 (⟨rfl, back 4 O54⟩)
       · have h52p : e45 = 0 := by simpa using h52
         refine sg0 [.a (bT h52), .p 1, .a (.r 1), .p 1, .s 3 [], .a (.r 3), .s 2 [], .p 1] O51 fun w55 O56 => ?_
         simp [openY, hm12, h19p, h22, hm29, h33, hm46, h52p] at hf
         obtain ⟨rfl, rfl, rfl⟩ := hf
         first | rw [upd_ok] at hv | rw [upd_no (by assumption)] at hv
         subst hv
         exact gret [2] O56 (⟨rfl, back 4 O56⟩)
     · refine sg0 [.a (bT h33)] O31 fun w57 O58 => ?_
       refine gir [] O58 fun O59 => ?_
       refine sg0 [.p 3, .a (bT (bne_f h19p)), .p 1, .a (.r 1), .p 1, .s 3 [], .a (.r 3), .s 2 [], .p 1] O59 fun w60 O61 => ?_
       simp [openY, hm12, h19p, h22, hm29, h33] at hf
       obtain ⟨rfl, rfl, rfl⟩ := hf
       first | rw [upd_ok] at hv | rw [upd_no (by assumption)] at hv
       subst hv
       exact gret [2] O61 (⟨rfl, back 4 O61⟩)
   · refine sg0 [.a (bT h22), .p 8, .a (bT (bne_f h19p)), .p 1, .a (.r 0), .p 1, .s 2 [], .a (.r 2), .s 1 [], .p 1] O21 fun w62 O63 => ?_
     simp [openY, hm12, h19p, h22] at hf
     obtain ⟨rfl, rfl, rfl⟩ := hf
     first | rw [upd_ok] at hv | rw [upd_no (by assumption)] at hv
     subst hv
     exact gret [1] O63 (⟨rfl, back 3 O63⟩)
 · have h19p : ¬ e11 = 0 := by simpa using h19
   refine sg0 [.a (bT h19), .p 10, .a (bT (bne_t h19p)), .p 3, .s 1 [], .p 1] O18 fun w64 O65 => ?_
   simp [openY, Sy.zero, Ci.zero, hm12, h19p] at hf
   obtain ⟨rfl, rfl, rfl⟩ := hf
   first | rw [upd_ok] at hv | rw [upd_no (by assumption)] at hv
   subst hv
   exact gret [1] O65 (⟨rfl, back 3 O65⟩)
set_option warningAsError false in
set_option maxRecDepth 100000 in
set_option maxHeartbeats 4000000 in
theorem toldHE {w0 w : World} {M : List Thing} {r : Nat} {A A' : Ar} {X : Thing} {role at_ nx kS kE kRS kRE sk sh sc sn : Int} {sb : Bool} {a0 a1 am bk : Option Addr} {c0 c1 cm dk : Nat} {p : Pat} {psks : List Int} {who t : Int} {y' : Sy} {e : Int} {v : Value} (O : Own w0 w M) (i : Nat) (hi : M[i]? = some (arena r A)) (j : Nat) (hj : M[j]? = some X) (hX : HasPat X (pvx a0 c0 a1 c1 am cm p) p) (hfit : PatFits p) (hij : j ≠ i) (hf : toldY A ⟨sk, sh, ⟨sc, sb, sn⟩⟩ (modeP p) role kS kE kRS kRE who t = (A', y', e)) (hv : (upd e ⟨role, at_, nx, pvx a0 c0 a1 c1 am cm p, p, kS, kE, kRS, kRE, .slice bk psks.length dk, psks, y'⟩).val = v) :
    Calls Tryz.prog 65 #[.agg #[.int .i64 role, .int .i64 at_, .int .i64 nx, .string (strO p.name), .slice a0 p.pre0.length c0, .slice a1 p.pre1.length c1, .slice am p.msgs.length cm, .int .i64 kS, .int .i64 kE, .int .i64 kRS, .int .i64 kRE, .slice bk psks.length dk, .int .i64 sk, .int .i64 sh, .int .i64 sc, .bool sb, .int .u64 sn], .pointer (some ⟨r, 0, none⟩), .int .i64 who, .int .i64 t] w fun e' w' => e' = .returned (.tuple #[v, .int .i64 e]) ∧ Own w0 w' (M.set i (arena r A')) := by
 obtain ⟨T, hT, O0, back⟩ := O.focD hi
 have hjT := hT j X hij hj
 refine gent O0 Tryz.func65 ?_
 refine sg2 [.n [], .n [], .p 1, .a (.r 1), .p 3] O0 fun b1 b2 w3 O4 => ?_
 obtain ⟨A5, y6, e7, hm8⟩ : ∃ A5 y6 e7, publicC A role kS kE kRS kRE who t = (A5, y6, e7) := ⟨_, _, _, rfl⟩
 refine gS (args := #[.agg #[.int .i64 role, .int .i64 at_, .int .i64 nx, .string (strO p.name), .slice a0 p.pre0.length c0, .slice a1 p.pre1.length c1, .slice am p.msgs.length cm, .int .i64 kS, .int .i64 kE, .int .i64 kRS, .int .i64 kRE, .slice bk psks.length dk, .int .i64 sk, .int .i64 sh, .int .i64 sc, .bool sb, .int .u64 sn], .pointer (some ⟨r, 0, none⟩), .int .i64 who, .int .i64 t]) (publicE (r := r) O4 2 (by kernel_rfl) hm8) fun w9 O10 => ?_
 refine sg0 [.p 6] O10 fun w12 O13 => ?_
 rcases Bool.eq_false_or_eq_true (e7 != 0) with h14 | h14
 · have h14p : ¬ e7 = 0 := by simpa using h14
   refine sg0 [.a (bT h14), .p 3, .s 0 [], .p 1] O13 fun w15 O16 => ?_
   try simp only [toldY, hm8] at hf
   simp [Sy.zero, Ci.zero, h14p] at hf
   obtain ⟨rfl, rfl, rfl⟩ := hf
   first | rw [upd_ok] at hv | rw [upd_no (by assumption)] at hv
   subst hv
   exact gret [] O16 (⟨rfl, back 2 O16⟩)
 · have h14p : e7 = 0 := by simpa using h14
   refine sg0 [.a (bT h14), .p 1, .a (.r 1), .p 3] O13 fun w17 O18 => ?_
   rcases Bool.eq_false_or_eq_true (t == 1) with h19 | h19
   · have h19p : t = 1 := by simpa using h19
     refine sg0 [.a (bT h19)] O18 fun w20 O21 => ?_
     obtain ⟨A22, k23, h24, c25, b26, n27, e28, hm29⟩ : ∃ A22 k23 h24 c25 b26 n27 e28, openY A5 ⟨sk, sh, ⟨sc, sb, sn⟩⟩ (modeP p) y6 true = (A22, ⟨k23, h24, ⟨c25, b26, n27⟩⟩, e28) := ⟨_, _, _, _, _, _, _, rfl⟩
     rcases Decidable.em (e28 = 0) with h30 | h30
     · subst h30
       refine gS (args := #[.agg #[.int .i64 role, .int .i64 at_, .int .i64 nx, .string (strO p.name), .slice a0 p.pre0.length c0, .slice a1 p.pre1.length c1, .slice am p.msgs.length cm, .int .i64 kS, .int .i64 kE, .int .i64 kRS, .int .i64 kRE, .slice bk psks.length dk, .int .i64 sk, .int .i64 sh, .int .i64 sc, .bool sb, .int .u64 sn], .pointer (some ⟨r, 0, none⟩), .int .i64 y6, .bool true]) (openHE (psks := psks) (v := .agg #[.int .i64 role, .int .i64 at_, .int .i64 nx, .string (strO p.name), .slice a0 p.pre0.length c0, .slice a1 p.pre1.length c1, .slice am p.msgs.length cm, .int .i64 kS, .int .i64 kE, .int .i64 kRS, .int .i64 kRE, .slice bk psks.length dk, .int .i64 k23, .int .i64 h24, .int .i64 c25, .bool b26, .int .u64 n27]) O21 2 (by kernel_rfl) (j + 3) (atT hjT 3) hX hfit (by omega) hm29 (by rfl)) fun w31 O32 => ?_
       refine sg0 [.p 2, .s 0 [], .p 1] O32 fun w34 O35 => ?_
       try simp only [toldY, hm8] at hf
       simp [h14p, h19p, hm29] at hf
       obtain ⟨rfl, rfl, rfl⟩ := hf
       first | rw [upd_ok] at hv | rw [upd_no (by assumption)] at hv
       subst hv
       exact gret [] O35 (⟨rfl, back 2 O35⟩)
     · refine gS (args := #[.agg #[.int .i64 role, .int .i64 at_, .int .i64 nx, .string (strO p.name), .slice a0 p.pre0.length c0, .slice a1 p.pre1.length c1, .slice am p.msgs.length cm, .int .i64 kS, .int .i64 kE, .int .i64 kRS, .int .i64 kRE, .slice bk psks.length dk, .int .i64 sk, .int .i64 sh, .int .i64 sc, .bool sb, .int .u64 sn], .pointer (some ⟨r, 0, none⟩), .int .i64 y6, .bool true]) (openHE (psks := psks) (v := .agg #[.int .i64 0, .int .i64 0, .int .i64 0, .string ⟨#[]⟩, .slice none 0 0, .slice none 0 0, .slice none 0 0, .int .i64 0, .int .i64 0, .int .i64 0, .int .i64 0, .slice none 0 0, .int .i64 0, .int .i64 0, .int .i64 0, .bool false, .int .u64 0]) O21 2 (by kernel_rfl) (j + 3) (atT hjT 3) hX hfit (by omega) hm29 (by rw [upd_no h30]; rfl)) fun w36 O37 => ?_
       refine sg0 [.p 2, .s 0 [], .p 1] O37 fun w39 O40 => ?_
       try simp only [toldY, hm8] at hf
       simp [h14p, h19p, hm29] at hf
       obtain ⟨rfl, rfl, rfl⟩ := hf
       first | rw [upd_ok] at hv | rw [upd_no (by assumption)] at hv
       subst hv
       exact gret [] O40 (⟨rfl, back 2 O40⟩)
   · have h19p : ¬ t = 1 := by simpa using h19
     refine sg0 [.a (bT h19)] O18 fun w41 O42 => ?_
     obtain ⟨A43, k44, h45, c46, b47, n48, e49, hm50⟩ : ∃ A43 k44 h45 c46 b47 n48 e49, openY A5 ⟨sk, sh, ⟨sc, sb, sn⟩⟩ (modeP p) y6 false = (A43, ⟨k44, h45, ⟨c46, b47, n48⟩⟩, e49) := ⟨_, _, _, _, _, _, _, rfl⟩
     rcases Decidable.em (e49 = 0) with h51 | h51
     · subst h51
       refine gS (args := #[.agg #[.int .i64 role, .int .i64 at_, .int .i64 nx, .string (strO p.name), .slice a0 p.pre0.length c0, .slice a1 p.pre1.length c1, .slice am p.msgs.length cm, .int .i64 kS, .int .i64 kE, .int .i64 kRS, .int .i64 kRE, .slice bk psks.length dk, .int .i64 sk, .int .i64 sh, .int .i64 sc, .bool sb, .int .u64 sn], .pointer (some ⟨r, 0, none⟩), .int .i64 y6, .bool false]) (openHE (psks := psks) (v := .agg #[.int .i64 role, .int .i64 at_, .int .i64 nx, .string (strO p.name), .slice a0 p.pre0.length c0, .slice a1 p.pre1.length c1, .slice am p.msgs.length cm, .int .i64 kS, .int .i64 kE, .int .i64 kRS, .int .i64 kRE, .slice bk psks.length dk, .int .i64 k44, .int .i64 h45, .int .i64 c46, .bool b47, .int .u64 n48]) O42 2 (by kernel_rfl) (j + 3) (atT hjT 3) hX hfit (by omega) hm50 (by rfl)) fun w52 O53 => ?_
       refine sg0 [.p 2, .s 0 [], .p 1] O53 fun w55 O56 => ?_
       try simp only [toldY, hm8] at hf
       simp [h14p, h19p, hm50] at hf
       obtain ⟨rfl, rfl, rfl⟩ := hf
       first | rw [upd_ok] at hv | rw [upd_no (by assumption)] at hv
       subst hv
       exact gret [] O56 (⟨rfl, back 2 O56⟩)
     · refine gS (args := #[.agg #[.int .i64 role, .int .i64 at_, .int .i64 nx, .string (strO p.name), .slice a0 p.pre0.length c0, .slice a1 p.pre1.length c1, .slice am p.msgs.length cm, .int .i64 kS, .int .i64 kE, .int .i64 kRS, .int .i64 kRE, .slice bk psks.length dk, .int .i64 sk, .int .i64 sh, .int .i64 sc, .bool sb, .int .u64 sn], .pointer (some ⟨r, 0, none⟩), .int .i64 y6, .bool false]) (openHE (psks := psks) (v := .agg #[.int .i64 0, .int .i64 0, .int .i64 0, .string ⟨#[]⟩, .slice none 0 0, .slice none 0 0, .slice none 0 0, .int .i64 0, .int .i64 0, .int .i64 0, .int .i64 0, .slice none 0 0, .int .i64 0, .int .i64 0, .int .i64 0, .bool false, .int .u64 0]) O42 2 (by kernel_rfl) (j + 3) (atT hjT 3) hX hfit (by omega) hm50 (by rw [upd_no h51]; rfl)) fun w57 O58 => ?_
       refine sg0 [.p 2, .s 0 [], .p 1] O58 fun w60 O61 => ?_
       try simp only [toldY, hm8] at hf
       simp [h14p, h19p, hm50] at hf
       obtain ⟨rfl, rfl, rfl⟩ := hf
       first | rw [upd_ok] at hv | rw [upd_no (by assumption)] at hv
       subst hv
       exact gret [] O61 (⟨rfl, back 2 O61⟩)
end Go.Proofs.YtikimmgileffgaaGreatDoor
end
/- More of what Start leans on (layer 12). -/
section
namespace Go.Proofs.YtikimmgileffgaaGreatDoor
open Go.RowKit

theorem Own.swap01 {w0 w : World} {P Q : Thing} {M : List Thing} (O : Own w0 w (P :: Q :: M)) : Own w0 w (Q :: P :: M) :=
  O.pull (fun i => if i = 0 then 1 else if i = 1 then 0 else i) (fun i X hX => by
    match i, hX with
    | 0, hX => exact hX
    | 1, hX => exact hX
    | i + 2, hX => exact hX) (fun i j hi hj hij => by
    match i, j, hij with
    | 0, 0, _ => rfl
    | 0, 1, h => simp at h
    | 0, j + 2, h => simp at h
    | 1, 0, h => simp at h
    | 1, 1, _ => rfl
    | 1, j + 2, h => simp at h
    | i + 2, 0, h => simp at h
    | i + 2, 1, h => simp at h
    | i + 2, j + 2, h => simpa using h)
theorem Own.startJ {w0 w : World} {X Y : Thing} {M : List Thing} {x : PatV} {p : Pat} {v : Value} {l : List Int} (O : Own w0 w (rowT 3 1 v l.length (intsV l) :: X :: Y :: patT x p :: M)) : Own w0 w (X :: shkT x p v l :: Y :: M) := by
  have h : Own w0 w (rowT 3 1 v l.length (intsV l) :: patT x p :: X :: Y :: M) :=
    O.pull (fun i => if i = 0 then 0 else if i = 1 then 3 else if i = 2 then 1 else if i = 3 then 2 else i) (fun i P hP => by
      match i, hP with
      | 0, hP => exact hP
      | 1, hP => exact hP
      | 2, hP => exact hP
      | 3, hP => exact hP
      | i + 4, hP => simpa using hP) (fun i j _ _ hij => by (repeat' split at hij) <;> omega)
  exact h.shk.swap01
theorem holds_cell {w : World} {A : Option Addr} {l : List Int} {b q k : Nat} {t : Int} (h : Holds w A (intsV l)) (hA : A = some ⟨b, q, none⟩) (ht : l[k]? = some t) : w.cell? ⟨b, q + k * 1, none⟩ = some (.int .i64 t) := by
  obtain ⟨b', q', hA', hc⟩ := holdsI_at h ht
  rw [hA] at hA'; cases hA'
  exact hc w (Below.refl _ _)
theorem toldL_no {md : Bool} {role kS kE kRS kRE who : Int} {l : List Int} {A : Ar} {y : Sy} {e : Int} (h : ¬ e = 0) : toldL md role kS kE kRS kRE who l (A, y, e) = (A, y, e) := by
  cases l with
  | nil => rfl
  | cons t l => simp [toldL, h]
def pickV (e : Int) (a b : Value) : Value := if e = 0 then a else b
theorem pickV_no {e : Int} (h : ¬ e = 0) (a b : Value) : pickV e a b = b := if_neg h
theorem needOf_right {p : Pat} {role : Int} (h : (needOf p role).2 = 0) : rightP p = true := by
  cases hq : rightP p with
  | true => rfl
  | false =>
    exfalso
    have hc : checkV p = (0, 0, 1) := by simp [checkV, hq]
    unfold needOf at h
    rw [hc] at h
    split at h
    · cases h
    · simp at h
theorem needX {w0 w : World} {M : List Thing} {A0 A1 A : Option Addr} {c0 c1 c : Nat} {p : Pat} {role : Int} {ns ne nrs nre : Bool} {np en : Int} (hrole : role = 0 ∨ role = 1) (O : Own w0 w M) (hp : PatIn w (Old w) (pvx A0 c0 A1 c1 A c p) p) (hfit : PatFits p) (hm : needOf p role = (⟨ns, ne, nrs, nre, np⟩, en)) :
    Calls Tryz.prog 58 #[.agg #[.string (strO p.name), .slice A0 p.pre0.length c0, .slice A1 p.pre1.length c1, .slice A p.msgs.length c], .int .i64 role] w fun e' w' => e' = .returned (.tuple #[.agg #[.bool ns, .bool ne, .bool nrs, .bool nre, .int .i64 np], .int .i64 en]) ∧ Own w0 w' M := by
  rcases hrole with rfl | rfl
  · refine (needE0 hp hp.pre0.at0 hp.pre1.at0 hfit.pre0 hfit.pre1 hfit).mono ?_
    rintro e' w' ⟨rfl, hb⟩
    rw [hm]; exact ⟨rfl, O.call hb⟩
  · refine (needE1 hp hp.pre0.at0 hp.pre1.at0 hfit.pre0 hfit.pre1 hfit).mono ?_
    rintro e' w' ⟨rfl, hb⟩
    rw [hm]; exact ⟨rfl, O.call hb⟩
theorem enoughX {w0 w : World} {M : List Thing} {ns ne nrs nre hs he hrs hre : Bool} {np hp : Int} {is : Bool} (O : Own w0 w M) (hm : enough ⟨ns, ne, nrs, nre, np⟩ ⟨hs, he, hrs, hre, hp⟩ = is) :
    Calls Tryz.prog 60 #[.agg #[.bool ns, .bool ne, .bool nrs, .bool nre, .int .i64 np], .agg #[.bool hs, .bool he, .bool hrs, .bool hre, .int .i64 hp]] w fun e' w' => e' = .returned (.bool is) ∧ Own w0 w' M :=
  enoughE.mono fun _ _ ⟨h, hb⟩ => ⟨by rw [← hm]; exact h, O.call hb⟩
theorem hasHE {w0 w : World} {M : List Thing} {r : Nat} {A : Ar} {xs : List Int} {B : Option Addr} {c : Nat} {is : Bool} (h : Own w0 w M) (i : Nat) (hi : M[i]? = some (arena r A)) (hh : Holds w B (intsV xs)) (hl : xs.length ≤ 9223372036854775807) (hm : (xs.all fun x => has A.l x) = is) :
    Calls Tryz.prog 59 #[.pointer (some ⟨r, 0, none⟩), .slice B xs.length c] w fun e w' => e = .returned (.bool is) ∧ Own w0 w' M := by
  obtain ⟨S, hr⟩ := h.arena hi
  refine (has_calls c hr hh hl).mono ?_
  rintro e w' ⟨rfl, hb⟩
  refine ⟨?_, h.call hb⟩
  rw [← hm]
  have : hasAll A.l.length xs = xs.all fun x => has A.l x := by
    unfold hasAll has
    rw [Bool.eq_iff_iff]; simp
  rw [this]
theorem printY {w0 w : World} {M : List Thing} {A0 A1 A : Option Addr} {c0 c1 c : Nat} {p : Pat} (O : Own w0 w M) (hp : PatIn w (Old w) (pvx A0 c0 A1 c1 A c p) p) (hfit : PatFits p) (hr : rightP p = true) :
    Calls Tryz.prog 61 #[.agg #[.string (strO p.name), .slice A0 p.pre0.length c0, .slice A1 p.pre1.length c1, .slice A p.msgs.length c]] w fun e w' => e = .returned (.tuple #[.string (strO (printT p)), .int .i64 0]) ∧ Own w0 w' M :=
  (print_calls hp hfit hr).mono fun _ _ h => by
    obtain ⟨he, hb⟩ := h
    exact ⟨he, O.call hb⟩
theorem keptY {w0 w : World} {M : List Thing} {ns ne nrs nre : Bool} {np kS kE kRS kRE : Int} {B : Option Addr} {d : Nat} {psks : List Int} (O : Own w0 w M) (hh : Holds w B (intsV psks)) (hl : psks.length * 8 ≤ 140737488355328) :
    Calls Tryz.prog 63 #[.agg #[.bool ns, .bool ne, .bool nrs, .bool nre, .int .i64 np], .agg #[.int .i64 kS, .int .i64 kE, .int .i64 kRS, .int .i64 kRE, .slice B psks.length d]] w fun e' w' => ∃ bk dk, e' = .returned (.agg #[.int .i64 (sel ns kS), .int .i64 (sel ne kE), .int .i64 (sel nrs kRS), .int .i64 (sel nre kRE), .slice bk psks.length dk]) ∧ Own w0 w' (rowT 3 1 (.slice bk psks.length dk) psks.length (intsV psks) :: M) :=
  (keptE (Own.start w) hh hl).mono fun _ _ ⟨bk, dk, he, h⟩ => ⟨bk, dk, he, O.join1 h⟩
/-- Something that stays true while the i-th thing changes and others are made. -/
def Kept (w0 : World) (M : List Thing) (i : Nat) (Φ : World → Prop) : Prop := ∀ (T : List Ent), (∀ (j : Nat) (y : Thing), j ≠ i → M[j]? = some y → (T.map Ent.t)[j]? = some y) → ∀ (w' : World) (G : List Ent) (y : Thing), Own w0 w' ((G ++ .thing y :: T).map Ent.t) → Φ w'
theorem kept_old {w0 : World} {M : List Thing} {i : Nat} {Φ : World → Prop} (h : ∀ w', Below w0.heap.size w0 w' → Φ w') : Kept w0 M i Φ := fun _ _ w' _ _ O => h w' O.below
theorem kept_thing {w0 : World} {M : List Thing} {i : Nat} {Φ : World → Prop} (j : Nat) (X : Thing) (hj : M[j]? = some X) (hij : j ≠ i) (hX : ∀ w S, X.P w S → Φ w) : Kept w0 M i Φ := fun T hT w' G y O => by
  have h1 := hT j X hij hj
  have h2 : ((G ++ .thing y :: T).map Ent.t)[G.length + 1 + j]? = some X := by
    rw [List.map_append, List.getElem?_append_right (by simp; omega), List.length_map, show G.length + 1 + j - G.length = j + 1 by omega, List.map_cons, List.getElem?_cons_succ]; exact h1
  obtain ⟨S, h3, _⟩ := O.at h2
  exact hX w' S h3
end Go.Proofs.YtikimmgileffgaaGreatDoor
end
