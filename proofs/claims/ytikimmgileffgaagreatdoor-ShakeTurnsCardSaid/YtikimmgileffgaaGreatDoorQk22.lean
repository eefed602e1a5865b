/- Packed by packn.py: StartW, ShareW. -/
import Derived.Test.YtikimmgileffgaaGreatDoorQk21
import Derived.Test.YtikimmgileffgaaGreatDoorQk15
import Derived.Test.YtikimmgileffgaaGreatDoorQk11
/- Start (layer 12). Printed by s_start.py. -/
section
namespace Go.Proofs.YtikimmgileffgaaGreatDoor
open Go.RowKit
set_option warningAsError false in
set_option maxRecDepth 100000 in
set_option maxHeartbeats 8000000 in
theorem startE1 {w0 w : World} {M : List Thing} {r : Nat} {A A' : Ar} {q0 q1 qm B : Option Addr} {d0 d1 dm dB : Nat} {p : Pat} {psks : List Int} {prologue kS kE kRS kRE e : Int} {y' : Sy} (O : Own w0 w M) (i : Nat) (hi : M[i]? = some (arena r A)) (hp : Kept w0 M i fun w => PatIn w (Old w) (pvx q0 d0 q1 d1 qm dm p) p) (hfit : PatFits p) (he : EnvS w0) (hk : Kept w0 M i fun w => Holds w B (intsV psks)) (hkl : psks.length * 8 ≤ 140737488355328) (hf : startC A p 1 prologue ⟨kS, kE, kRS, kRE, psks⟩ = (A', y', e)) :
    Calls Tryz.prog 15 #[.pointer (some ⟨r, 0, none⟩), .agg #[.string (strO p.name), .slice q0 p.pre0.length d0, .slice q1 p.pre1.length d1, .slice qm p.msgs.length dm], .int .i64 1, .int .i64 prologue, .agg #[.int .i64 kS, .int .i64 kE, .int .i64 kRS, .int .i64 kRE, .slice B psks.length dB]] w (fun e' w' => (e = 0 ∧ ∃ a0 c0 a1 c1 am cm bk dk, e' = .returned (.tuple #[(Sh.val ⟨1, 0, 0, pvx a0 c0 a1 c1 am cm p, p, sel (needOf p 1).1.s kS, sel (needOf p 1).1.e kE, sel (needOf p 1).1.rs kRS, sel (needOf p 1).1.re kRE, .slice bk psks.length dk, psks, y'⟩), .int .i64 0]) ∧ Own w0 w' (shkT (pvx a0 c0 a1 c1 am cm p) p (.slice bk psks.length dk) psks :: M.set i (arena r A'))) ∨ (¬ e = 0 ∧ e' = .returned (.tuple #[Sh.zero.val, .int .i64 e]) ∧ Own w0 w' (M.set i (arena r A')))) := by
 obtain ⟨T, hT, O0, back, back2⟩ := O.focD3 hi
 have hpT := hp T hT
 have hkT := hk T hT
 refine gent O0 Tryz.func15 ?_
 refine sg3 [.n [], .n [], .n [], .p 1, .a (.r 2), .p 1] O0 fun b1 b2 b3 w4 O5 => ?_
 obtain ⟨ns6, ne7, nr8, nf9, np10, en11, hm12⟩ : ∃ ns6 ne7 nr8 nf9 np10 en11, needOf p 1 = (⟨ns6, ne7, nr8, nf9, np10⟩, en11) := ⟨_, _, _, _, _, _, rfl⟩
 refine gU (args := #[.agg #[.string (strO p.name), .slice q0 p.pre0.length d0, .slice q1 p.pre1.length d1, .slice qm p.msgs.length dm], .int .i64 1]) (needX (by decide) O5 (hpT _ _ (arena r A) (O5.front 3)) hfit hm12) fun w13 O14 => ?_
 refine sg2 [.p 3, .n [], .s 0 [], .p 2, .a (.r 2), .p 2, .a (.r 2), .p 2, .a (.r 2), .p 2, .a (.r 2), .p 2, .a (.r 2), .p 2, .n [], .s 0 [], .p 1] O14 fun b16 b17 w18 O19 => ?_
 rcases Bool.eq_false_or_eq_true (en11 != 0) with h20 | h20
 · have h20p : ¬ en11 = 0 := by simpa using h20
   refine sg0 [.a (bT h20), .p 4, .s 2 [], .p 1] O19 fun w21 O22 => ?_
   simp [startC, hm12, h20p, Sy.zero, Ci.zero] at hf
   obtain ⟨rfl, rfl, rfl⟩ := hf
   exact gret [2] O22 (.inr ⟨by first | decide | assumption | omega, rfl, back 5 O22⟩)
 · have h20p : en11 = 0 := by simpa using h20
   have hr : rightP p = true := needOf_right (role := 1) (by rw [hm12]; exact h20p)
   obtain ⟨hnm, htold0, htold1, hma, hmz, hms⟩ := right_facts hr
   have hl0 := told_len htold0
   have hl1 := told_len htold1
   subst h20p
   refine sg1 [.p 6, .a (.r 3), .p 1, .a (.r 3), .p 1, .a (.r 3), .p 1, .a (.r 3), .n []] O19 fun b23 w24 O25 => ?_
   obtain ⟨is26, hm27⟩ : ∃ b, (has A.l prologue && has A.l kS && has A.l kE && has A.l kRS && has A.l kRE) = b := ⟨_, rfl⟩
   refine gU (args := #[.pointer (some ⟨r, 0, none⟩), .slice (some ⟨b23, 0, none⟩) 5 5]) (hasE (xs := [prologue, kS, kE, kRS, kRE]) (t := 3) O25 6 0 (by kernel_rfl) (by kernel_rfl) (by simp) (by simpa [Bool.and_assoc] using hm27)) fun w28 O29 => ?_
   rcases Bool.eq_false_or_eq_true (is26) with h31 | h31
   · refine sg0 [.a (bN h31), .p 3, .a (.r 4)] O29 fun w32 O33 => ?_
     obtain ⟨is34, hm35⟩ : ∃ b, (psks.all fun x => has A.l x) = b := ⟨_, rfl⟩
     refine gU (args := #[.pointer (some ⟨r, 0, none⟩), .slice B psks.length dB]) (hasHE (r := r) (A := A) O33 6 (by kernel_rfl) (hkT _ _ (arena r A) (O33.front 6)) (by omega) hm35) fun w36 O37 => ?_
     rcases Bool.eq_false_or_eq_true (is34) with h39 | h39
     · refine sg0 [.a (bN h39), .p 3, .a (.r 2), .a (.r 1)] O37 fun w40 O41 => ?_
       obtain ⟨is42, hm43⟩ : ∃ b, enough ⟨ns6, ne7, nr8, nf9, np10⟩ ⟨(decide (kS > 0)), (decide (kE > 0)), (decide (kRS > 0)), (decide (kRE > 0)), (psks.length : Int)⟩ = b := ⟨_, rfl⟩
       refine gU (args := #[.agg #[.bool ns6, .bool ne7, .bool nr8, .bool nf9, .int .i64 np10], .agg #[.bool (decide (kS > 0)), .bool (decide (kE > 0)), .bool (decide (kRS > 0)), .bool (decide (kRE > 0)), .int .i64 (psks.length : Int)]]) (enoughX O41 hm43) fun w44 O45 => ?_
       rcases Bool.eq_false_or_eq_true (is42) with h47 | h47
       · refine sg0 [.a (bN h47), .p 2, .a (.r 5)] O45 fun w48 O49 => ?_
         refine gU (args := #[.agg #[.string (strO p.name), .slice q0 p.pre0.length d0, .slice q1 p.pre1.length d1, .slice qm p.msgs.length dm]]) (printY O49 (hpT _ _ (arena r A) (O49.front 6)) hfit hr) fun w50 O51 => ?_
         refine sg0 [.p 6] O51 fun w53 O54 => ?_
         refine gc (args := #[.string (strO (printT p))]) (parseX O54 he hfit hr) ?_
         rintro e57 w55 ⟨a0, c0, a1, c1, am, cm, rfl, O56⟩
         refine gr O56.mcons fun O56 => ?_
         refine sg1 [.p 3, .n [], .s 0 [], .p 1] O56 fun b58 w59 O60 => ?_
         refine gj false 11 O60 (fun (zz : Nat × Option Addr × Nat) => match zz with | (bh, bk, dk) => [(0, .pointer (some ⟨r, 0, none⟩)), (3, .int .i64 prologue), (6, .pointer (some ⟨b1, 0, none⟩)), (10, .pointer (some ⟨b3, 0, none⟩)), (11, .int .i64 0), (17, .pointer (some ⟨b58, 0, none⟩)), (19, .pointer (some ⟨bh, 0, none⟩))]) (fun (zz : Nat × Option Addr × Nat) => match zz with | (bh, bk, dk) => (.blk bh (.cells #[.int .i64 1, .int .i64 0, .int .i64 0, .string (strO p.name), .slice a0 p.pre0.length c0, .slice a1 p.pre1.length c1, .slice am p.msgs.length cm, .int .i64 (sel ns6 kS), .int .i64 (sel ne7 kE), .int .i64 (sel nr8 kRS), .int .i64 (sel nf9 kRE), .slice bk psks.length dk, .int .i64 0, .int .i64 0, .int .i64 0, .bool false, .int .u64 0] 42) :: .thing (shkT (pvx a0 c0 a1 c1 am cm p) p (.slice bk psks.length dk) psks) :: .blk b58 (.cells #[.string (strO p.name), .slice a0 p.pre0.length c0, .slice a1 p.pre1.length c1, .slice am p.msgs.length cm] 33) :: .blk b23 (.cells #[.int .i64 prologue, .int .i64 kS, .int .i64 kE, .int .i64 kRS, .int .i64 kRE] 3) :: .blk b17 (.cells #[.bool (decide (kS > 0)), .bool (decide (kE > 0)), .bool (decide (kRS > 0)), .bool (decide (kRE > 0)), .int .i64 (psks.length : Int)] 151) :: .blk b16 (.cells #[.bool ns6, .bool ne7, .bool nr8, .bool nf9, .int .i64 np10] 151) :: .blk b3 (.cells #[.int .i64 0, .int .i64 0, .int .i64 0, .string ⟨#[]⟩, .slice none 0 0, .slice none 0 0, .slice none 0 0, .int .i64 0, .int .i64 0, .int .i64 0, .int .i64 0, .slice none 0 0, .int .i64 0, .int .i64 0, .int .i64 0, .bool false, .int .u64 0] 42) :: .blk b2 (.cells #[.int .i64 kS, .int .i64 kE, .int .i64 kRS, .int .i64 kRE, .slice B psks.length dB] 38) :: .blk b1 (.cells #[.string (strO p.name), .slice q0 p.pre0.length d0, .slice q1 p.pre1.length d1, .slice qm p.msgs.length dm] 33) :: .thing (arena r A) :: T)) (fun (zz : Nat × Option Addr × Nat) w => match zz with | (bh, bk, dk) => True) ?_ ?_
         · intro _ hM61 O62
           refine sg0 [.d [0, 4, 6], .qs [0], .q 1 (.r 0), .q 2 (.r 1), .q 3 (.r 2)] O62 fun w63 O64 => ?_
           refine gA [4, 6] O64 ⟨?_, ?_, trivial⟩
           · intro O65
             refine gc (args := #[.agg #[.bool ns6, .bool ne7, .bool nr8, .bool nf9, .int .i64 np10], .agg #[.int .i64 kS, .int .i64 kE, .int .i64 kRS, .int .i64 kRE, .slice B psks.length dB]]) (keptY O65 (hkT _ _ (arena r A) (O65.front 8)) (by omega)) ?_
             rintro e68 w66 ⟨bk, dk, rfl, O67⟩
             refine gr (js := [1, 5, 7]) O67.mcons fun O67 => ?_
             refine sg1 [.qs [5], .o 6, .n [2, 6, 8], .o 7, .s 0 [2, 6, 8], .z] O67 fun b69 w70 O71 => ?_
             exact gz _ fun a F => hM61 a _ (b69, bk, dk) F (O71.as (L' := (.blk b69 (.cells #[.int .i64 1, .int .i64 0, .int .i64 0, .string (strO p.name), .slice a0 p.pre0.length c0, .slice a1 p.pre1.length c1, .slice am p.msgs.length cm, .int .i64 (sel ns6 kS), .int .i64 (sel ne7 kE), .int .i64 (sel nr8 kRS), .int .i64 (sel nf9 kRE), .slice bk psks.length dk, .int .i64 0, .int .i64 0, .int .i64 0, .bool false, .int .u64 0] 42) :: .thing (rowT 3 1 (.slice bk psks.length dk) psks.length (intsV psks)) :: .blk b58 (.cells #[.string (strO p.name), .slice a0 p.pre0.length c0, .slice a1 p.pre1.length c1, .slice am p.msgs.length cm] 33) :: .thing (patT (pvx a0 c0 a1 c1 am cm p) p) :: .blk b23 (.cells #[.int .i64 prologue, .int .i64 kS, .int .i64 kE, .int .i64 kRS, .int .i64 kRE] 3) :: .blk b17 (.cells #[.bool (decide (kS > 0)), .bool (decide (kE > 0)), .bool (decide (kRS > 0)), .bool (decide (kRE > 0)), .int .i64 (psks.length : Int)] 151) :: .blk b16 (.cells #[.bool ns6, .bool ne7, .bool nr8, .bool nf9, .int .i64 np10] 151) :: .blk b3 (.cells #[.int .i64 0, .int .i64 0, .int .i64 0, .string ⟨#[]⟩, .slice none 0 0, .slice none 0 0, .slice none 0 0, .int .i64 0, .int .i64 0, .int .i64 0, .int .i64 0, .slice none 0 0, .int .i64 0, .int .i64 0, .int .i64 0, .bool false, .int .u64 0] 42) :: .blk b2 (.cells #[.int .i64 kS, .int .i64 kE, .int .i64 kRS, .int .i64 kRE, .slice B psks.length dB] 38) :: .blk b1 (.cells #[.string (strO p.name), .slice q0 p.pre0.length d0, .slice q1 p.pre1.length d1, .slice qm p.msgs.length dm] 33) :: .thing (arena r A) :: T)) 0).swap01.startJ trivial
           · intro O72
             refine sg1 [.n [1, 5, 7], .o 4] O72 fun b73 w74 O75 => ?_
             refine gc (args := #[.agg #[.bool ns6, .bool ne7, .bool nr8, .bool nf9, .int .i64 np10], .agg #[.int .i64 kS, .int .i64 kE, .int .i64 kRS, .int .i64 kRE, .slice B psks.length dB]]) (keptY O75 (hkT _ _ (arena r A) (O75.front 9)) (by omega)) ?_
             rintro e78 w76 ⟨bk, dk, rfl, O77⟩
             refine gr (js := [2, 6, 8]) O77.mcons fun O77 => ?_
             refine sg0 [.qs [5], .o 7, .s 1 [2, 6, 8], .z] O77 fun w79 O80 => ?_
             exact gz _ fun a F => hM61 a _ (b73, bk, dk) F (O80.as (L' := (.thing (rowT 3 1 (.slice bk psks.length dk) psks.length (intsV psks)) :: .blk b73 (.cells #[.int .i64 1, .int .i64 0, .int .i64 0, .string (strO p.name), .slice a0 p.pre0.length c0, .slice a1 p.pre1.length c1, .slice am p.msgs.length cm, .int .i64 (sel ns6 kS), .int .i64 (sel ne7 kE), .int .i64 (sel nr8 kRS), .int .i64 (sel nf9 kRE), .slice bk psks.length dk, .int .i64 0, .int .i64 0, .int .i64 0, .bool false, .int .u64 0] 42) :: .blk b58 (.cells #[.string (strO p.name), .slice a0 p.pre0.length c0, .slice a1 p.pre1.length c1, .slice am p.msgs.length cm] 33) :: .thing (patT (pvx a0 c0 a1 c1 am cm p) p) :: .blk b23 (.cells #[.int .i64 prologue, .int .i64 kS, .int .i64 kE, .int .i64 kRS, .int .i64 kRE] 3) :: .blk b17 (.cells #[.bool (decide (kS > 0)), .bool (decide (kE > 0)), .bool (decide (kRS > 0)), .bool (decide (kRE > 0)), .int .i64 (psks.length : Int)] 151) :: .blk b16 (.cells #[.bool ns6, .bool ne7, .bool nr8, .bool nf9, .int .i64 np10] 151) :: .blk b3 (.cells #[.int .i64 0, .int .i64 0, .int .i64 0, .string ⟨#[]⟩, .slice none 0 0, .slice none 0 0, .slice none 0 0, .int .i64 0, .int .i64 0, .int .i64 0, .int .i64 0, .slice none 0 0, .int .i64 0, .int .i64 0, .int .i64 0, .bool false, .int .u64 0] 42) :: .blk b2 (.cells #[.int .i64 kS, .int .i64 kE, .int .i64 kRS, .int .i64 kRE, .slice B psks.length dB] 38) :: .blk b1 (.cells #[.string (strO p.name), .slice q0 p.pre0.length d0, .slice q1 p.pre1.length d1, .slice qm p.msgs.length dm] 33) :: .thing (arena r A) :: T)) 0).startJ trivial
         · rintro ⟨bh, bk, dk⟩ w81 O82 _
           refine sg0 [.p 2, .a (.r 8), .p 1] O82 fun w83 O84 => ?_
           obtain ⟨A85, k86, h87, c88, b89, n90, e91, hm92⟩ : ∃ A85 k86 h87 c88 b89 n90 e91, beginS A p.name prologue = (A85, ⟨k86, h87, ⟨c88, b89, n90⟩⟩, e91) := ⟨_, _, _, _, _, _, _, rfl⟩
           refine gS (beginE (r := r) O84 9 (by kernel_rfl) hm92) fun w93 O94 => ?_
           refine sg0 [.p 4, .s 0 [], .p 2, .u 2, .p 4] O94 fun w96 O97 => ?_
           rcases Bool.eq_false_or_eq_true (e91 == 0) with h98 | h98
           · have h98p : e91 = 0 := by simpa using h98
             subst h98p
             refine sg0 [.p 6, .a (.r 2), .p 2] O97 fun w99 O100 => ?_
             refine gl (fun (zz : Nat × Ar × Int × Int × Int × Bool × Int × Int) => match zz with | (k, Aw0, kw0, hw0, cw0, bw0, nw0, ew0) => [(0, .pointer (some ⟨r, 0, none⟩)), (10, .pointer (some ⟨b3, 0, none⟩)), (11, .int .i64 0), (13, .int .i64 ew0), (17, .pointer (some ⟨b58, 0, none⟩)), (19, .pointer (some ⟨bh, 0, none⟩)), (20, .int .i64 0), (114, .slice a0 p.pre0.length c0), (115, .int .i64 (p.pre0.length : Int)), (116, .int .i64 (k : Int))]) (fun (zz : Nat × Ar × Int × Int × Int × Bool × Int × Int) => match zz with | (k, Aw0, kw0, hw0, cw0, bw0, nw0, ew0) => (.blk bh (.cells #[pickV ew0 (.int .i64 1) (.int .i64 0), .int .i64 0, .int .i64 0, pickV ew0 (.string (strO p.name)) (.string ⟨#[]⟩), pickV ew0 (.slice a0 p.pre0.length c0) (.slice none 0 0), pickV ew0 (.slice a1 p.pre1.length c1) (.slice none 0 0), pickV ew0 (.slice am p.msgs.length cm) (.slice none 0 0), pickV ew0 (.int .i64 (sel ns6 kS)) (.int .i64 0), pickV ew0 (.int .i64 (sel ne7 kE)) (.int .i64 0), pickV ew0 (.int .i64 (sel nr8 kRS)) (.int .i64 0), pickV ew0 (.int .i64 (sel nf9 kRE)) (.int .i64 0), pickV ew0 (.slice bk psks.length dk) (.slice none 0 0), pickV ew0 (.int .i64 kw0) (.int .i64 0), pickV ew0 (.int .i64 hw0) (.int .i64 0), pickV ew0 (.int .i64 cw0) (.int .i64 0), pickV ew0 (.bool bw0) (.bool false), pickV ew0 (.int .u64 nw0) (.int .u64 0)] 42) :: .thing (shkT (pvx a0 c0 a1 c1 am cm p) p (.slice bk psks.length dk) psks) :: .blk b58 (.cells #[.string (strO p.name), .slice a0 p.pre0.length c0, .slice a1 p.pre1.length c1, .slice am p.msgs.length cm] 33) :: .blk b23 (.cells #[.int .i64 prologue, .int .i64 kS, .int .i64 kE, .int .i64 kRS, .int .i64 kRE] 3) :: .blk b17 (.cells #[.bool (decide (kS > 0)), .bool (decide (kE > 0)), .bool (decide (kRS > 0)), .bool (decide (kRE > 0)), .int .i64 (psks.length : Int)] 151) :: .blk b16 (.cells #[.bool ns6, .bool ne7, .bool nr8, .bool nf9, .int .i64 np10] 151) :: .blk b3 (.cells #[.int .i64 0, .int .i64 0, .int .i64 0, .string ⟨#[]⟩, .slice none 0 0, .slice none 0 0, .slice none 0 0, .int .i64 0, .int .i64 0, .int .i64 0, .int .i64 0, .slice none 0 0, .int .i64 0, .int .i64 0, .int .i64 0, .bool false, .int .u64 0] 42) :: .blk b2 (.cells #[.int .i64 kS, .int .i64 kE, .int .i64 kRS, .int .i64 kRE, .slice B psks.length dB] 38) :: .blk b1 (.cells #[.string (strO p.name), .slice q0 p.pre0.length d0, .slice q1 p.pre1.length d1, .slice qm p.msgs.length dm] 33) :: .thing (arena r Aw0) :: T)) (fun (zz : Nat × Ar × Int × Int × Int × Bool × Int × Int) w => match zz with | (k, Aw0, kw0, hw0, cw0, bw0, nw0, ew0) => k ≤ p.pre0.length ∧ toldL (modeP p) 1 (sel ns6 kS) (sel ne7 kE) (sel nr8 kRS) (sel nf9 kRE) 0 (p.pre0.drop k) (Aw0, ⟨kw0, hw0, ⟨cw0, bw0, nw0⟩⟩, ew0) = toldL (modeP p) 1 (sel ns6 kS) (sel ne7 kE) (sel nr8 kRS) (sel nf9 kRE) 0 p.pre0 (A85, ⟨k86, h87, ⟨c88, b89, n90⟩⟩, 0)) (fun (zz : Nat × Ar × Int × Int × Int × Bool × Int × Int) => match zz with | (k, Aw0, kw0, hw0, cw0, bw0, nw0, ew0) => p.pre0.length - k) (0, A85, k86, h87, c88, b89, n90, 0) (O100.as 0) ⟨(Nat.zero_le _), rfl⟩ ?_
             rintro M103 ⟨k, Aw0, kw0, hw0, cw0, bw0, nw0, ew0⟩ w101 hM104 O102 ⟨hk1, hq⟩
             rcases Bool.eq_false_or_eq_true (decide ((k : Int) < (p.pre0.length : Int))) with h105 | h105
             · have h105p : ((k : Int) < (p.pre0.length : Int)) := by simpa only [decide_eq_true_eq, decide_eq_false_iff_not] using h105
               have hk1 : k + 1 ≤ p.pre0.length := by have := h105p; omega
               obtain ⟨t, ht⟩ : ∃ t, p.pre0[k]? = some t := ⟨_, List.getElem?_eq_getElem hk1⟩
               obtain ⟨qb, q, hA, _⟩ := holdsI_at ((O102.hasPat (j := 1) (by kernel_rfl) (hasPat_shk (pvx a0 c0 a1 c1 am cm p) p (.slice bk psks.length dk) psks)).pre0.at0) ht
               have hdrop := drop_at ht
               refine sg0 [.a (bT h105), .p 1, .a (.i _ qb q p.pre0.length k hA hk1)] O102 fun w106 O107 => ?_
               refine gx [.cell qb (q + k * 1) (.int .i64 t)] O107 ⟨(holds_cell ((O107.hasPat (j := 1) (by kernel_rfl) (hasPat_shk (pvx a0 c0 a1 c1 am cm p) p (.slice bk psks.length dk) psks)).pre0.at0) hA ht), trivial⟩ fun O108 => ?_
               refine sg0 [.a (.r 0), .p 2] O108 fun w109 O110 => ?_
               rcases Bool.eq_false_or_eq_true (ew0 == 0) with h111 | h111
               · have h111p : ew0 = 0 := by simpa using h111
                 subst h111p
                 refine sg0 [.p 2, .a (.r 1), .p 3] O110 fun w112 O113 => ?_
                 obtain ⟨A114, k115, h116, c117, b118, n119, e120, hm121⟩ : ∃ A114 k115 h116 c117 b118 n119 e120, toldY Aw0 ⟨kw0, hw0, ⟨cw0, bw0, nw0⟩⟩ (modeP p) 1 (sel ns6 kS) (sel ne7 kE) (sel nr8 kRS) (sel nf9 kRE) 0 t = (A114, ⟨k115, h116, ⟨c117, b118, n119⟩⟩, e120) := ⟨_, _, _, _, _, _, _, rfl⟩
                 rcases Decidable.em (e120 = 0) with h122 | h122
                 · subst h122
                   refine gS (args := #[.agg #[.int .i64 1, .int .i64 0, .int .i64 0, .string (strO p.name), .slice a0 p.pre0.length c0, .slice a1 p.pre1.length c1, .slice am p.msgs.length cm, .int .i64 (sel ns6 kS), .int .i64 (sel ne7 kE), .int .i64 (sel nr8 kRS), .int .i64 (sel nf9 kRE), .slice bk psks.length dk, .int .i64 kw0, .int .i64 hw0, .int .i64 cw0, .bool bw0, .int .u64 nw0], .pointer (some ⟨r, 0, none⟩), .int .i64 0, .int .i64 t]) (toldHE (psks := psks) (v := .agg #[.int .i64 1, .int .i64 0, .int .i64 0, .string (strO p.name), .slice a0 p.pre0.length c0, .slice a1 p.pre1.length c1, .slice am p.msgs.length cm, .int .i64 (sel ns6 kS), .int .i64 (sel ne7 kE), .int .i64 (sel nr8 kRS), .int .i64 (sel nf9 kRE), .slice bk psks.length dk, .int .i64 k115, .int .i64 h116, .int .i64 c117, .bool b118, .int .u64 n119]) O113 9 (by kernel_rfl) 1 (by kernel_rfl) (hasPat_shk (pvx a0 c0 a1 c1 am cm p) p (.slice bk psks.length dk) psks) hfit (by omega) hm121 (by rfl)) fun w123 O124 => ?_
                   refine sg0 [.p 3, .s 0 [], .p 1, .a (iW ((k : Int) + 1)), .p 1] O124 fun w126 O127 => ?_
                   exact gz _ fun a F => hM104 a _ (k + 1, A114, k115, h116, c117, b118, n119, 0) F (O127.as 0) ⟨hk1, (by rw [← hq, hdrop]; simp [toldL, hm121])⟩ (show p.pre0.length - (k + 1) < p.pre0.length - k by omega)
                 · refine gS (args := #[.agg #[.int .i64 1, .int .i64 0, .int .i64 0, .string (strO p.name), .slice a0 p.pre0.length c0, .slice a1 p.pre1.length c1, .slice am p.msgs.length cm, .int .i64 (sel ns6 kS), .int .i64 (sel ne7 kE), .int .i64 (sel nr8 kRS), .int .i64 (sel nf9 kRE), .slice bk psks.length dk, .int .i64 kw0, .int .i64 hw0, .int .i64 cw0, .bool bw0, .int .u64 nw0], .pointer (some ⟨r, 0, none⟩), .int .i64 0, .int .i64 t]) (toldHE (psks := psks) (v := .agg #[.int .i64 0, .int .i64 0, .int .i64 0, .string ⟨#[]⟩, .slice none 0 0, .slice none 0 0, .slice none 0 0, .int .i64 0, .int .i64 0, .int .i64 0, .int .i64 0, .slice none 0 0, .int .i64 0, .int .i64 0, .int .i64 0, .bool false, .int .u64 0]) O113 9 (by kernel_rfl) 1 (by kernel_rfl) (hasPat_shk (pvx a0 c0 a1 c1 am cm p) p (.slice bk psks.length dk) psks) hfit (by omega) hm121 (by rw [upd_no h122]; rfl)) fun w128 O129 => ?_
                   refine sg0 [.p 3, .s 0 [], .p 1, .a (iW ((k : Int) + 1)), .p 1] O129 fun w131 O132 => ?_
                   have O133 : Own w0 w131 (List.map Ent.t (.blk bh (.cells #[pickV e120 (.int .i64 1) (.int .i64 0), .int .i64 0, .int .i64 0, pickV e120 (.string (strO p.name)) (.string ⟨#[]⟩), pickV e120 (.slice a0 p.pre0.length c0) (.slice none 0 0), pickV e120 (.slice a1 p.pre1.length c1) (.slice none 0 0), pickV e120 (.slice am p.msgs.length cm) (.slice none 0 0), pickV e120 (.int .i64 (sel ns6 kS)) (.int .i64 0), pickV e120 (.int .i64 (sel ne7 kE)) (.int .i64 0), pickV e120 (.int .i64 (sel nr8 kRS)) (.int .i64 0), pickV e120 (.int .i64 (sel nf9 kRE)) (.int .i64 0), pickV e120 (.slice bk psks.length dk) (.slice none 0 0), pickV e120 (.int .i64 k115) (.int .i64 0), pickV e120 (.int .i64 h116) (.int .i64 0), pickV e120 (.int .i64 c117) (.int .i64 0), pickV e120 (.bool b118) (.bool false), pickV e120 (.int .u64 n119) (.int .u64 0)] 42) :: .thing (shkT (pvx a0 c0 a1 c1 am cm p) p (.slice bk psks.length dk) psks) :: .blk b58 (.cells #[.string (strO p.name), .slice a0 p.pre0.length c0, .slice a1 p.pre1.length c1, .slice am p.msgs.length cm] 33) :: .blk b23 (.cells #[.int .i64 prologue, .int .i64 kS, .int .i64 kE, .int .i64 kRS, .int .i64 kRE] 3) :: .blk b17 (.cells #[.bool (decide (kS > 0)), .bool (decide (kE > 0)), .bool (decide (kRS > 0)), .bool (decide (kRE > 0)), .int .i64 (psks.length : Int)] 151) :: .blk b16 (.cells #[.bool ns6, .bool ne7, .bool nr8, .bool nf9, .int .i64 np10] 151) :: .blk b3 (.cells #[.int .i64 0, .int .i64 0, .int .i64 0, .string ⟨#[]⟩, .slice none 0 0, .slice none 0 0, .slice none 0 0, .int .i64 0, .int .i64 0, .int .i64 0, .int .i64 0, .slice none 0 0, .int .i64 0, .int .i64 0, .int .i64 0, .bool false, .int .u64 0] 42) :: .blk b2 (.cells #[.int .i64 kS, .int .i64 kE, .int .i64 kRS, .int .i64 kRE, .slice B psks.length dB] 38) :: .blk b1 (.cells #[.string (strO p.name), .slice q0 p.pre0.length d0, .slice q1 p.pre1.length d1, .slice qm p.msgs.length dm] 33) :: .thing (arena r A114) :: T)) := by simp only [pickV_no h122]; exact O132.as 0
                   exact gz _ fun a F => hM104 a _ (k + 1, A114, k115, h116, c117, b118, n119, e120) F O133 ⟨hk1, (by rw [← hq, hdrop]; simp [toldL, hm121])⟩ (show p.pre0.length - (k + 1) < p.pre0.length - k by omega)
               · have h111p : ¬ ew0 = 0 := by simpa using h111
                 refine sg0 [.a (bT h111), .p 1, .a (iW ((k : Int) + 1)), .p 1] O110 fun w134 O135 => ?_
                 exact gz _ fun a F => hM104 a _ (k + 1, Aw0, kw0, hw0, cw0, bw0, nw0, ew0) F (O135.as 0) ⟨hk1, (by rw [← hq, toldL_no (by simpa using h111), toldL_no (by simpa using h111)])⟩ (show p.pre0.length - (k + 1) < p.pre0.length - k by omega)
             · have h105p : ¬ ((k : Int) < (p.pre0.length : Int)) := by simpa only [decide_eq_true_eq, decide_eq_false_iff_not] using h105
               have hq0x : toldL (modeP p) 1 (sel ns6 kS) (sel ne7 kE) (sel nr8 kRS) (sel nf9 kRE) 0 p.pre0 (A85, ⟨k86, h87, ⟨c88, b89, n90⟩⟩, 0) = (Aw0, ⟨kw0, hw0, ⟨cw0, bw0, nw0⟩⟩, ew0) := by rw [← hq, List.drop_eq_nil_of_le (by have := h105p; omega)]; rfl
               refine sg0 [.a (bT h105), .p 8] O102 fun w136 O137 => ?_
               rcases Bool.eq_false_or_eq_true (ew0 == 0) with h138 | h138
               · have h138p : ew0 = 0 := by simpa using h138
                 subst h138p
                 refine sg0 [.p 6, .a (.r 2), .p 2] O137 fun w139 O140 => ?_
                 refine gl (fun (zz : Nat × Ar × Int × Int × Int × Bool × Int × Int) => match zz with | (k, Aw1, kw1, hw1, cw1, bw1, nw1, ew1) => [(0, .pointer (some ⟨r, 0, none⟩)), (10, .pointer (some ⟨b3, 0, none⟩)), (11, .int .i64 0), (13, .int .i64 ew1), (17, .pointer (some ⟨b58, 0, none⟩)), (19, .pointer (some ⟨bh, 0, none⟩)), (20, .int .i64 1), (114, .slice a1 p.pre1.length c1), (115, .int .i64 (p.pre1.length : Int)), (116, .int .i64 (k : Int))]) (fun (zz : Nat × Ar × Int × Int × Int × Bool × Int × Int) => match zz with | (k, Aw1, kw1, hw1, cw1, bw1, nw1, ew1) => (.blk bh (.cells #[pickV ew1 (.int .i64 1) (.int .i64 0), .int .i64 0, .int .i64 0, pickV ew1 (.string (strO p.name)) (.string ⟨#[]⟩), pickV ew1 (.slice a0 p.pre0.length c0) (.slice none 0 0), pickV ew1 (.slice a1 p.pre1.length c1) (.slice none 0 0), pickV ew1 (.slice am p.msgs.length cm) (.slice none 0 0), pickV ew1 (.int .i64 (sel ns6 kS)) (.int .i64 0), pickV ew1 (.int .i64 (sel ne7 kE)) (.int .i64 0), pickV ew1 (.int .i64 (sel nr8 kRS)) (.int .i64 0), pickV ew1 (.int .i64 (sel nf9 kRE)) (.int .i64 0), pickV ew1 (.slice bk psks.length dk) (.slice none 0 0), pickV ew1 (.int .i64 kw1) (.int .i64 0), pickV ew1 (.int .i64 hw1) (.int .i64 0), pickV ew1 (.int .i64 cw1) (.int .i64 0), pickV ew1 (.bool bw1) (.bool false), pickV ew1 (.int .u64 nw1) (.int .u64 0)] 42) :: .thing (shkT (pvx a0 c0 a1 c1 am cm p) p (.slice bk psks.length dk) psks) :: .blk b58 (.cells #[.string (strO p.name), .slice a0 p.pre0.length c0, .slice a1 p.pre1.length c1, .slice am p.msgs.length cm] 33) :: .blk b23 (.cells #[.int .i64 prologue, .int .i64 kS, .int .i64 kE, .int .i64 kRS, .int .i64 kRE] 3) :: .blk b17 (.cells #[.bool (decide (kS > 0)), .bool (decide (kE > 0)), .bool (decide (kRS > 0)), .bool (decide (kRE > 0)), .int .i64 (psks.length : Int)] 151) :: .blk b16 (.cells #[.bool ns6, .bool ne7, .bool nr8, .bool nf9, .int .i64 np10] 151) :: .blk b3 (.cells #[.int .i64 0, .int .i64 0, .int .i64 0, .string ⟨#[]⟩, .slice none 0 0, .slice none 0 0, .slice none 0 0, .int .i64 0, .int .i64 0, .int .i64 0, .int .i64 0, .slice none 0 0, .int .i64 0, .int .i64 0, .int .i64 0, .bool false, .int .u64 0] 42) :: .blk b2 (.cells #[.int .i64 kS, .int .i64 kE, .int .i64 kRS, .int .i64 kRE, .slice B psks.length dB] 38) :: .blk b1 (.cells #[.string (strO p.name), .slice q0 p.pre0.length d0, .slice q1 p.pre1.length d1, .slice qm p.msgs.length dm] 33) :: .thing (arena r Aw1) :: T)) (fun (zz : Nat × Ar × Int × Int × Int × Bool × Int × Int) w => match zz with | (k, Aw1, kw1, hw1, cw1, bw1, nw1, ew1) => k ≤ p.pre1.length ∧ toldL (modeP p) 1 (sel ns6 kS) (sel ne7 kE) (sel nr8 kRS) (sel nf9 kRE) 1 (p.pre1.drop k) (Aw1, ⟨kw1, hw1, ⟨cw1, bw1, nw1⟩⟩, ew1) = toldL (modeP p) 1 (sel ns6 kS) (sel ne7 kE) (sel nr8 kRS) (sel nf9 kRE) 1 p.pre1 (Aw0, ⟨kw0, hw0, ⟨cw0, bw0, nw0⟩⟩, 0)) (fun (zz : Nat × Ar × Int × Int × Int × Bool × Int × Int) => match zz with | (k, Aw1, kw1, hw1, cw1, bw1, nw1, ew1) => p.pre1.length - k) (0, Aw0, kw0, hw0, cw0, bw0, nw0, 0) (O140.as 0) ⟨(Nat.zero_le _), rfl⟩ ?_
                 rintro M143 ⟨k, Aw1, kw1, hw1, cw1, bw1, nw1, ew1⟩ w141 hM144 O142 ⟨hk1, hq⟩
                 rcases Bool.eq_false_or_eq_true (decide ((k : Int) < (p.pre1.length : Int))) with h145 | h145
                 · have h145p : ((k : Int) < (p.pre1.length : Int)) := by simpa only [decide_eq_true_eq, decide_eq_false_iff_not] using h145
                   have hk1 : k + 1 ≤ p.pre1.length := by have := h145p; omega
                   obtain ⟨t, ht⟩ : ∃ t, p.pre1[k]? = some t := ⟨_, List.getElem?_eq_getElem hk1⟩
                   obtain ⟨qb, q, hA, _⟩ := holdsI_at ((O142.hasPat (j := 1) (by kernel_rfl) (hasPat_shk (pvx a0 c0 a1 c1 am cm p) p (.slice bk psks.length dk) psks)).pre1.at0) ht
                   have hdrop := drop_at ht
                   refine sg0 [.a (bT h145), .p 1, .a (.i _ qb q p.pre1.length k hA hk1)] O142 fun w146 O147 => ?_
                   refine gx [.cell qb (q + k * 1) (.int .i64 t)] O147 ⟨(holds_cell ((O147.hasPat (j := 1) (by kernel_rfl) (hasPat_shk (pvx a0 c0 a1 c1 am cm p) p (.slice bk psks.length dk) psks)).pre1.at0) hA ht), trivial⟩ fun O148 => ?_
                   refine sg0 [.a (.r 0), .p 2] O148 fun w149 O150 => ?_
                   rcases Bool.eq_false_or_eq_true (ew1 == 0) with h151 | h151
                   · have h151p : ew1 = 0 := by simpa using h151
                     subst h151p
                     refine sg0 [.p 2, .a (.r 1), .p 3] O150 fun w152 O153 => ?_
                     obtain ⟨A154, k155, h156, c157, b158, n159, e160, hm161⟩ : ∃ A154 k155 h156 c157 b158 n159 e160, toldY Aw1 ⟨kw1, hw1, ⟨cw1, bw1, nw1⟩⟩ (modeP p) 1 (sel ns6 kS) (sel ne7 kE) (sel nr8 kRS) (sel nf9 kRE) 1 t = (A154, ⟨k155, h156, ⟨c157, b158, n159⟩⟩, e160) := ⟨_, _, _, _, _, _, _, rfl⟩
                     rcases Decidable.em (e160 = 0) with h162 | h162
                     · subst h162
                       refine gS (args := #[.agg #[.int .i64 1, .int .i64 0, .int .i64 0, .string (strO p.name), .slice a0 p.pre0.length c0, .slice a1 p.pre1.length c1, .slice am p.msgs.length cm, .int .i64 (sel ns6 kS), .int .i64 (sel ne7 kE), .int .i64 (sel nr8 kRS), .int .i64 (sel nf9 kRE), .slice bk psks.length dk, .int .i64 kw1, .int .i64 hw1, .int .i64 cw1, .bool bw1, .int .u64 nw1], .pointer (some ⟨r, 0, none⟩), .int .i64 1, .int .i64 t]) (toldHE (psks := psks) (v := .agg #[.int .i64 1, .int .i64 0, .int .i64 0, .string (strO p.name), .slice a0 p.pre0.length c0, .slice a1 p.pre1.length c1, .slice am p.msgs.length cm, .int .i64 (sel ns6 kS), .int .i64 (sel ne7 kE), .int .i64 (sel nr8 kRS), .int .i64 (sel nf9 kRE), .slice bk psks.length dk, .int .i64 k155, .int .i64 h156, .int .i64 c157, .bool b158, .int .u64 n159]) O153 9 (by kernel_rfl) 1 (by kernel_rfl) (hasPat_shk (pvx a0 c0 a1 c1 am cm p) p (.slice bk psks.length dk) psks) hfit (by omega) hm161 (by rfl)) fun w163 O164 => ?_
                       refine sg0 [.p 3, .s 0 [], .p 1, .a (iW ((k : Int) + 1)), .p 1] O164 fun w166 O167 => ?_
                       exact gz _ fun a F => hM144 a _ (k + 1, A154, k155, h156, c157, b158, n159, 0) F (O167.as 0) ⟨hk1, (by rw [← hq, hdrop]; simp [toldL, hm161])⟩ (show p.pre1.length - (k + 1) < p.pre1.length - k by omega)
                     · refine gS (args := #[.agg #[.int .i64 1, .int .i64 0, .int .i64 0, .string (strO p.name), .slice a0 p.pre0.length c0, .slice a1 p.pre1.length c1, .slice am p.msgs.length cm, .int .i64 (sel ns6 kS), .int .i64 (sel ne7 kE), .int .i64 (sel nr8 kRS), .int .i64 (sel nf9 kRE), .slice bk psks.length dk, .int .i64 kw1, .int .i64 hw1, .int .i64 cw1, .bool bw1, .int .u64 nw1], .pointer (some ⟨r, 0, none⟩), .int .i64 1, .int .i64 t]) (toldHE (psks := psks) (v := .agg #[.int .i64 0, .int .i64 0, .int .i64 0, .string ⟨#[]⟩, .slice none 0 0, .slice none 0 0, .slice none 0 0, .int .i64 0, .int .i64 0, .int .i64 0, .int .i64 0, .slice none 0 0, .int .i64 0, .int .i64 0, .int .i64 0, .bool false, .int .u64 0]) O153 9 (by kernel_rfl) 1 (by kernel_rfl) (hasPat_shk (pvx a0 c0 a1 c1 am cm p) p (.slice bk psks.length dk) psks) hfit (by omega) hm161 (by rw [upd_no h162]; rfl)) fun w168 O169 => ?_
                       refine sg0 [.p 3, .s 0 [], .p 1, .a (iW ((k : Int) + 1)), .p 1] O169 fun w171 O172 => ?_
                       have O173 : Own w0 w171 (List.map Ent.t (.blk bh (.cells #[pickV e160 (.int .i64 1) (.int .i64 0), .int .i64 0, .int .i64 0, pickV e160 (.string (strO p.name)) (.string ⟨#[]⟩), pickV e160 (.slice a0 p.pre0.length c0) (.slice none 0 0), pickV e160 (.slice a1 p.pre1.length c1) (.slice none 0 0), pickV e160 (.slice am p.msgs.length cm) (.slice none 0 0), pickV e160 (.int .i64 (sel ns6 kS)) (.int .i64 0), pickV e160 (.int .i64 (sel ne7 kE)) (.int .i64 0), pickV e160 (.int .i64 (sel nr8 kRS)) (.int .i64 0), pickV e160 (.int .i64 (sel nf9 kRE)) (.int .i64 0), pickV e160 (.slice bk psks.length dk) (.slice none 0 0), pickV e160 (.int .i64 k155) (.int .i64 0), pickV e160 (.int .i64 h156) (.int .i64 0), pickV e160 (.int .i64 c157) (.int .i64 0), pickV e160 (.bool b158) (.bool false), pickV e160 (.int .u64 n159) (.int .u64 0)] 42) :: .thing (shkT (pvx a0 c0 a1 c1 am cm p) p (.slice bk psks.length dk) psks) :: .blk b58 (.cells #[.string (strO p.name), .slice a0 p.pre0.length c0, .slice a1 p.pre1.length c1, .slice am p.msgs.length cm] 33) :: .blk b23 (.cells #[.int .i64 prologue, .int .i64 kS, .int .i64 kE, .int .i64 kRS, .int .i64 kRE] 3) :: .blk b17 (.cells #[.bool (decide (kS > 0)), .bool (decide (kE > 0)), .bool (decide (kRS > 0)), .bool (decide (kRE > 0)), .int .i64 (psks.length : Int)] 151) :: .blk b16 (.cells #[.bool ns6, .bool ne7, .bool nr8, .bool nf9, .int .i64 np10] 151) :: .blk b3 (.cells #[.int .i64 0, .int .i64 0, .int .i64 0, .string ⟨#[]⟩, .slice none 0 0, .slice none 0 0, .slice none 0 0, .int .i64 0, .int .i64 0, .int .i64 0, .int .i64 0, .slice none 0 0, .int .i64 0, .int .i64 0, .int .i64 0, .bool false, .int .u64 0] 42) :: .blk b2 (.cells #[.int .i64 kS, .int .i64 kE, .int .i64 kRS, .int .i64 kRE, .slice B psks.length dB] 38) :: .blk b1 (.cells #[.string (strO p.name), .slice q0 p.pre0.length d0, .slice q1 p.pre1.length d1, .slice qm p.msgs.length dm] 33) :: .thing (arena r A154) :: T)) := by simp only [pickV_no h162]; exact O172.as 0
                       exact gz _ fun a F => hM144 a _ (k + 1, A154, k155, h156, c157, b158, n159, e160) F O173 ⟨hk1, (by rw [← hq, hdrop]; simp [toldL, hm161])⟩ (show p.pre1.length - (k + 1) < p.pre1.length - k by omega)
                   · have h151p : ¬ ew1 = 0 := by simpa using h151
                     refine sg0 [.a (bT h151), .p 1, .a (iW ((k : Int) + 1)), .p 1] O150 fun w174 O175 => ?_
                     exact gz _ fun a F => hM144 a _ (k + 1, Aw1, kw1, hw1, cw1, bw1, nw1, ew1) F (O175.as 0) ⟨hk1, (by rw [← hq, toldL_no (by simpa using h151), toldL_no (by simpa using h151)])⟩ (show p.pre1.length - (k + 1) < p.pre1.length - k by omega)
                 · have h145p : ¬ ((k : Int) < (p.pre1.length : Int)) := by simpa only [decide_eq_true_eq, decide_eq_false_iff_not] using h145
                   have hq1x : toldL (modeP p) 1 (sel ns6 kS) (sel ne7 kE) (sel nr8 kRS) (sel nf9 kRE) 1 p.pre1 (Aw0, ⟨kw0, hw0, ⟨cw0, bw0, nw0⟩⟩, 0) = (Aw1, ⟨kw1, hw1, ⟨cw1, bw1, nw1⟩⟩, ew1) := by rw [← hq, List.drop_eq_nil_of_le (by have := h145p; omega)]; rfl
                   refine sg0 [.a (bT h145), .p 12] O142 fun w176 O177 => ?_
                   rcases Bool.eq_false_or_eq_true (ew1 != 0) with h178 | h178
                   · have h178p : ¬ ew1 = 0 := by simpa using h178
                     refine sg0 [.a (bT h178), .p 3, .s 6 [], .p 1] O177 fun w179 O180 => ?_
                     simp [startC, hm12, hm27, h31, hm35, h39, hm43, h47, hm92, hq0x, hq1x, h178p, Sy.zero, Ci.zero] at hf
                     obtain ⟨rfl, rfl, rfl⟩ := hf
                     exact gret [6] O180 (.inr ⟨by first | decide | assumption | omega, rfl, back 9 O180⟩)
                   · have h178p : ew1 = 0 := by simpa using h178
                     subst h178p
                     refine sg0 [.p 2, .a (.r 0), .s 6 [], .p 1] O177 fun w181 O182 => ?_
                     simp [startC, hm12, hm27, h31, hm35, h39, hm43, h47, hm92, hq0x, hq1x] at hf
                     obtain ⟨rfl, rfl, rfl⟩ := hf
                     exact gret (v := .tuple #[.agg #[.int .i64 1, .int .i64 0, .int .i64 0, .string (strO p.name), .slice a0 p.pre0.length c0, .slice a1 p.pre1.length c1, .slice am p.msgs.length cm, .int .i64 (sel ns6 kS), .int .i64 (sel ne7 kE), .int .i64 (sel nr8 kRS), .int .i64 (sel nf9 kRE), .slice bk psks.length dk, .int .i64 kw1, .int .i64 hw1, .int .i64 cw1, .bool bw1, .int .u64 nw1], .int .i64 0]) [6] O182 (.inl ⟨rfl, a0, c0, a1, c1, am, cm, bk, dk, by rw [hm12]; rfl, back2 1 7 O182⟩)
               · have h138p : ¬ ew0 = 0 := by simpa using h138
                 refine sg0 [.a (bT h138), .p 3, .a (bT (bne_t h138p)), .p 3, .s 6 [], .p 1] O137 fun w183 O184 => ?_
                 simp [startC, hm12, hm27, h31, hm35, h39, hm43, h47, hm92, hq0x, h138p, Sy.zero, Ci.zero] at hf
                 obtain ⟨rfl, rfl, rfl⟩ := hf
                 exact gret [6] O184 (.inr ⟨by first | decide | assumption | omega, rfl, back 9 O184⟩)
           · have h98p : ¬ e91 = 0 := by simpa using h98
             refine sg0 [.a (bT h98), .p 3, .a (bT (bne_t h98p)), .p 3, .s 6 [], .p 1] O97 fun w185 O186 => ?_
             simp [startC, hm12, hm27, h31, hm35, h39, hm43, h47, hm92, h98p, Sy.zero, Ci.zero, toldL_no] at hf
             obtain ⟨rfl, rfl, rfl⟩ := hf
             exact gret [6] O186 (.inr ⟨by first | decide | assumption | omega, rfl, back 9 O186⟩)
       · refine sg0 [.a (bN h47), .p 3, .s 3 [], .p 1] O45 fun w187 O188 => ?_
         simp [startC, hm12, hm27, h31, hm35, h39, hm43, h47, Sy.zero, Ci.zero] at hf
         obtain ⟨rfl, rfl, rfl⟩ := hf
         exact gret [3] O188 (.inr ⟨by first | decide | assumption | omega, rfl, back 6 O188⟩)
     · refine sg0 [.a (bN h39), .p 4, .s 3 [], .p 1] O37 fun w189 O190 => ?_
       simp [startC, hm12, hm27, h31, hm35, h39, Sy.zero, Ci.zero] at hf
       obtain ⟨rfl, rfl, rfl⟩ := hf
       exact gret [3] O190 (.inr ⟨by first | decide | assumption | omega, rfl, back 6 O190⟩)
   · refine sg0 [.a (bN h31), .p 10, .s 3 [], .p 1] O29 fun w191 O192 => ?_
     simp [startC, hm12, hm27, h31, Sy.zero, Ci.zero] at hf
     obtain ⟨rfl, rfl, rfl⟩ := hf
     exact gret [3] O192 (.inr ⟨by first | decide | assumption | omega, rfl, back 6 O192⟩)
end Go.Proofs.YtikimmgileffgaaGreatDoor
end
/- Share (layer 1). Printed by s_share.py. -/
section
namespace Go.Proofs.YtikimmgileffgaaGreatDoor
open Go.RowKit
theorem cmpE {w0 w : World} {M : List Thing} {r : Nat} {A : Ar} {x y c : Int} (O : Own w0 w M) (i : Nat) (hi : M[i]? = some (arena r A)) (hm : cmpA A.l x y = c) :
    Calls Tryz.prog 150 #[.pointer (some ⟨r, 0, none⟩), .int .i64 x, .int .i64 y] w fun e w' => e = .returned (.int .i64 c) ∧ Own w0 w' M := by
  obtain ⟨S, hr⟩ := O.arena hi
  exact (cmp_calls x y hr).mono fun _ _ ⟨h, hb⟩ => ⟨by rw [← hm]; exact h, O.call hb⟩
set_option warningAsError false in
set_option maxRecDepth 100000 in
set_option maxHeartbeats 1000000 in
theorem shareE {w0 w : World} {M : List Thing} {r : Nat} {A A' : Ar} {x y z e : Int} (O : Own w0 w M) (i : Nat) (hi : M[i]? = some (arena r A)) (hf : share A x y = (A', z, e)) :
    Calls Tryz.prog 130 #[.pointer (some ⟨r, 0, none⟩), .int .i64 x, .int .i64 y] w fun e' w' => e' = .returned (.tuple #[.int .i64 z, .int .i64 e]) ∧ Own w0 w' (M.set i (arena r A')) := by
 obtain ⟨T, _, O0, back⟩ := O.focD hi
 refine gent O0 Tryz.func130 ?_
 refine sg1 [.p 5, .n []] O0 fun b1 w2 O3 => ?_
 obtain ⟨is4, hm5⟩ : ∃ b, (has A.l x && has A.l y) = b := ⟨_, rfl⟩
 refine gU (args := #[.pointer (some ⟨r, 0, none⟩), .slice (some ⟨b1, 0, none⟩) 2 2]) (hasE (xs := [x, y]) (t := 3) O3 1 0 (by kernel_rfl) (by kernel_rfl) (by simp) (by simpa using hm5)) fun w6 O7 => ?_
 rcases Bool.eq_false_or_eq_true (is4) with h9 | h9
 · have hxy : has A.l x = true ∧ has A.l y = true := by rw [h9] at hm5; simpa using hm5
   obtain ⟨j, rfl, hj⟩ : ∃ j : Nat, y = (j : Int) ∧ j < A.l.length := ⟨y.toNat, by have := has_iff.1 hxy.2; omega, by have := has_iff.1 hxy.2; omega⟩
   obtain ⟨S, hr⟩ := O7.arena (i := 1) (r := r) (A := A) (by kernel_rfl)
   obtain ⟨g, cap, bm, _, hc1, _, hcn⟩ := hr.cells
   have hcj := hcn j (nd A.l (j : Int)) (by rw [nd, Int.toNat_natCast]; simp [List.getD_eq_getElem?_getD, List.getElem?_eq_getElem hj])
   have hxx := hxy.1
   have hyy := hxy.2
   refine gx [.cell r 1 (.slice (some ⟨g, 0, none⟩) A.l.length cap), .cell g (0 + j * 5) (.int .i64 ((nd A.l (j : Int)).kind)), .cell g (0 + j * 5 + 2) (.int .i64 ((nd A.l (j : Int)).a))] O7 ⟨hc1, (by rw [Nat.zero_add]; exact hcj.1), (by rw [Nat.zero_add]; exact hcj.2.2.1), trivial⟩ fun O10 => ?_
   refine sg0 [.a (bN h9), .p 4, .a (.r 0), .p 1, .a (.i _ g 0 A.l.length j rfl hj), .p 1, .a (.r 2), .p 4, .a (.r 0), .p 1, .a (.i _ g 0 A.l.length j rfl hj), .p 1, .a (.r 1)] O10 fun w11 O12 => ?_
   rcases Bool.eq_false_or_eq_true (((nd A.l (j : Int)).kind) != 2) with h13 | h13
   · have h13p : ¬ ((nd A.l (j : Int)).kind) = 2 := by simpa using h13
     refine sg0 [.a (bT h13), .p 6] O12 fun w14 O15 => ?_
     obtain ⟨A16, y17, e18, hm19⟩ : ∃ A16 y17 e18, mk A ⟨4, 0, x, (j : Int), 0⟩ = (A16, y17, e18) := ⟨_, _, _, rfl⟩
     refine gS (mkE (r := r) O15 1 (by kernel_rfl) (by decide) (by decide) hm19) fun w20 O21 => ?_
     refine sg0 [.p 4] O21 fun w23 O24 => ?_
     simp [share, hxx, hyy, h13p, hm19] at hf
     obtain ⟨rfl, rfl, rfl⟩ := hf
     exact gret [] O24 (⟨rfl, back 1 O24⟩)
   · have h13p : ((nd A.l (j : Int)).kind) = 2 := by simpa using h13
     refine sg0 [.a (bT h13), .p 5] O12 fun w25 O26 => ?_
     obtain ⟨c27, hm28⟩ : ∃ c, cmpA A.l x ((nd A.l (j : Int)).a) = c := ⟨_, rfl⟩
     refine gU (cmpE (r := r) O26 1 (by kernel_rfl) hm28) fun w29 O30 => ?_
     rcases Bool.eq_false_or_eq_true (decide (c27 > 0)) with h32 | h32
     · have h32p : (0 < c27) := by simpa only [decide_eq_true_eq, decide_eq_false_iff_not] using h32
       refine sg0 [.a (bT h32), .p 10] O30 fun w33 O34 => ?_
       obtain ⟨A35, y36, e37, hm38⟩ : ∃ A35 y36 e37, mk A ⟨3, 0, (nd A.l (j : Int)).a, x, 0⟩ = (A35, y36, e37) := ⟨_, _, _, rfl⟩
       refine gS (mkE (r := r) O34 1 (by kernel_rfl) (by decide) (by decide) hm38) fun w39 O40 => ?_
       refine sg0 [.p 4] O40 fun w42 O43 => ?_
       simp [share, hxx, hyy, h13p, hm28, h32p, hm38] at hf
       obtain ⟨rfl, rfl, rfl⟩ := hf
       exact gret [] O43 (⟨rfl, back 1 O43⟩)
     · have h32p : ¬ (0 < c27) := by simpa only [decide_eq_true_eq, decide_eq_false_iff_not] using h32
       refine sg0 [.a (bT h32), .p 6] O30 fun w44 O45 => ?_
       obtain ⟨A46, y47, e48, hm49⟩ : ∃ A46 y47 e48, mk A ⟨3, 0, x, (nd A.l (j : Int)).a, 0⟩ = (A46, y47, e48) := ⟨_, _, _, rfl⟩
       refine gS (mkE (r := r) O45 1 (by kernel_rfl) (by decide) (by decide) hm49) fun w50 O51 => ?_
       refine sg0 [.p 4] O51 fun w53 O54 => ?_
       simp [share, hxx, hyy, h13p, hm28, h32p, hm49] at hf
       obtain ⟨rfl, rfl, rfl⟩ := hf
       exact gret [] O54 (⟨rfl, back 1 O54⟩)
 · refine sg0 [.a (bN h9), .p 3] O7 fun w55 O56 => ?_
   simp [share, hm5, h9] at hf
   obtain ⟨rfl, rfl, rfl⟩ := hf
   exact gret [] O56 (⟨rfl, back 1 O56⟩)
end Go.Proofs.YtikimmgileffgaaGreatDoor
end
