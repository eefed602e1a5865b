/- Packed by packn.py: XXW, Open5, OpenT, OpenP. -/
import Derived.Test.YtikimmgileffgaaGreatDoorQk34
import Derived.Test.YtikimmgileffgaaGreatDoorQk02
import Derived.Test.YtikimmgileffgaaGreatDoorQk15
import Derived.Deep.Strs
import Derived.Test.YtikimmgileffgaaGreatDoorQk23
/- Law 12: awake walked. Printed by s_law12x.py. -/
section
namespace Go.Proofs.YtikimmgileffgaaGreatDoor
open Go.RowKit
set_option warningAsError false in
set_option maxRecDepth 100000 in
set_option maxHeartbeats 8000000 in
theorem awake12E {w0 w : World} {M : List Thing} (O : Own w0 w M) (henv : EnvB w0) :
    Calls Tryz.prog 20 #[] w fun e' w' => e' = .returned (.bool true) ∧ Own w0 w' M := by
 obtain ⟨T, hT⟩ : ∃ T : List Ent, T.map Ent.t = M := ⟨M.map Ent.thing, by rw [List.map_map]; exact List.map_id'' (fun _ => rfl) M⟩
 subst hT
 replace O : Own w0 w (List.map Ent.t (T)) := O
 obtain ⟨p, hpx⟩ : ∃ p, p = pXX := ⟨_, rfl⟩
 have hfit : PatFits p := by rw [hpx]; exact fits_xx
 have hright : rightP p = true := by rw [hpx]; exact right_xx
 have hkl : ([] : List Int).length * 8 ≤ 140737488355328 := by decide
 obtain ⟨A0, hA0⟩ : ∃ A, A = xA0 := ⟨_, rfl⟩
 obtain ⟨A1, hA1⟩ : ∃ A, A = xA1 := ⟨_, rfl⟩
 obtain ⟨A2, hA2⟩ : ∃ A, A = xA2 := ⟨_, rfl⟩
 obtain ⟨A3, hA3⟩ : ∃ A, A = xA3 := ⟨_, rfl⟩
 obtain ⟨A4, hA4⟩ : ∃ A, A = xA4 := ⟨_, rfl⟩
 obtain ⟨A5, hA5⟩ : ∃ A, A = xA5 := ⟨_, rfl⟩
 obtain ⟨A6, hA6⟩ : ∃ A, A = xA6 := ⟨_, rfl⟩
 obtain ⟨A7, hA7⟩ : ∃ A, A = xA7 := ⟨_, rfl⟩
 obtain ⟨A8, hA8⟩ : ∃ A, A = xA8 := ⟨_, rfl⟩
 have hm1 : mk A0 ⟨1, 1, 0, 0, 0⟩ = (A1, 1, 0) := by rw [hA0, hA1]; exact xm1
 have hm2 : mk A1 ⟨1, 2, 0, 0, 0⟩ = (A2, 2, 0) := by rw [hA1, hA2]; exact xm2
 have hm3 : mk A2 ⟨1, 3, 0, 0, 0⟩ = (A3, 3, 0) := by rw [hA2, hA3]; exact xm3
 have hm4 : mk A3 ⟨1, 4, 0, 0, 0⟩ = (A4, 4, 0) := by rw [hA3, hA4]; exact xm4
 have hm5 : mk A4 ⟨1, 5, 0, 0, 0⟩ = (A5, 5, 0) := by rw [hA4, hA5]; exact xm5
 have hs0 : startC A5 p 0 0 ⟨1, 0, 0, 0, []⟩ = (A6, ⟨8, 9, ⟨0, false, 0⟩⟩, 0) := by rw [hA5, hA6, hpx]; exact xst0
 have hs1 : startC A6 p 1 0 ⟨2, 0, 0, 0, []⟩ = (A7, ⟨8, 9, ⟨0, false, 0⟩⟩, 0) := by rw [hA6, hA7, hpx]; exact xst1
 have hw : writeC A7 0 1 [] p ⟨0, 0, 0, 0, 0, ⟨8, 9, ⟨0, false, 0⟩⟩⟩ 3 5 = (A8, ⟨1, 0, 3, 0, 0, ⟨8, 12, ⟨0, false, 0⟩⟩⟩, [10, 5], 0) := by rw [hA7, hA8, hpx]; exact xw
 have hrd : readC A8 1 2 [] p ⟨0, 0, 0, 0, 0, ⟨8, 9, ⟨0, false, 0⟩⟩⟩ [10, 5] = (A8, ⟨1, 0, 0, 0, 10, ⟨8, 12, ⟨0, false, 0⟩⟩⟩, 5, 0) := by rw [hA8, hpx]; exact xr
 have hS0 : sel (needOf p 0).1.s 1 = 1 := by rw [hpx]; decide +kernel
 have hE0 : sel (needOf p 0).1.e 0 = 0 := by rw [hpx]; decide +kernel
 have hR0 : sel (needOf p 0).1.rs 0 = 0 := by rw [hpx]; decide +kernel
 have hQ0 : sel (needOf p 0).1.re 0 = 0 := by rw [hpx]; decide +kernel
 have hS1 : sel (needOf p 1).1.s 2 = 2 := by rw [hpx]; decide +kernel
 have hE1 : sel (needOf p 1).1.e 0 = 0 := by rw [hpx]; decide +kernel
 have hR1 : sel (needOf p 1).1.rs 0 = 0 := by rw [hpx]; decide +kernel
 have hQ1 : sel (needOf p 1).1.re 0 = 0 := by rw [hpx]; decide +kernel
 have p70 : 0 ≤ (0 : Int) ∧ 0 + cnt7 (toks p 0) ≤ ([] : List Int).length := by rw [hpx]; decide +kernel
 have hlen : p.msgs.length = 3 := by rw [hpx]; rfl
 refine gent O Tryz.func20 ?_
 refine sg0 [.p 1] O fun w1 O2 => ?_
 refine gc (args := #[.string ⟨#[88, 88]⟩]) (baseXX O2 henv hpx) ?_
 rintro e5 w3 ⟨q0, d0, q1, d1, qm, dm, rfl, O4⟩
 refine gr O4.mcons fun O4 => ?_
 refine sg1 [.p 3, .n [], .s 0 [], .p 1] O4 fun b6 w7 O8 => ?_
 refine gc (args := #[.int .i64 200]) (newEA O8 (hA0.trans rfl)) ?_
 rintro e11 w9 ⟨r, rfl, O10⟩
 refine gr O10.mcons fun O10 => ?_
 refine sg0 [.p 10, .u 5, .p 9] O10 fun w12 O13 => ?_
 refine gS (mkE (r := r) O13 0 (by kernel_rfl) (by decide) (by decide) hm1) fun w14 O15 => ?_
 refine sg1 [.p 7, .n []] O15 fun b17 w18 O19 => ?_
 refine gNil 3 O19 fun O20 => ?_
 refine gcatI (.tmp 39) (.tmp 41) 29 O20 3 [] none 0 0 b17 1 1 3 1 (by decide) fun B21 d22 w23 O24 => ?_
 refine sg0 [.p 12] O24 fun w25 O26 => ?_
 refine gS (mkE (r := r) O26 2 (by kernel_rfl) (by decide) (by decide) hm2) fun w27 O28 => ?_
 refine sg1 [.p 7, .n []] O28 fun b30 w31 O32 => ?_
 refine gcatI (.tmp 39) (.tmp 41) 29 O32 3 ([] ++ [1]) B21 d22 1 b30 0 2 3 1 (by decide) fun B33 d34 w35 O36 => ?_
 refine sg0 [.p 12] O36 fun w37 O38 => ?_
 refine gS (mkE (r := r) O38 3 (by kernel_rfl) (by decide) (by decide) hm3) fun w39 O40 => ?_
 refine sg1 [.p 7, .n []] O40 fun b42 w43 O44 => ?_
 refine gcatI (.tmp 39) (.tmp 41) 29 O44 3 (([] ++ [1]) ++ [2]) B33 d34 2 b42 0 3 3 1 (by decide) fun B45 d46 w47 O48 => ?_
 refine sg0 [.p 12] O48 fun w49 O50 => ?_
 refine gS (mkE (r := r) O50 4 (by kernel_rfl) (by decide) (by decide) hm4) fun w51 O52 => ?_
 refine sg1 [.p 7, .n []] O52 fun b54 w55 O56 => ?_
 refine gcatI (.tmp 39) (.tmp 41) 29 O56 3 ((([] ++ [1]) ++ [2]) ++ [3]) B45 d46 3 b54 0 4 3 1 (by decide) fun B57 d58 w59 O60 => ?_
 refine sg0 [.p 12] O60 fun w61 O62 => ?_
 refine gS (mkE (r := r) O62 5 (by kernel_rfl) (by decide) (by decide) hm5) fun w63 O64 => ?_
 refine sg1 [.p 7, .n []] O64 fun b66 w67 O68 => ?_
 refine gcatI (.tmp 39) (.tmp 41) 29 O68 3 (((([] ++ [1]) ++ [2]) ++ [3]) ++ [4]) B57 d58 4 b66 0 5 3 1 (by decide) fun B69 d70 w71 O72 => ?_
 refine sg0 [.p 5] O72 fun w73 O74 => ?_
 obtain ⟨gl, rfl⟩ := O74.rowB1 (i := 4) (el := 3) (size := 1) (n := ((((([] ++ [1]) ++ [2]) ++ [3]) ++ [4]) ++ [5]).length) (d := d70) (B := B69) (xs := intsV ((((([] ++ [1]) ++ [2]) ++ [3]) ++ [4]) ++ [5])) (by kernel_rfl) (by decide)
 refine gL 4 (.row 3 1 gl 5 d70 [.int .i64 1, .int .i64 2, .int .i64 3, .int .i64 4, .int .i64 5]) O74 fun O75 => ?_
 refine sg0 [.d [4, 7], .qs [0], .q 1 (.r 1), .qs [2, 3], .q 4 (.r 0), .qs [5]] O75 fun w76 O77 => ?_
 refine gA [6, 10] O77 ⟨?_, ?_, trivial⟩
 · intro O78
   refine gc (args := #[.pointer (some ⟨r, 0, none⟩), .agg #[.string (strO p.name), .slice q0 p.pre0.length d0, .slice q1 p.pre1.length d1, .slice qm p.msgs.length dm], .int .i64 0, .int .i64 0, .agg #[.int .i64 1, .int .i64 0, .int .i64 0, .int .i64 0, .slice none 0 0]]) (startX (.inl rfl) (psks := ([] : List Int)) (B := none) (dB := 0) (p := p) (A := A5) O78 6 (by kernel_rfl) (kept_pat (x := (pvx q0 d0 q1 d1 qm dm p)) 8 (by kernel_rfl) (by decide)) hfit henv.str (kept_old fun _ _ => .inl rfl) hkl hS0 hE0 hR0 hQ0 hs0) ?_
   rintro e81 w79 ⟨a0h, c0h, a1h, c1h, amh, cmh, bkh, dkh, rfl, O80⟩
   refine gr (js := [5, 8]) O80.mconsS fun O80 => ?_
   refine sg1 [.qs [7, 8, 9], .o 10, .n [6, 9], .o 11, .s 0 [6, 9], .qs [12], .z, .d [6, 9], .qs [0], .q 1 (.r 1), .qs [2, 3], .q 4 (.r 0), .qs [5]] O80 fun b82 w83 O84 => ?_
   refine gA [6, 10] O84 ⟨?_, ?_, trivial⟩
   · intro O85
     refine gc (args := #[.pointer (some ⟨r, 0, none⟩), .agg #[.string (strO p.name), .slice q0 p.pre0.length d0, .slice q1 p.pre1.length d1, .slice qm p.msgs.length dm], .int .i64 1, .int .i64 0, .agg #[.int .i64 2, .int .i64 0, .int .i64 0, .int .i64 0, .slice none 0 0]]) (startX (.inr rfl) (psks := ([] : List Int)) (B := none) (dB := 0) (p := p) (A := A6) O85 8 (by kernel_rfl) (kept_pat (x := (pvx q0 d0 q1 d1 qm dm p)) 10 (by kernel_rfl) (by decide)) hfit henv.str (kept_old fun _ _ => .inl rfl) hkl hS1 hE1 hR1 hQ1 hs1) ?_
     rintro e88 w86 ⟨a0g, c0g, a1g, c1g, amg, cmg, bkg, dkg, rfl, O87⟩
     refine gr (js := [7, 10]) O87.mconsS fun O87 => ?_
     refine sg1 [.qs [7, 8, 9], .o 10, .n [8, 11], .o 11, .s 0 [8, 11], .qs [12], .z, .d [8], .qs [1, 2, 3], .q 4 (.r 0), .qs [5, 6], .q 7 (.r 0), .o 0, .a (.r 2), .o 8] O87 fun b89 w90 O91 => ?_
     refine gc (writeOk (r := r) O91 10 (by kernel_rfl) 3 (by kernel_rfl) (hasShk_shk (pvx a0h c0h a1h c1h amh cmh p) p bkh dkh ([] : List Int)) hfit (by decide) hright (.inl rfl) p70 hkl ⟨by decide, by decide⟩ hw) ?_
     rintro e96 w94 ⟨mB92, md93, rfl, O95⟩
     refine gr (js := [9]) O95.mconsS fun O95 => ?_
     refine sg0 [.qs [9, 10, 11, 12], .o 13, .s 3 [9], .qs [14, 15], .z, .a (.r 1), .p 2] O95 fun w97 O98 => ?_
     refine gS (readOk (msg := [10, 5]) (mB := mB92) (md := md93) (r := r) O98 11 (by kernel_rfl) 2 (by kernel_rfl) (hasShk_shk (pvx a0g c0g a1g c1g amg cmg p) p bkg dkg ([] : List Int)) hfit (by decide) hright (.inr rfl) (Int.le_refl _) p70 hkl ⟨by decide, by decide⟩ (by decide) (kept2_thing 0 (by kernel_rfl) (by decide) (by decide) (rowI_holds (B := mB92) (d := md93) (l := [10, 5]))) hrd) fun w99 O100 => ?_
     refine sg0 [.p 4, .s 1 [], .p 19, .a (bT (show (([10, 5].length : Int) == 2) = true from rfl)), .p 5, .a (.r 9), .p 4, .a (.r 3), .p 1, .a (.r 1), .a (.e ((((8 : Int) == 8) && (((12 : Int) == 12) && ((((0 : Int) == 0) && ((false == false) && (((0 : Int) == 0) && true))) && true)))) true (by simp [])), .p 2, .a (.r 1)] O100 fun w102 O103 => ?_
     refine gi (args := #[.agg #[.int .i64 1, .int .i64 1, .int .i64 0, .string (strO p.name), .slice a0g p.pre0.length c0g, .slice a1g p.pre1.length c1g, .slice amg p.msgs.length cmg, .int .i64 2, .int .i64 0, .int .i64 0, .int .i64 10, .slice bkg (([] : List Int).length) dkg, .int .i64 8, .int .i64 12, .int .i64 0, .bool false, .int .u64 0]]) Tryz.func23 O103 fun O103i => ?_
     refine sg1 [.n [], .p 2, .a (.r 0), .p 1, .a (.r 0), .p 1, .a (.r 0)] O103i fun b104 w105 O106 => ?_
     refine gU (args := #[.agg #[.string (strO p.name), .slice a0g p.pre0.length c0g, .slice a1g p.pre1.length c1g, .slice amg p.msgs.length cmg], .int .i64 1, .int .i64 1]) (sendsX (role := 1) (n := 1) (is := true) O106 3 (by kernel_rfl) (hasShk_shk (pvx a0g c0g a1g c1g amg cmg p) p bkg dkg ([] : List Int)).hasPat hfit (by rw [hpx]; decide +kernel)) fun w107 O108 => ?_
     refine sg0 [.p 1] O108 fun w110 O111 => ?_
     refine gir [] O111 fun O112 => ?_
     refine sg0 [.p 2, .a (.r 4)] O112 fun w113 O114 => ?_
     refine gi (args := #[.agg #[.int .i64 0, .int .i64 1, .int .i64 0, .string (strO p.name), .slice a0h p.pre0.length c0h, .slice a1h p.pre1.length c1h, .slice amh p.msgs.length cmh, .int .i64 1, .int .i64 3, .int .i64 0, .int .i64 0, .slice bkh (([] : List Int).length) dkh, .int .i64 8, .int .i64 12, .int .i64 0, .bool false, .int .u64 0]]) Tryz.func23 O114 fun O114i => ?_
     refine sg1 [.n [], .p 2, .a (.r 0), .p 1, .a (.r 0), .p 1, .a (.r 0)] O114i fun b115 w116 O117 => ?_
     refine gU (args := #[.agg #[.string (strO p.name), .slice a0h p.pre0.length c0h, .slice a1h p.pre1.length c1h, .slice amh p.msgs.length cmh], .int .i64 0, .int .i64 1]) (sendsX (role := 0) (n := 1) (is := false) O117 6 (by kernel_rfl) (hasShk_shk (pvx a0h c0h a1h c1h amh cmh p) p bkh dkh ([] : List Int)).hasPat hfit (by rw [hpx]; decide +kernel)) fun w118 O119 => ?_
     refine sg0 [.p 1] O119 fun w121 O122 => ?_
     refine gir [] O122 fun O123 => ?_
     refine sg0 [.p 3, .a (.r 3)] O123 fun w124 O125 => ?_
     refine gi (args := #[.agg #[.int .i64 1, .int .i64 1, .int .i64 0, .string (strO p.name), .slice a0g p.pre0.length c0g, .slice a1g p.pre1.length c1g, .slice amg p.msgs.length cmg, .int .i64 2, .int .i64 0, .int .i64 0, .int .i64 10, .slice bkg (([] : List Int).length) dkg, .int .i64 8, .int .i64 12, .int .i64 0, .bool false, .int .u64 0]]) Tryz.func24 O125 fun O125i => ?_
     refine sg1 [.n [], .p 2, .a (.r 0), .p 2, .a (.r 0), .p 1, .a (bT (decide_eq_false (p := ((1 : Int) ≥ (p.msgs.length : Int))) (by omega))), .p 1] O125i fun b126 w127 O128 => ?_
     refine gir [] O128 fun O129 => ?_
     refine sg0 [.p 3] O129 fun w130 O131 => ?_
     exact gret [] O131 (⟨rfl, O131.as 17⟩)
   · intro O132
     refine sg1 [.n [7, 10], .o 6] O132 fun b133 w134 O135 => ?_
     refine gc (args := #[.pointer (some ⟨r, 0, none⟩), .agg #[.string (strO p.name), .slice q0 p.pre0.length d0, .slice q1 p.pre1.length d1, .slice qm p.msgs.length dm], .int .i64 1, .int .i64 0, .agg #[.int .i64 2, .int .i64 0, .int .i64 0, .int .i64 0, .slice none 0 0]]) (startX (.inr rfl) (psks := ([] : List Int)) (B := none) (dB := 0) (p := p) (A := A6) O135 9 (by kernel_rfl) (kept_pat (x := (pvx q0 d0 q1 d1 qm dm p)) 11 (by kernel_rfl) (by decide)) hfit henv.str (kept_old fun _ _ => .inl rfl) hkl hS1 hE1 hR1 hQ1 hs1) ?_
     rintro e138 w136 ⟨a0g, c0g, a1g, c1g, amg, cmg, bkg, dkg, rfl, O137⟩
     refine gr (js := [8, 11]) O137.mconsS fun O137 => ?_
     refine sg0 [.qs [7, 8, 9], .o 11, .s 1 [8, 11], .qs [12], .z, .d [8], .qs [1, 2, 3], .q 4 (.r 0), .qs [5, 6], .q 7 (.r 0), .o 0, .a (.r 2), .o 8] O137 fun w139 O140 => ?_
     refine gc (writeOk (r := r) O140 10 (by kernel_rfl) 3 (by kernel_rfl) (hasShk_shk (pvx a0h c0h a1h c1h amh cmh p) p bkh dkh ([] : List Int)) hfit (by decide) hright (.inl rfl) p70 hkl ⟨by decide, by decide⟩ hw) ?_
     rintro e145 w143 ⟨mB141, md142, rfl, O144⟩
     refine gr (js := [9]) O144.mconsS fun O144 => ?_
     refine sg0 [.qs [9, 10, 11, 12], .o 13, .s 3 [9], .qs [14, 15], .z, .a (.r 2), .p 2] O144 fun w146 O147 => ?_
     refine gS (readOk (msg := [10, 5]) (mB := mB141) (md := md142) (r := r) O147 11 (by kernel_rfl) 1 (by kernel_rfl) (hasShk_shk (pvx a0g c0g a1g c1g amg cmg p) p bkg dkg ([] : List Int)) hfit (by decide) hright (.inr rfl) (Int.le_refl _) p70 hkl ⟨by decide, by decide⟩ (by decide) (kept2_thing 0 (by kernel_rfl) (by decide) (by decide) (rowI_holds (B := mB141) (d := md142) (l := [10, 5]))) hrd) fun w148 O149 => ?_
     refine sg0 [.p 4, .s 2 [], .p 19, .a (bT (show (([10, 5].length : Int) == 2) = true from rfl)), .p 5, .a (.r 9), .p 4, .a (.r 3), .p 1, .a (.r 2), .a (.e ((((8 : Int) == 8) && (((12 : Int) == 12) && ((((0 : Int) == 0) && ((false == false) && (((0 : Int) == 0) && true))) && true)))) true (by simp [])), .p 2, .a (.r 2)] O149 fun w151 O152 => ?_
     refine gi (args := #[.agg #[.int .i64 1, .int .i64 1, .int .i64 0, .string (strO p.name), .slice a0g p.pre0.length c0g, .slice a1g p.pre1.length c1g, .slice amg p.msgs.length cmg, .int .i64 2, .int .i64 0, .int .i64 0, .int .i64 10, .slice bkg (([] : List Int).length) dkg, .int .i64 8, .int .i64 12, .int .i64 0, .bool false, .int .u64 0]]) Tryz.func23 O152 fun O152i => ?_
     refine sg1 [.n [], .p 2, .a (.r 0), .p 1, .a (.r 0), .p 1, .a (.r 0)] O152i fun b153 w154 O155 => ?_
     refine gU (args := #[.agg #[.string (strO p.name), .slice a0g p.pre0.length c0g, .slice a1g p.pre1.length c1g, .slice amg p.msgs.length cmg], .int .i64 1, .int .i64 1]) (sendsX (role := 1) (n := 1) (is := true) O155 2 (by kernel_rfl) (hasShk_shk (pvx a0g c0g a1g c1g amg cmg p) p bkg dkg ([] : List Int)).hasPat hfit (by rw [hpx]; decide +kernel)) fun w156 O157 => ?_
     refine sg0 [.p 1] O157 fun w159 O160 => ?_
     refine gir [] O160 fun O161 => ?_
     refine sg0 [.p 2, .a (.r 4)] O161 fun w162 O163 => ?_
     refine gi (args := #[.agg #[.int .i64 0, .int .i64 1, .int .i64 0, .string (strO p.name), .slice a0h p.pre0.length c0h, .slice a1h p.pre1.length c1h, .slice amh p.msgs.length cmh, .int .i64 1, .int .i64 3, .int .i64 0, .int .i64 0, .slice bkh (([] : List Int).length) dkh, .int .i64 8, .int .i64 12, .int .i64 0, .bool false, .int .u64 0]]) Tryz.func23 O163 fun O163i => ?_
     refine sg1 [.n [], .p 2, .a (.r 0), .p 1, .a (.r 0), .p 1, .a (.r 0)] O163i fun b164 w165 O166 => ?_
     refine gU (args := #[.agg #[.string (strO p.name), .slice a0h p.pre0.length c0h, .slice a1h p.pre1.length c1h, .slice amh p.msgs.length cmh], .int .i64 0, .int .i64 1]) (sendsX (role := 0) (n := 1) (is := false) O166 6 (by kernel_rfl) (hasShk_shk (pvx a0h c0h a1h c1h amh cmh p) p bkh dkh ([] : List Int)).hasPat hfit (by rw [hpx]; decide +kernel)) fun w167 O168 => ?_
     refine sg0 [.p 1] O168 fun w170 O171 => ?_
     refine gir [] O171 fun O172 => ?_
     refine sg0 [.p 3, .a (.r 4)] O172 fun w173 O174 => ?_
     refine gi (args := #[.agg #[.int .i64 1, .int .i64 1, .int .i64 0, .string (strO p.name), .slice a0g p.pre0.length c0g, .slice a1g p.pre1.length c1g, .slice amg p.msgs.length cmg, .int .i64 2, .int .i64 0, .int .i64 0, .int .i64 10, .slice bkg (([] : List Int).length) dkg, .int .i64 8, .int .i64 12, .int .i64 0, .bool false, .int .u64 0]]) Tryz.func24 O174 fun O174i => ?_
     refine sg1 [.n [], .p 2, .a (.r 0), .p 2, .a (.r 0), .p 1, .a (bT (decide_eq_false (p := ((1 : Int) ≥ (p.msgs.length : Int))) (by omega))), .p 1] O174i fun b175 w176 O177 => ?_
     refine gir [] O177 fun O178 => ?_
     refine sg0 [.p 3] O178 fun w179 O180 => ?_
     exact gret [] O180 (⟨rfl, O180.as 17⟩)
 · intro O181
   refine sg1 [.n [5, 8], .o 6] O181 fun b182 w183 O184 => ?_
   refine gc (args := #[.pointer (some ⟨r, 0, none⟩), .agg #[.string (strO p.name), .slice q0 p.pre0.length d0, .slice q1 p.pre1.length d1, .slice qm p.msgs.length dm], .int .i64 0, .int .i64 0, .agg #[.int .i64 1, .int .i64 0, .int .i64 0, .int .i64 0, .slice none 0 0]]) (startX (.inl rfl) (psks := ([] : List Int)) (B := none) (dB := 0) (p := p) (A := A5) O184 7 (by kernel_rfl) (kept_pat (x := (pvx q0 d0 q1 d1 qm dm p)) 9 (by kernel_rfl) (by decide)) hfit henv.str (kept_old fun _ _ => .inl rfl) hkl hS0 hE0 hR0 hQ0 hs0) ?_
   rintro e187 w185 ⟨a0h, c0h, a1h, c1h, amh, cmh, bkh, dkh, rfl, O186⟩
   refine gr (js := [6, 9]) O186.mconsS fun O186 => ?_
   refine sg0 [.qs [7, 8, 9], .o 11, .s 1 [6, 9], .qs [12], .z, .d [6, 9], .qs [0], .q 1 (.r 1), .qs [2, 3], .q 4 (.r 0), .qs [5]] O186 fun w188 O189 => ?_
   refine gA [6, 10] O189 ⟨?_, ?_, trivial⟩
   · intro O190
     refine gc (args := #[.pointer (some ⟨r, 0, none⟩), .agg #[.string (strO p.name), .slice q0 p.pre0.length d0, .slice q1 p.pre1.length d1, .slice qm p.msgs.length dm], .int .i64 1, .int .i64 0, .agg #[.int .i64 2, .int .i64 0, .int .i64 0, .int .i64 0, .slice none 0 0]]) (startX (.inr rfl) (psks := ([] : List Int)) (B := none) (dB := 0) (p := p) (A := A6) O190 8 (by kernel_rfl) (kept_pat (x := (pvx q0 d0 q1 d1 qm dm p)) 10 (by kernel_rfl) (by decide)) hfit henv.str (kept_old fun _ _ => .inl rfl) hkl hS1 hE1 hR1 hQ1 hs1) ?_
     rintro e193 w191 ⟨a0g, c0g, a1g, c1g, amg, cmg, bkg, dkg, rfl, O192⟩
     refine gr (js := [7, 10]) O192.mconsS fun O192 => ?_
     refine sg1 [.qs [7, 8, 9], .o 10, .n [8, 11], .o 11, .s 0 [8, 11], .qs [12], .z, .d [8], .qs [1, 2, 3], .q 4 (.r 0), .qs [5, 6], .q 7 (.r 0), .o 0, .a (.r 3), .o 8] O192 fun b194 w195 O196 => ?_
     refine gc (writeOk (r := r) O196 10 (by kernel_rfl) 2 (by kernel_rfl) (hasShk_shk (pvx a0h c0h a1h c1h amh cmh p) p bkh dkh ([] : List Int)) hfit (by decide) hright (.inl rfl) p70 hkl ⟨by decide, by decide⟩ hw) ?_
     rintro e201 w199 ⟨mB197, md198, rfl, O200⟩
     refine gr (js := [9]) O200.mconsS fun O200 => ?_
     refine sg0 [.qs [9, 10, 11, 12], .o 13, .s 4 [9], .qs [14, 15], .z, .a (.r 1), .p 2] O200 fun w202 O203 => ?_
     refine gS (readOk (msg := [10, 5]) (mB := mB197) (md := md198) (r := r) O203 11 (by kernel_rfl) 2 (by kernel_rfl) (hasShk_shk (pvx a0g c0g a1g c1g amg cmg p) p bkg dkg ([] : List Int)) hfit (by decide) hright (.inr rfl) (Int.le_refl _) p70 hkl ⟨by decide, by decide⟩ (by decide) (kept2_thing 0 (by kernel_rfl) (by decide) (by decide) (rowI_holds (B := mB197) (d := md198) (l := [10, 5]))) hrd) fun w204 O205 => ?_
     refine sg0 [.p 4, .s 1 [], .p 19, .a (bT (show (([10, 5].length : Int) == 2) = true from rfl)), .p 5, .a (.r 9), .p 4, .a (.r 4), .p 1, .a (.r 1), .a (.e ((((8 : Int) == 8) && (((12 : Int) == 12) && ((((0 : Int) == 0) && ((false == false) && (((0 : Int) == 0) && true))) && true)))) true (by simp [])), .p 2, .a (.r 1)] O205 fun w207 O208 => ?_
     refine gi (args := #[.agg #[.int .i64 1, .int .i64 1, .int .i64 0, .string (strO p.name), .slice a0g p.pre0.length c0g, .slice a1g p.pre1.length c1g, .slice amg p.msgs.length cmg, .int .i64 2, .int .i64 0, .int .i64 0, .int .i64 10, .slice bkg (([] : List Int).length) dkg, .int .i64 8, .int .i64 12, .int .i64 0, .bool false, .int .u64 0]]) Tryz.func23 O208 fun O208i => ?_
     refine sg1 [.n [], .p 2, .a (.r 0), .p 1, .a (.r 0), .p 1, .a (.r 0)] O208i fun b209 w210 O211 => ?_
     refine gU (args := #[.agg #[.string (strO p.name), .slice a0g p.pre0.length c0g, .slice a1g p.pre1.length c1g, .slice amg p.msgs.length cmg], .int .i64 1, .int .i64 1]) (sendsX (role := 1) (n := 1) (is := true) O211 3 (by kernel_rfl) (hasShk_shk (pvx a0g c0g a1g c1g amg cmg p) p bkg dkg ([] : List Int)).hasPat hfit (by rw [hpx]; decide +kernel)) fun w212 O213 => ?_
     refine sg0 [.p 1] O213 fun w215 O216 => ?_
     refine gir [] O216 fun O217 => ?_
     refine sg0 [.p 2, .a (.r 5)] O217 fun w218 O219 => ?_
     refine gi (args := #[.agg #[.int .i64 0, .int .i64 1, .int .i64 0, .string (strO p.name), .slice a0h p.pre0.length c0h, .slice a1h p.pre1.length c1h, .slice amh p.msgs.length cmh, .int .i64 1, .int .i64 3, .int .i64 0, .int .i64 0, .slice bkh (([] : List Int).length) dkh, .int .i64 8, .int .i64 12, .int .i64 0, .bool false, .int .u64 0]]) Tryz.func23 O219 fun O219i => ?_
     refine sg1 [.n [], .p 2, .a (.r 0), .p 1, .a (.r 0), .p 1, .a (.r 0)] O219i fun b220 w221 O222 => ?_
     refine gU (args := #[.agg #[.string (strO p.name), .slice a0h p.pre0.length c0h, .slice a1h p.pre1.length c1h, .slice amh p.msgs.length cmh], .int .i64 0, .int .i64 1]) (sendsX (role := 0) (n := 1) (is := false) O222 5 (by kernel_rfl) (hasShk_shk (pvx a0h c0h a1h c1h amh cmh p) p bkh dkh ([] : List Int)).hasPat hfit (by rw [hpx]; decide +kernel)) fun w223 O224 => ?_
     refine sg0 [.p 1] O224 fun w226 O227 => ?_
     refine gir [] O227 fun O228 => ?_
     refine sg0 [.p 3, .a (.r 3)] O228 fun w229 O230 => ?_
     refine gi (args := #[.agg #[.int .i64 1, .int .i64 1, .int .i64 0, .string (strO p.name), .slice a0g p.pre0.length c0g, .slice a1g p.pre1.length c1g, .slice amg p.msgs.length cmg, .int .i64 2, .int .i64 0, .int .i64 0, .int .i64 10, .slice bkg (([] : List Int).length) dkg, .int .i64 8, .int .i64 12, .int .i64 0, .bool false, .int .u64 0]]) Tryz.func24 O230 fun O230i => ?_
     refine sg1 [.n [], .p 2, .a (.r 0), .p 2, .a (.r 0), .p 1, .a (bT (decide_eq_false (p := ((1 : Int) ≥ (p.msgs.length : Int))) (by omega))), .p 1] O230i fun b231 w232 O233 => ?_
     refine gir [] O233 fun O234 => ?_
     refine sg0 [.p 3] O234 fun w235 O236 => ?_
     exact gret [] O236 (⟨rfl, O236.as 17⟩)
   · intro O237
     refine sg1 [.n [7, 10], .o 6] O237 fun b238 w239 O240 => ?_
     refine gc (args := #[.pointer (some ⟨r, 0, none⟩), .agg #[.string (strO p.name), .slice q0 p.pre0.length d0, .slice q1 p.pre1.length d1, .slice qm p.msgs.length dm], .int .i64 1, .int .i64 0, .agg #[.int .i64 2, .int .i64 0, .int .i64 0, .int .i64 0, .slice none 0 0]]) (startX (.inr rfl) (psks := ([] : List Int)) (B := none) (dB := 0) (p := p) (A := A6) O240 9 (by kernel_rfl) (kept_pat (x := (pvx q0 d0 q1 d1 qm dm p)) 11 (by kernel_rfl) (by decide)) hfit henv.str (kept_old fun _ _ => .inl rfl) hkl hS1 hE1 hR1 hQ1 hs1) ?_
     rintro e243 w241 ⟨a0g, c0g, a1g, c1g, amg, cmg, bkg, dkg, rfl, O242⟩
     refine gr (js := [8, 11]) O242.mconsS fun O242 => ?_
     refine sg0 [.qs [7, 8, 9], .o 11, .s 1 [8, 11], .qs [12], .z, .d [8], .qs [1, 2, 3], .q 4 (.r 0), .qs [5, 6], .q 7 (.r 0), .o 0, .a (.r 3), .o 8] O242 fun w244 O245 => ?_
     refine gc (writeOk (r := r) O245 10 (by kernel_rfl) 2 (by kernel_rfl) (hasShk_shk (pvx a0h c0h a1h c1h amh cmh p) p bkh dkh ([] : List Int)) hfit (by decide) hright (.inl rfl) p70 hkl ⟨by decide, by decide⟩ hw) ?_
     rintro e250 w248 ⟨mB246, md247, rfl, O249⟩
     refine gr (js := [9]) O249.mconsS fun O249 => ?_
     refine sg0 [.qs [9, 10, 11, 12], .o 13, .s 4 [9], .qs [14, 15], .z, .a (.r 2), .p 2] O249 fun w251 O252 => ?_
     refine gS (readOk (msg := [10, 5]) (mB := mB246) (md := md247) (r := r) O252 11 (by kernel_rfl) 1 (by kernel_rfl) (hasShk_shk (pvx a0g c0g a1g c1g amg cmg p) p bkg dkg ([] : List Int)) hfit (by decide) hright (.inr rfl) (Int.le_refl _) p70 hkl ⟨by decide, by decide⟩ (by decide) (kept2_thing 0 (by kernel_rfl) (by decide) (by decide) (rowI_holds (B := mB246) (d := md247) (l := [10, 5]))) hrd) fun w253 O254 => ?_
     refine sg0 [.p 4, .s 2 [], .p 19, .a (bT (show (([10, 5].length : Int) == 2) = true from rfl)), .p 5, .a (.r 9), .p 4, .a (.r 4), .p 1, .a (.r 2), .a (.e ((((8 : Int) == 8) && (((12 : Int) == 12) && ((((0 : Int) == 0) && ((false == false) && (((0 : Int) == 0) && true))) && true)))) true (by simp [])), .p 2, .a (.r 2)] O254 fun w256 O257 => ?_
     refine gi (args := #[.agg #[.int .i64 1, .int .i64 1, .int .i64 0, .string (strO p.name), .slice a0g p.pre0.length c0g, .slice a1g p.pre1.length c1g, .slice amg p.msgs.length cmg, .int .i64 2, .int .i64 0, .int .i64 0, .int .i64 10, .slice bkg (([] : List Int).length) dkg, .int .i64 8, .int .i64 12, .int .i64 0, .bool false, .int .u64 0]]) Tryz.func23 O257 fun O257i => ?_
     refine sg1 [.n [], .p 2, .a (.r 0), .p 1, .a (.r 0), .p 1, .a (.r 0)] O257i fun b258 w259 O260 => ?_
     refine gU (args := #[.agg #[.string (strO p.name), .slice a0g p.pre0.length c0g, .slice a1g p.pre1.length c1g, .slice amg p.msgs.length cmg], .int .i64 1, .int .i64 1]) (sendsX (role := 1) (n := 1) (is := true) O260 2 (by kernel_rfl) (hasShk_shk (pvx a0g c0g a1g c1g amg cmg p) p bkg dkg ([] : List Int)).hasPat hfit (by rw [hpx]; decide +kernel)) fun w261 O262 => ?_
     refine sg0 [.p 1] O262 fun w264 O265 => ?_
     refine gir [] O265 fun O266 => ?_
     refine sg0 [.p 2, .a (.r 5)] O266 fun w267 O268 => ?_
     refine gi (args := #[.agg #[.int .i64 0, .int .i64 1, .int .i64 0, .string (strO p.name), .slice a0h p.pre0.length c0h, .slice a1h p.pre1.length c1h, .slice amh p.msgs.length cmh, .int .i64 1, .int .i64 3, .int .i64 0, .int .i64 0, .slice bkh (([] : List Int).length) dkh, .int .i64 8, .int .i64 12, .int .i64 0, .bool false, .int .u64 0]]) Tryz.func23 O268 fun O268i => ?_
     refine sg1 [.n [], .p 2, .a (.r 0), .p 1, .a (.r 0), .p 1, .a (.r 0)] O268i fun b269 w270 O271 => ?_
     refine gU (args := #[.agg #[.string (strO p.name), .slice a0h p.pre0.length c0h, .slice a1h p.pre1.length c1h, .slice amh p.msgs.length cmh], .int .i64 0, .int .i64 1]) (sendsX (role := 0) (n := 1) (is := false) O271 5 (by kernel_rfl) (hasShk_shk (pvx a0h c0h a1h c1h amh cmh p) p bkh dkh ([] : List Int)).hasPat hfit (by rw [hpx]; decide +kernel)) fun w272 O273 => ?_
     refine sg0 [.p 1] O273 fun w275 O276 => ?_
     refine gir [] O276 fun O277 => ?_
     refine sg0 [.p 3, .a (.r 4)] O277 fun w278 O279 => ?_
     refine gi (args := #[.agg #[.int .i64 1, .int .i64 1, .int .i64 0, .string (strO p.name), .slice a0g p.pre0.length c0g, .slice a1g p.pre1.length c1g, .slice amg p.msgs.length cmg, .int .i64 2, .int .i64 0, .int .i64 0, .int .i64 10, .slice bkg (([] : List Int).length) dkg, .int .i64 8, .int .i64 12, .int .i64 0, .bool false, .int .u64 0]]) Tryz.func24 O279 fun O279i => ?_
     refine sg1 [.n [], .p 2, .a (.r 0), .p 2, .a (.r 0), .p 1, .a (bT (decide_eq_false (p := ((1 : Int) ≥ (p.msgs.length : Int))) (by omega))), .p 1] O279i fun b280 w281 O282 => ?_
     refine gir [] O282 fun O283 => ?_
     refine sg0 [.p 3] O283 fun w284 O285 => ?_
     exact gret [] O285 (⟨rfl, O285.as 17⟩)
end Go.Proofs.YtikimmgileffgaaGreatDoor
end
/- Arguments opened: a slice of nodes, as the cells that it holds. Any program. -/
section
namespace Go.Proofs.YtikimmgileffgaaGreatDoor
open Go.ChangeShapes Go.WideShapes Go.ChangeAt Go.RowKit Go.Deep

section
variable {H : Type} {enc : TypeId × Value → H} {P : Program} {w : World} {base : Nat} {spare : Nat → Bool} {held : Bool}
def Nd.u64 (x : Nd) : Prop := 0 ≤ x.n ∧ x.n ≤ 18446744073709551615
end
end Go.Proofs.YtikimmgileffgaaGreatDoor
end
/- An argument opened: a struct of two structs of an int, a bool and a uint64. Any program. -/
section
namespace Go.Proofs.YtikimmgileffgaaGreatDoor
open Go.ChangeShapes Go.WideShapes Go.ChangeAt Go.RowKit Go.Deep

section
variable {H : Type} {enc : TypeId × Value → H} {P : Program} {w : World} {base : Nat} {spare : Nat → Bool} {held : Bool}
end
end Go.Proofs.YtikimmgileffgaaGreatDoor
end
/- Arguments opened: patterns of messages, and what holds one. Any program. -/
section
namespace Go.Proofs.YtikimmgileffgaaGreatDoor
open Go.ChangeShapes Go.WideShapes Go.ChangeAt Go.RowKit Go.Deep

section
variable {H : Type} {enc : TypeId × Value → H} {P : Program} {w : World} {base : Nat} {spare : Nat → Bool} {held : Bool}
theorem ints_of {t e : TypeId} {k : IntKind} {fuel : Nat} {v : Value} {x : DataW H × List MemPlace} (ht : P.underlying t = some (.slice e)) (he : P.underlying e = some (.int k)) (hce : P.cellsOf e = 1) (h : DataW.trod enc P w base spare held fuel t [v] = some x) :
    ∃ (A : Option Addr) (c : Nat) (xs : List Int), v = .slice A xs.length c ∧ Holds w A (xs.map (Value.int k)) ∧ xs.length ≤ maxLen ∧ ∀ x ∈ xs, (Lit.int k x).wf = true := by
  rcases open_ints ht he hce h with ⟨hcs, _⟩ | ⟨x, l, c, zs, hcs, _, hl, hm, hz, _, hcell, hwz⟩
  · simp only [List.cons.injEq, and_true] at hcs
    exact ⟨none, 0, [], hcs, .inl rfl, Nat.zero_le _, by simp⟩
  · simp only [List.cons.injEq, and_true] at hcs
    have hlz : l ≤ zs.length := by rw [hz]; split <;> omega
    refine ⟨some x, c, zs.take l, by rw [List.length_take, Nat.min_eq_left hlz]; exact hcs, holds_of_index fun i v hi => ?_, by rw [List.length_take]; omega, fun y hy => hwz y (List.mem_of_mem_take hy)⟩
    rw [List.getElem?_map, List.getElem?_take] at hi
    split at hi
    · have hi2 : i < zs.length := by omega
      have := hcell i hi2
      rw [List.getElem?_eq_getElem hi2] at hi
      simp only [Option.map_some, Option.some.injEq] at hi
      rw [this, ← hi]; simp [List.getD, hi2]
    · simp at hi
theorem intsIn_of {t e : TypeId} {fuel : Nat} {v : Value} {x : DataW H × List MemPlace} (ht : P.underlying t = some (.slice e)) (he : P.underlying e = some (.int .i64)) (hce : P.cellsOf e = 1) (h : DataW.trod enc P w base spare held fuel t [v] = some x) :
    ∃ (A : Option Addr) (c : Nat) (l : List Int), v = .slice A l.length c ∧ IntsIn w (Old w) v l ∧ l.length ≤ maxLen := by
  obtain ⟨A, c, l, h1, h2, h3, -⟩ := ints_of ht he hce h
  exact ⟨A, c, l, h1, ⟨A, c, h1, h2, fun hne a ha => holds_lt h2 (by simpa using hne) a ha⟩, h3⟩
theorem msgs_of {t e q : TypeId} {f0 f1 : Field} {fuel : Nat} {v : Value} {x : DataW H × List MemPlace} (ht : P.underlying t = some (.slice e)) (he : P.underlying e = some (.struct #[f0, f1])) (h0 : P.underlying f0.type = some (.int .i64)) (h1 : P.underlying f1.type = some (.slice q)) (hq : P.underlying q = some (.int .i64)) (hcq : P.cellsOf q = 1)
    (hone : oneCellFields P #[f0, f1] = true) (hC : P.cellsOf e = 2) (h : DataW.trod enc P w base spare held fuel t [v] = some x) :
    ∃ (A : Option Addr) (c : Nat) (l : List Msg), v = .slice A l.length c ∧ MsgsIn w (Old w) A l ∧ l.length ≤ maxLen ∧ ∀ m ∈ l, m.t.length ≤ maxLen := by
  rcases open_slice_fields ht he hone hC h with ⟨hcs, _⟩ | ⟨x, l, c, m, D, Pl, hcs, _, hl, hm, hmm, _, hi⟩
  · simp only [List.cons.injEq, and_true] at hcs
    exact ⟨none, 0, [], hcs, .inl rfl, Nat.zero_le _, by simp⟩
  · simp only [List.cons.injEq, and_true] at hcs
    have hlm : l ≤ m := by rw [hmm]; split <;> omega
    obtain ⟨os, hrl, hr⟩ := list_of_index (n := l) (p := fun i (o : Msg) => w.cell? (x.add (i * 2)) = some (.int .i64 o.frm) ∧ (∃ vt, w.cell? (x.add (i * 2 + 1)) = some vt ∧ IntsIn w (Old w) vt o.t) ∧ o.t.length ≤ maxLen) (fun i hil => by
      obtain ⟨ys, n, _, _, _, hf⟩ := hi i (by omega)
      obtain ⟨v0, y0, hc0, _, ht0⟩ := hf 0 f0 rfl
      obtain ⟨v1, y1, hc1, _, ht1⟩ := hf 1 f1 rfl
      obtain ⟨a, e0, _, _⟩ := DataW.trod_int h0 ht0
      obtain ⟨A1, c1, l1, e1, e2, e3⟩ := intsIn_of h1 hq hcq ht1
      simp only [List.cons.injEq, and_true] at e0
      subst e0
      exact ⟨⟨a, l1⟩, hc0, ⟨v1, hc1, e2⟩, e3⟩)
    refine ⟨some x, c, os, by rw [hrl]; exact hcs, ?_, by omega, fun o ho => ?_⟩
    · match os, hr with
      | [], _ => exact .inl rfl
      | o :: r, hr =>
        have h00 := (hr 0 o rfl).1
        simp only [Addr.add, Nat.zero_mul, if_true] at h00
        obtain ⟨b, off, rfl⟩ := add_of_cell h00
        refine .inr ⟨b, off, rfl, World.block_lt_of_cell? w _ h00, fun i m hm => ?_⟩
        obtain ⟨q1, ⟨vt, q2, q3⟩, _⟩ := hr i m hm
        rw [add_off] at q1 q2
        exact ⟨q1, vt, q2, q3⟩
    · obtain ⟨i, hi1⟩ := List.getElem?_of_mem ho
      exact (hr i o hi1).2.2
theorem fld_of {fs : Array Field} {xs : List (DataW H × List MemPlace)} {i : Nat} {f : Field} (hx : xs.length = fs.size) (hi : fs[i]? = some f) {fuel : Nat} {cs : List Value} (h : DataW.trod enc P w base spare held fuel f.type cs = xs[i]?) : ∃ y, DataW.trod enc P w base spare held fuel f.type cs = some y := by
  have hl : i < xs.length := by rw [hx]; exact (Array.getElem?_eq_some_iff.1 hi).1
  exact ⟨xs[i], by rw [h]; exact List.getElem?_eq_getElem hl⟩
/-- A pattern: its four cells. -/
theorem pat_of {t sl ar ml me : TypeId} {i64 : TypeId} {g0 g1 g2 f0 f1 : Field} {fuel : Nat} {c0 c1 c2 c3 : Value} {x : DataW H × List MemPlace} (hs : P.underlying t = some (.struct #[g0, g1, g2])) (hn : P.underlying g0.type = some .string) (ha : P.underlying g1.type = some (.array 2 sl)) (hsl : P.underlying sl = some (.slice i64)) (hi64 : P.underlying i64 = some (.int .i64)) (hm : P.underlying g2.type = some (.slice me)) (hme : P.underlying me = some (.struct #[f0, f1])) (h0 : P.underlying f0.type = some (.int .i64)) (h1 : P.underlying f1.type = some (.slice i64))
    (hone : oneCellFields P #[f0, f1] = true) (o : (g0.offset, g1.offset, g2.offset, P.cellsOf g0.type, P.cellsOf g1.type, P.cellsOf g2.type, P.cellsOf sl, P.cellsOf i64, P.cellsOf me) = (0, 1, 3, 1, 2, 1, 1, 1, 2)) (h : DataW.trod enc P w base spare held fuel t [c0, c1, c2, c3] = some x) :
    ∃ (p : Pat) (a0 : Option Addr) (n0 : Nat) (a1 : Option Addr) (n1 : Nat) (am : Option Addr) (nm : Nat), c0 = .string (strO p.name) ∧ c1 = .slice a0 p.pre0.length n0 ∧ c2 = .slice a1 p.pre1.length n1 ∧ c3 = .slice am p.msgs.length nm ∧ PatIn w (Old w) (pvx a0 n0 a1 n1 am nm p) p ∧ PatFits p := by
  simp only [Prod.mk.injEq] at o
  obtain ⟨o0, o1, o2, k0, k1, k2, k3, k4, k5⟩ := o
  obtain ⟨y0, y1, y2, n, _, _, t0, t1, t2⟩ := trod_struct3 hs h
  rw [o0, k0] at t0
  rw [o1, k1] at t1
  rw [o2, k2] at t2
  simp only [List.drop_zero, List.drop_succ_cons, List.take_succ_cons, List.take_zero] at t0 t1 t2
  obtain ⟨s, e0, _, hsz⟩ := DataW.trod_string hn t0
  simp only [List.cons.injEq, and_true] at e0
  obtain ⟨ys, m, _, _, _, hy, ty⟩ := DataW.trod_array ha t1
  have ty0 := ty 0 (by decide)
  have ty1 := ty 1 (by decide)
  rw [k3] at ty0 ty1
  simp only [Nat.zero_mul, Nat.one_mul, List.drop_zero, List.drop_succ_cons, List.take_succ_cons, List.take_zero] at ty0 ty1
  rw [List.getElem?_eq_getElem (show 0 < ys.length by omega)] at ty0
  rw [List.getElem?_eq_getElem (show 1 < ys.length by omega)] at ty1
  obtain ⟨a0, n0, l0, u0, v0, w0⟩ := intsIn_of hsl hi64 k4 ty0
  obtain ⟨a1, n1, l1, u1, v1, w1⟩ := intsIn_of hsl hi64 k4 ty1
  obtain ⟨am, nm, lm, um, vm, wm, xm⟩ := msgs_of hm hme h0 h1 hi64 k4 hone k5 t2
  have hmax : maxLen ≤ 9223372036854775807 := by unfold maxLen; omega
  subst u0 u1 um e0
  refine ⟨⟨s.data.toList, l0, l1, lm⟩, a0, n0, a1, n1, am, nm, by rw [strO_toList], rfl, rfl, rfl, ⟨v0, v1, vm⟩, ⟨?_, Nat.le_trans w0 hmax, Nat.le_trans w1 hmax, Nat.le_trans wm hmax, fun m hm => Nat.le_trans (xm m hm) hmax⟩⟩
  have : s.data.toList.length = s.size := Array.length_toList
  show s.data.toList.length ≤ _
  omega
theorem array8 {α : Type} {a : Array α} (h : a.size = 8) : ∃ a0 a1 a2 a3 a4 a5 a6 a7, a = #[a0, a1, a2, a3, a4, a5, a6, a7] := by
  obtain ⟨l⟩ := a
  simp only [List.size_toArray] at h
  match l, h with
  | [a0, a1, a2, a3, a4, a5, a6, a7], _ => exact ⟨a0, a1, a2, a3, a4, a5, a6, a7, rfl⟩
/-- Law 12's argument. -/
theorem open_two {r : Reach} {b0 : Nat} {t sl me i64 u64 : TypeId} {f0 f1 f2 f3 f4 g0 g1 g2 m0 m1 : Field} {v : Value} {d : DataW H} {p : List MemPlace} (ht : P.underlying t = some (.struct #[f0, f1, f2, f3, f4])) (hs : P.underlying f0.type = some (.struct #[g0, g1, g2])) (hn : P.underlying g0.type = some .string) (ha : P.underlying g1.type = some (.array 2 sl)) (hsl : P.underlying sl = some (.slice i64)) (hi64 : P.underlying i64 = some (.int .i64)) (hm : P.underlying g2.type = some (.slice me)) (hme : P.underlying me = some (.struct #[m0, m1])) (h0 : P.underlying m0.type = some (.int .i64)) (h1 : P.underlying m1.type = some (.slice i64))
    (hu : P.underlying f1.type = some (.slice u64)) (hu64 : P.underlying u64 = some (.int .u64)) (h2 : P.underlying f2.type = some (.int .i64)) (h3 : P.underlying f3.type = some (.int .u8)) (h4 : P.underlying f4.type = some (.int .u8))
    (hone : oneCellFields P #[m0, m1] = true) (o : (g0.offset, g1.offset, g2.offset, P.cellsOf g0.type, P.cellsOf g1.type, P.cellsOf g2.type, P.cellsOf sl, P.cellsOf i64, P.cellsOf me) = (0, 1, 3, 1, 2, 1, 1, 1, 2))
    (o' : (P.cellsOf t, f0.offset, f1.offset, f2.offset, f3.offset, f4.offset, P.cellsOf f0.type, P.cellsOf f1.type, P.cellsOf f2.type, P.cellsOf f3.type, P.cellsOf f4.type, P.cellsOf u64) = (8, 0, 4, 5, 6, 7, 4, 1, 1, 1, 1, 1))
    (hv : Value.okWide P w r b0 t v) (h : DataW.Trod enc P w base spare held t v d p) :
    ∃ (p : Pat) (a0 : Option Addr) (c0 : Nat) (a1 : Option Addr) (c1 : Nat) (am : Option Addr) (cm : Nat) (uB : Option Addr) (ud : Nat) (us : List Int) (lim ams chg : Int),
      v = .agg #[.string (strO p.name), .slice a0 p.pre0.length c0, .slice a1 p.pre1.length c1, .slice am p.msgs.length cm, .slice uB us.length ud, .int .i64 lim, .int .u8 ams, .int .u8 chg] ∧ PatIn w (Old w) (pvx a0 c0 a1 c1 am cm p) p ∧ PatFits p ∧ Holds w uB (us.map (Value.int .u64)) ∧ us.length ≤ maxLen ∧ (∀ u ∈ us, 0 ≤ u ∧ u ≤ 18446744073709551615) ∧ (0 ≤ ams ∧ ams ≤ 255) ∧ 0 ≤ chg ∧ chg ≤ 255 := by
  simp only [Prod.mk.injEq] at o'
  obtain ⟨q0, p0, p1, p2, p3, p4, s0, s1, s2, s3, s4, s5⟩ := o'
  obtain ⟨cs, rfl, hsz⟩ := okWide_struct ht hv
  obtain ⟨c0, c1, c2, c3, c4, c5, c6, c7, rfl⟩ := array8 (hsz.trans q0)
  obtain ⟨fuel, hf⟩ := h
  obtain ⟨xs, n, _, _, _, hx, hfs⟩ := DataW.trod_struct ht hf
  have t0 := hfs 0 f0 rfl
  have t1 := hfs 1 f1 rfl
  have t2 := hfs 2 f2 rfl
  have t3 := hfs 3 f3 rfl
  have t4 := hfs 4 f4 rfl
  rw [p0, s0] at t0
  rw [p1, s1] at t1
  rw [p2, s2] at t2
  rw [p3, s3] at t3
  rw [p4, s4] at t4
  simp only [Value.cells, List.drop_zero, List.drop_succ_cons, List.take_succ_cons, List.take_zero] at t0 t1 t2 t3 t4
  obtain ⟨y0, t0⟩ := fld_of (i := 0) hx rfl t0
  obtain ⟨y1, t1⟩ := fld_of (i := 1) hx rfl t1
  obtain ⟨y2, t2⟩ := fld_of (i := 2) hx rfl t2
  obtain ⟨y3, t3⟩ := fld_of (i := 3) hx rfl t3
  obtain ⟨y4, t4⟩ := fld_of (i := 4) hx rfl t4
  obtain ⟨p, a0, n0, a1, n1, am, nm, e0, e1, e2, e3, hp, hfit⟩ := pat_of (ml := g2.type) (ar := g1.type) hs hn ha hsl hi64 hm hme h0 h1 hone o t0
  obtain ⟨uB, ud, us, e4, hU, hul, hus⟩ := ints_of hu hu64 s5 t1
  obtain ⟨lim, e5, _, _⟩ := DataW.trod_int h2 t2
  obtain ⟨ams, e6, _, b6⟩ := DataW.trod_int h3 t3
  obtain ⟨chg, e7, _, b7⟩ := DataW.trod_int h4 t4
  simp only [List.cons.injEq, and_true] at e5 e6 e7
  subst e0 e1 e2 e3 e4 e5 e6 e7
  exact ⟨p, a0, n0, a1, n1, am, nm, uB, ud, us, lim, ams, chg, rfl, hp, hfit, hU, hul, fun u hu => ⟨(bounds_u64 (hus u hu)).1, (bounds_u64 (hus u hu)).2⟩, bounds_u8 b6, bounds_u8 b7⟩
end
end Go.Proofs.YtikimmgileffgaaGreatDoor
end
