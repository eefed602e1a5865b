/- Packed for this claim by packm.py: LawC. -/
import Derived.Test.YtikimmgileffgaaGreatDoorPk33
namespace Go.Proofs.YtikimmgileffgaaGreatDoor
open Go.RowKit
set_option warningAsError false in
set_option maxRecDepth 100000 in
set_option maxHeartbeats 8000000 in
theorem both_none {w : World} {a0 a1 am uB : Option Addr} {c0 c1 cm ud : Nat} {p : Pat} {us K : List Int} {lim ams chg : Int} {At : Ar} {rs0 re0 rs1 re1 : Int} (henv : EnvB w) (hp : PatIn w (Old w) (pvx a0 c0 a1 c1 am cm p) p) (hfit : PatFits p) (hU : Holds w uB (u64V us)) (hus : ∀ u ∈ us, U64 u) (hno : ¬ (fewP p = true ∧ us.length ≤ 10)) :
    Calls Tryz.prog 5 #[.agg #[.string (strO p.name), .slice a0 p.pre0.length c0, .slice a1 p.pre1.length c1, .slice am p.msgs.length cm, .slice uB us.length ud, .int .i64 lim, .int .u8 ams, .int .u8 chg]] w (fun e' w' => e' = .returned (.bool true) ∧ Below w.heap.size w w') := by
 have O0 := Own.start w
 replace O0 : Own w w (List.map Ent.t []) := O0
 refine gent O0 Tryz.func5 ?_
 refine sg1 [.n [], .p 1, .a (.r 0)] O0 fun b1 w2 O3 => ?_
 refine gU (args := #[.agg #[.string (strO p.name), .slice a0 p.pre0.length c0, .slice a1 p.pre1.length c1, .slice am p.msgs.length cm, .slice uB us.length ud, .int .i64 lim, .int .u8 ams, .int .u8 chg]]) (arenasN O3 hp hfit hno hU hus) fun w4 O5 => ?_
 refine sg3 [.p 6, .n [], .n [], .n [], .p 1, .s 2 [], .s 1 [], .s 0 [], .p 10] O5 fun b7 b8 b9 w10 O11 => ?_
 refine gU (args := #[]) (awake12E O11 henv) fun w12 O13 => ?_
 refine sg0 [.p 1] O13 fun w15 O16 => ?_
 exact gret [] O16 (⟨rfl, O16.below⟩)
set_option warningAsError false in
set_option maxRecDepth 100000 in
set_option maxHeartbeats 8000000 in
theorem both_anon {w : World} {a0 a1 am uB : Option Addr} {c0 c1 cm ud : Nat} {p : Pat} {us K : List Int} {lim ams chg : Int} {At : Ar} {rs0 re0 rs1 re1 : Int} (henv : EnvB w) (hp : PatIn w (Old w) (pvx a0 c0 a1 c1 am cm p) p) (hfit : PatFits p) (hU : Holds w uB (u64V us)) (hus : ∀ u ∈ us, U64 u) (hfew : fewP p = true) (hul : us.length ≤ 10) (ht : twoC us = ⟨At, rs0, re0, K, rs1, re1, K⟩) (hname : (((strO p.name) : ByteArray).toList == (⟨#[]⟩ : ByteArray).toList) = true) :
    Calls Tryz.prog 5 #[.agg #[.string (strO p.name), .slice a0 p.pre0.length c0, .slice a1 p.pre1.length c1, .slice am p.msgs.length cm, .slice uB us.length ud, .int .i64 lim, .int .u8 ams, .int .u8 chg]] w (fun e' w' => e' = .returned (.bool true) ∧ Below w.heap.size w w') := by
 have O0 := Own.start w
 replace O0 : Own w w (List.map Ent.t []) := O0
 refine gent O0 Tryz.func5 ?_
 refine sg1 [.n [], .p 1, .a (.r 0)] O0 fun b1 w2 O3 => ?_
 refine gc (args := #[.agg #[.string (strO p.name), .slice a0 p.pre0.length c0, .slice a1 p.pre1.length c1, .slice am p.msgs.length cm, .slice uB us.length ud, .int .i64 lim, .int .u8 ams, .int .u8 chg]]) (arenasY O3 hp hfit hfew hul hU hus ht) ?_
 rintro e6 w4 ⟨r, g0, d0, g1, d1, B0, e0, B1, e1, nB, nm, nd_, rfl, O5⟩
 refine gr (O5.frontE [.thing (arena r At), .thing (rowT 3 1 (.slice (some ⟨g0, 0, none⟩) 14 d0) 14 (intsV s100)), .thing (rowT 3 1 (.slice (some ⟨g1, 0, none⟩) 14 d1) 14 (intsV s200)), .thing (rowT 3 1 (.slice B0 K.length e0) K.length (intsV K)), .thing (rowT 3 1 (.slice B1 K.length e1) K.length (intsV K))]) fun O7 => ?_
 refine gL 1 (.row 3 1 g0 14 d0 [.int .i64 1, .int .i64 2, .int .i64 3, .int .i64 4, .int .i64 5, .int .i64 6, .int .i64 7, .int .i64 8, .int .i64 9, .int .i64 10, .int .i64 11, .int .i64 12, .int .i64 13, .int .i64 14]) O7 fun O8 => ?_
 refine gL 2 (.row 3 1 g1 14 d1 [.int .i64 15, .int .i64 16, .int .i64 17, .int .i64 18, .int .i64 19, .int .i64 20, .int .i64 21, .int .i64 22, .int .i64 23, .int .i64 24, .int .i64 25, .int .i64 26, .int .i64 27, .int .i64 28]) O8 fun O9 => ?_
 refine sg3 [.p 6, .n [], .n [], .n [], .p 1, .s 2 [], .s 1 [], .s 0 [], .p 6, .a (.r 8), .a (bT hname), .p 2] O9 fun b10 b11 b12 w13 O14 => ?_
 refine gU (args := #[]) (awake12E O14 henv) fun w15 O16 => ?_
 refine sg0 [.p 1] O16 fun w18 O19 => ?_
 exact gret [] O19 (⟨rfl, O19.below⟩)
set_option warningAsError false in
set_option maxRecDepth 100000 in
set_option maxHeartbeats 8000000 in
theorem both_why {w : World} {a0 a1 am uB : Option Addr} {c0 c1 cm ud : Nat} {p : Pat} {us K : List Int} {lim ams chg : Int} {At : Ar} {rs0 re0 rs1 re1 : Int} (henv : EnvB w) (hp : PatIn w (Old w) (pvx a0 c0 a1 c1 am cm p) p) (hfit : PatFits p) (hU : Holds w uB (u64V us)) (hus : ∀ u ∈ us, U64 u) (hfew : fewP p = true) (hul : us.length ≤ 10) (ht : twoC us = ⟨At, rs0, re0, K, rs1, re1, K⟩) (hname : (((strO p.name) : ByteArray).toList == (⟨#[]⟩ : ByteArray).toList) = false) (hkl : K.length * 8 ≤ 140737488355328) {W : Int} (hW : ¬ W = 0) (hs0 : startC At p 0 0 ⟨1, 2, rs0, re0, K⟩ = (At, Sy.zero, W)) (hs1 : startC At p 1 0 ⟨15, 16, rs1, re1, K⟩ = (At, Sy.zero, W)) :
    Calls Tryz.prog 5 #[.agg #[.string (strO p.name), .slice a0 p.pre0.length c0, .slice a1 p.pre1.length c1, .slice am p.msgs.length cm, .slice uB us.length ud, .int .i64 lim, .int .u8 ams, .int .u8 chg]] w (fun e' w' => e' = .returned (.bool true) ∧ Below w.heap.size w w') := by
 have O0 := Own.start w
 replace O0 : Own w w (List.map Ent.t []) := O0
 refine gent O0 Tryz.func5 ?_
 refine sg1 [.n [], .p 1, .a (.r 0)] O0 fun b1 w2 O3 => ?_
 refine gc (args := #[.agg #[.string (strO p.name), .slice a0 p.pre0.length c0, .slice a1 p.pre1.length c1, .slice am p.msgs.length cm, .slice uB us.length ud, .int .i64 lim, .int .u8 ams, .int .u8 chg]]) (arenasY O3 hp hfit hfew hul hU hus ht) ?_
 rintro e6 w4 ⟨r, g0, d0, g1, d1, B0, e0, B1, e1, nB, nm, nd_, rfl, O5⟩
 refine gr (O5.frontE [.thing (arena r At), .thing (rowT 3 1 (.slice (some ⟨g0, 0, none⟩) 14 d0) 14 (intsV s100)), .thing (rowT 3 1 (.slice (some ⟨g1, 0, none⟩) 14 d1) 14 (intsV s200)), .thing (rowT 3 1 (.slice B0 K.length e0) K.length (intsV K)), .thing (rowT 3 1 (.slice B1 K.length e1) K.length (intsV K))]) fun O7 => ?_
 refine gL 1 (.row 3 1 g0 14 d0 [.int .i64 1, .int .i64 2, .int .i64 3, .int .i64 4, .int .i64 5, .int .i64 6, .int .i64 7, .int .i64 8, .int .i64 9, .int .i64 10, .int .i64 11, .int .i64 12, .int .i64 13, .int .i64 14]) O7 fun O8 => ?_
 refine gL 2 (.row 3 1 g1 14 d1 [.int .i64 15, .int .i64 16, .int .i64 17, .int .i64 18, .int .i64 19, .int .i64 20, .int .i64 21, .int .i64 22, .int .i64 23, .int .i64 24, .int .i64 25, .int .i64 26, .int .i64 27, .int .i64 28]) O8 fun O9 => ?_
 refine sg3 [.p 6, .n [], .n [], .n [], .p 1, .s 2 [], .s 1 [], .s 0 [], .p 6, .a (.r 8), .a (bT hname), .p 4, .a (.r 8), .p 1, .a (.r 0)] O9 fun b10 b11 b12 w13 O14 => ?_
 refine gS (args := #[.pointer (some ⟨r, 0, none⟩), .agg #[.string (strO p.name), .slice a0 p.pre0.length c0, .slice a1 p.pre1.length c1, .slice am p.msgs.length cm], .int .i64 0, .int .i64 0, .agg #[.int .i64 1, .int .i64 2, .int .i64 rs0, .int .i64 re0, .slice B0 K.length e0]]) (startN (.inl rfl) (psks := K) (B := B0) (dB := e0) (p := p) (A := At) O14 3 (by kernel_rfl) (kept_old fun _ hb => hp.below hb) hfit henv.str (kept_thing 6 _ (by kernel_rfl) (by decide) (rowI_holds (B := B0) (d := e0) (l := K))) hkl hW hs0) fun w15 O16 => ?_
 refine sg1 [.p 3, .n [], .s 0 [], .p 3, .a (.r 9), .p 1, .a (.r 1)] O16 fun b18 w19 O20 => ?_
 refine gS (args := #[.pointer (some ⟨r, 0, none⟩), .agg #[.string (strO p.name), .slice a0 p.pre0.length c0, .slice a1 p.pre1.length c1, .slice am p.msgs.length cm], .int .i64 1, .int .i64 0, .agg #[.int .i64 15, .int .i64 16, .int .i64 rs1, .int .i64 re1, .slice B1 K.length e1]]) (startN (.inr rfl) (psks := K) (B := B1) (dB := e1) (p := p) (A := At) O20 4 (by kernel_rfl) (kept_old fun _ hb => hp.below hb) hfit henv.str (kept_thing 8 _ (by kernel_rfl) (by decide) (rowI_holds (B := B1) (d := e1) (l := K))) hkl hW hs1) fun w21 O22 => ?_
 refine sg1 [.p 3, .n [], .s 0 [], .p 2, .a (bT (bne_t hW)), .p 7, .a (bT (beq_self_eq_true (W : Int))), .p 1] O22 fun b24 w25 O26 => ?_
 refine gU (args := #[]) (awake12E O26 henv) fun w27 O28 => ?_
 refine sg0 [.p 2] O28 fun w30 O31 => ?_
 exact gret [] O31 (⟨rfl, O31.below⟩)
set_option warningAsError false in
set_option maxRecDepth 100000 in
set_option maxHeartbeats 8000000 in
theorem both_all {w : World} {a0 a1 am uB : Option Addr} {c0 c1 cm ud : Nat} {p : Pat} {us K : List Int} {lim ams chg : Int} {At : Ar} {rs0 re0 rs1 re1 : Int} (henv : EnvB w) (hp : PatIn w (Old w) (pvx a0 c0 a1 c1 am cm p) p) (hfit : PatFits p) (hU : Holds w uB (u64V us)) (hus : ∀ u ∈ us, U64 u) (hfew : fewP p = true) (hul : us.length ≤ 10) (ht : twoC us = ⟨At, rs0, re0, K, rs1, re1, K⟩) (hname : (((strO p.name) : ByteArray).toList == (⟨#[]⟩ : ByteArray).toList) = false) (hw : whyC p ⟨1, 2, rs0, re0, K⟩ = 0) :
    Calls Tryz.prog 5 #[.agg #[.string (strO p.name), .slice a0 p.pre0.length c0, .slice a1 p.pre1.length c1, .slice am p.msgs.length cm, .slice uB us.length ud, .int .i64 lim, .int .u8 ams, .int .u8 chg]] w (fun e' w' => e' = .returned (.bool true) ∧ Below w.heap.size w w') := by
 have O0 := Own.start w
 replace O0 : Own w w (List.map Ent.t []) := O0
 obtain ⟨hright, hK, hKn, A1, S0, E0, R0, Q0, S1, E1, R1, Q1, ck, hh, cc, cb, cn, n1, n2, n3, n4, n5, n6, n7, n8, hs0, hs1, h29, hI⟩ := both_begin (fun u hu => (hus u hu).1) hul ht hw
 have hkl : K.length * 8 ≤ 140737488355328 := by omega
 obtain ⟨-, -, -, hm1, hm6, hwm⟩ := rightP_facts hright
 refine gent O0 Tryz.func5 ?_
 refine sg1 [.n [], .p 1, .a (.r 0)] O0 fun b1 w2 O3 => ?_
 refine gc (args := #[.agg #[.string (strO p.name), .slice a0 p.pre0.length c0, .slice a1 p.pre1.length c1, .slice am p.msgs.length cm, .slice uB us.length ud, .int .i64 lim, .int .u8 ams, .int .u8 chg]]) (arenasY O3 hp hfit hfew hul hU hus ht) ?_
 rintro e6 w4 ⟨r, g0, d0, g1, d1, B0, e0, B1, e1, nB, nm, nd_, rfl, O5⟩
 refine gr (O5.frontE [.thing (arena r At), .thing (rowT 3 1 (.slice (some ⟨g0, 0, none⟩) 14 d0) 14 (intsV s100)), .thing (rowT 3 1 (.slice (some ⟨g1, 0, none⟩) 14 d1) 14 (intsV s200)), .thing (rowT 3 1 (.slice B0 K.length e0) K.length (intsV K)), .thing (rowT 3 1 (.slice B1 K.length e1) K.length (intsV K))]) fun O7 => ?_
 refine gL 1 (.row 3 1 g0 14 d0 [.int .i64 1, .int .i64 2, .int .i64 3, .int .i64 4, .int .i64 5, .int .i64 6, .int .i64 7, .int .i64 8, .int .i64 9, .int .i64 10, .int .i64 11, .int .i64 12, .int .i64 13, .int .i64 14]) O7 fun O8 => ?_
 refine gL 2 (.row 3 1 g1 14 d1 [.int .i64 15, .int .i64 16, .int .i64 17, .int .i64 18, .int .i64 19, .int .i64 20, .int .i64 21, .int .i64 22, .int .i64 23, .int .i64 24, .int .i64 25, .int .i64 26, .int .i64 27, .int .i64 28]) O8 fun O9 => ?_
 refine sg3 [.p 6, .n [], .n [], .n [], .p 1, .s 2 [], .s 1 [], .s 0 [], .p 6, .a (.r 8), .a (bT hname), .p 4, .a (.r 8), .p 1, .a (.r 0)] O9 fun b10 b11 b12 w13 O14 => ?_
 refine gc (args := #[.pointer (some ⟨r, 0, none⟩), .agg #[.string (strO p.name), .slice a0 p.pre0.length c0, .slice a1 p.pre1.length c1, .slice am p.msgs.length cm], .int .i64 0, .int .i64 0, .agg #[.int .i64 1, .int .i64 2, .int .i64 rs0, .int .i64 re0, .slice B0 K.length e0]]) (startX (.inl rfl) (psks := K) (B := B0) (dB := e0) (p := p) (A := At) O14 3 (by kernel_rfl) (kept_old fun _ hb => hp.below hb) hfit henv.str (kept_thing 6 _ (by kernel_rfl) (by decide) (rowI_holds (B := B0) (d := e0) (l := K))) hkl n1 n2 n3 n4 hs0) ?_
 rintro e17 w15 ⟨a0h, c0h, a1h, c1h, amh, cmh, bkh, dkh, rfl, O16⟩
 refine gr O16.mconsS fun O16 => ?_
 refine sg1 [.p 3, .n [], .s 0 [], .p 3, .a (.r 10), .p 1, .a (.r 2)] O16 fun b18 w19 O20 => ?_
 refine gc (args := #[.pointer (some ⟨r, 0, none⟩), .agg #[.string (strO p.name), .slice a0 p.pre0.length c0, .slice a1 p.pre1.length c1, .slice am p.msgs.length cm], .int .i64 1, .int .i64 0, .agg #[.int .i64 15, .int .i64 16, .int .i64 rs1, .int .i64 re1, .slice B1 K.length e1]]) (startX (.inr rfl) (psks := K) (B := B1) (dB := e1) (p := p) (A := A1) O20 5 (by kernel_rfl) (kept_old fun _ hb => hp.below hb) hfit henv.str (kept_thing 9 _ (by kernel_rfl) (by decide) (rowI_holds (B := B1) (d := e1) (l := K))) hkl n5 n6 n7 n8 hs1) ?_
 rintro e23 w21 ⟨a0g, c0g, a1g, c1g, amg, cmg, bkg, dkg, rfl, O22⟩
 refine gr O22.mconsS fun O22 => ?_
 refine sg2 [.p 3, .n [], .s 0 [], .p 8, .a (.r 2), .a (.r 0), .p 1, .n [], .s 0 [], .p 2, .a (.r 13), .p 2] O22 fun b24 b25 w26 O27 => ?_
 refine gl (fun (zz : Nat × Ar × Int × Int × Int × Int × Int × Int × Int × Bool × Int × Int × Int × Int) => match zz with | (k, Av, vx, vE, vR, vQ, vk, vh, vc, vb, vn, uE, uR, uQ) => [(2, .bool false), (3, .pointer (some ⟨r, 0, none⟩)), (5, .pointer (some ⟨b11, 0, none⟩)), (12, .pointer (some ⟨b25, 0, none⟩)), (79, .slice am p.msgs.length cm), (80, .int .i64 (p.msgs.length : Int)), (81, .int .i64 (k : Int))]) (fun (zz : Nat × Ar × Int × Int × Int × Int × Int × Int × Int × Bool × Int × Int × Int × Int) => match zz with | (k, Av, vx, vE, vR, vQ, vk, vh, vc, vb, vn, uE, uR, uQ) => [.blk b25 (.cells #[.int .i64 0, .int .i64 (k : Int), .int .i64 vx, .string (strO p.name), .slice a0h p.pre0.length c0h, .slice a1h p.pre1.length c1h, .slice amh p.msgs.length cmh, .int .i64 S0, .int .i64 vE, .int .i64 vR, .int .i64 vQ, .slice bkh K.length dkh, .int .i64 vk, .int .i64 vh, .int .i64 vc, .bool vb, .int .u64 vn, .int .i64 1, .int .i64 (k : Int), .int .i64 vx, .string (strO p.name), .slice a0g p.pre0.length c0g, .slice a1g p.pre1.length c1g, .slice amg p.msgs.length cmg, .int .i64 S1, .int .i64 uE, .int .i64 uR, .int .i64 uQ, .slice bkg K.length dkg, .int .i64 vk, .int .i64 vh, .int .i64 vc, .bool vb, .int .u64 vn] 59), .blk b24 (.cells #[.int .i64 1, .int .i64 0, .int .i64 0, .string (strO p.name), .slice a0g p.pre0.length c0g, .slice a1g p.pre1.length c1g, .slice amg p.msgs.length cmg, .int .i64 S1, .int .i64 E1, .int .i64 R1, .int .i64 Q1, .slice bkg K.length dkg, .int .i64 ck, .int .i64 hh, .int .i64 cc, .bool cb, .int .u64 cn] 42), .thing (shkT (pvx a0g c0g a1g c1g amg cmg p) p (.slice bkg K.length dkg) K), .blk b18 (.cells #[.int .i64 0, .int .i64 0, .int .i64 0, .string (strO p.name), .slice a0h p.pre0.length c0h, .slice a1h p.pre1.length c1h, .slice amh p.msgs.length cmh, .int .i64 S0, .int .i64 E0, .int .i64 R0, .int .i64 Q0, .slice bkh K.length dkh, .int .i64 ck, .int .i64 hh, .int .i64 cc, .bool cb, .int .u64 cn] 42), .thing (shkT (pvx a0h c0h a1h c1h amh cmh p) p (.slice bkh K.length dkh) K), .blk b12 (.cells #[.int .i64 1, .int .i64 2, .int .i64 rs0, .int .i64 re0, .slice B0 K.length e0, .int .i64 15, .int .i64 16, .int .i64 rs1, .int .i64 re1, .slice B1 K.length e1] 56), .blk b11 (.cells #[.slice (some ⟨g0, 0, none⟩) 14 d0, .slice (some ⟨g1, 0, none⟩) 14 d1] 30), .blk b10 (.cells #[.int .i64 2000, .slice nB nm nd_] 55), .thing (arena r Av), .row 3 1 g0 14 d0 [.int .i64 1, .int .i64 2, .int .i64 3, .int .i64 4, .int .i64 5, .int .i64 6, .int .i64 7, .int .i64 8, .int .i64 9, .int .i64 10, .int .i64 11, .int .i64 12, .int .i64 13, .int .i64 14], .row 3 1 g1 14 d1 [.int .i64 15, .int .i64 16, .int .i64 17, .int .i64 18, .int .i64 19, .int .i64 20, .int .i64 21, .int .i64 22, .int .i64 23, .int .i64 24, .int .i64 25, .int .i64 26, .int .i64 27, .int .i64 28], .thing (rowT 3 1 (.slice B0 K.length e0) K.length (intsV K)), .thing (rowT 3 1 (.slice B1 K.length e1) K.length (intsV K)), .blk b1 (.cells #[.string (strO p.name), .slice a0 p.pre0.length c0, .slice a1 p.pre1.length c1, .slice am p.msgs.length cm, .slice uB us.length ud, .int .i64 lim, .int .u8 ams, .int .u8 chg] 52)]) (fun (zz : Nat × Ar × Int × Int × Int × Int × Int × Int × Int × Bool × Int × Int × Int × Int) w => match zz with | (k, Av, vx, vE, vR, vQ, vk, vh, vc, vb, vn, uE, uR, uQ) => k ≤ p.msgs.length ∧ 29 ≤ Av.l.length ∧ Inv p S0 S1 K k Av ⟨(k : Int), vx, vE, vR, vQ, ⟨vk, vh, ⟨vc, vb, vn⟩⟩⟩ ⟨(k : Int), vx, uE, uR, uQ, ⟨vk, vh, ⟨vc, vb, vn⟩⟩⟩) (fun (zz : Nat × Ar × Int × Int × Int × Int × Int × Int × Int × Bool × Int × Int × Int × Int) => match zz with | (k, Av, vx, vE, vR, vQ, vk, vh, vc, vb, vn, uE, uR, uQ) => p.msgs.length - k) (0, A1, 0, E0, R0, Q0, ck, hh, cc, cb, cn, E1, R1, Q1) (O27.as 0) ⟨(Nat.zero_le _), h29, hI⟩ ?_
 rintro M30 ⟨k, Av, vx, vE, vR, vQ, vk, vh, vc, vb, vn, uE, uR, uQ⟩ w28 hM31 O29 ⟨hk0, h29, hI⟩
 rcases Bool.eq_false_or_eq_true (decide ((k : Int) < (p.msgs.length : Int))) with h32 | h32
 · have h32p : ((k : Int) < (p.msgs.length : Int)) := by simpa only [decide_eq_true_eq, decide_eq_false_iff_not] using h32
   have hk1 : k + 1 ≤ p.msgs.length := by have := h32p; omega
   have hk5 : k ≤ 5 := by omega
   obtain ⟨m, hm⟩ : ∃ m, p.msgs[k]? = some m := ⟨_, List.getElem?_eq_getElem hk1⟩
   obtain ⟨mb, mq, D, d, hA, hD, hcell⟩ := msg_at hp.msgs hm
   refine sg0 [.a (bT h32), .p 1] O29 fun w33 O34 => ?_
   rcases (wrongM_facts (hwm m (List.mem_of_getElem? hm))).1 with hfr | hfr
   · have hsd0 : sendsP p 0 (k : Int) = true := by rw [sends_at hm, hfr]; rfl
     have hsd1 : sendsP p 1 (k : Int) = false := by rw [sends_at hm, hfr]; rfl
     obtain ⟨A2, wx, wE, wR, wQ, wk, wh, wc, wb, wn, zE, zR, zQ, msg, hw, hrd, h29', hml, hI'⟩ := (hI.go hright hm h29).1 hfr
     refine sg0 [.p 1, .a (.i _ mb mq p.msgs.length k hA hk1)] O34 fun w35 O36 => ?_
     refine gx [.cell mb (mq + k * 2) (.int .i64 0), .cell mb (mq + k * 2 + 1) (.slice D m.t.length d)] O36 ⟨((hcell _ O36.below).1.trans (by rw [hfr])), (hcell _ O36.below).2, trivial⟩ fun O37 => ?_
     refine sg1 [.a (.l [0, 1]), .n [], .p 1, .s 0 [], .p 1, .a (.r 0), .p 1, .a (.r 1)] O37 fun b38 w39 O40 => ?_
     refine gi (args := #[.agg #[.int .i64 0, .int .i64 (k : Int), .int .i64 vx, .string (strO p.name), .slice a0h p.pre0.length c0h, .slice a1h p.pre1.length c1h, .slice amh p.msgs.length cmh, .int .i64 S0, .int .i64 vE, .int .i64 vR, .int .i64 vQ, .slice bkh K.length dkh, .int .i64 vk, .int .i64 vh, .int .i64 vc, .bool vb, .int .u64 vn]]) Tryz.func23 O40 fun O40i => ?_
     refine sg1 [.n [], .p 2, .a (.r 0), .p 1, .a (.r 0), .p 1, .a (.r 0)] O40i fun b41 w42 O43 => ?_
     refine gU (args := #[.agg #[.string (strO p.name), .slice a0h p.pre0.length c0h, .slice a1h p.pre1.length c1h, .slice amh p.msgs.length cmh], .int .i64 0, .int .i64 (k : Int)]) (sendsX (role := 0) (n := (k : Int)) O43 6 (by kernel_rfl) (hasShk_shk (pvx a0h c0h a1h c1h amh cmh p) p bkh dkh K).hasPat hfit hsd0) fun w44 O45 => ?_
     refine sg0 [.p 1] O45 fun w47 O48 => ?_
     refine gir [] O48 fun O49 => ?_
     refine sg0 [.p 3, .a (.r 1), .p 2, .a (.r 2)] O49 fun w50 O51 => ?_
     refine gi (args := #[.agg #[.int .i64 1, .int .i64 (k : Int), .int .i64 vx, .string (strO p.name), .slice a0g p.pre0.length c0g, .slice a1g p.pre1.length c1g, .slice amg p.msgs.length cmg, .int .i64 S1, .int .i64 uE, .int .i64 uR, .int .i64 uQ, .slice bkg K.length dkg, .int .i64 vk, .int .i64 vh, .int .i64 vc, .bool vb, .int .u64 vn]]) Tryz.func23 O51 fun O51i => ?_
     refine sg1 [.n [], .p 2, .a (.r 0), .p 1, .a (.r 0), .p 1, .a (.r 0)] O51i fun b52 w53 O54 => ?_
     refine gU (args := #[.agg #[.string (strO p.name), .slice a0g p.pre0.length c0g, .slice a1g p.pre1.length c1g, .slice amg p.msgs.length cmg], .int .i64 1, .int .i64 (k : Int)]) (sendsX (role := 1) (n := (k : Int)) O54 5 (by kernel_rfl) (hasShk_shk (pvx a0g c0g a1g c1g amg cmg p) p bkg dkg K).hasPat hfit hsd1) fun w55 O56 => ?_
     refine sg0 [.p 1] O56 fun w58 O59 => ?_
     refine gir [] O59 fun O60 => ?_
     refine sg0 [.p 3, .a (.r 3)] O60 fun w61 O62 => ?_
     refine gi (args := #[.agg #[.int .i64 0, .int .i64 (k : Int), .int .i64 vx, .string (strO p.name), .slice a0h p.pre0.length c0h, .slice a1h p.pre1.length c1h, .slice amh p.msgs.length cmh, .int .i64 S0, .int .i64 vE, .int .i64 vR, .int .i64 vQ, .slice bkh K.length dkh, .int .i64 vk, .int .i64 vh, .int .i64 vc, .bool vb, .int .u64 vn]]) Tryz.func24 O62 fun O62i => ?_
     refine sg1 [.n [], .p 2, .a (.r 0), .p 2, .a (.r 0), .p 1, .a (bT (decide_eq_false (p := ((k : Int) ≥ (p.msgs.length : Int))) (by omega))), .p 1] O62i fun b63 w64 O65 => ?_
     refine gir [] O65 fun O66 => ?_
     refine sg0 [.p 2, .d [3, 4, 10, 13], .qs [0], .q 1 (.r 0), .qs [2], .q 3 (.r 1), .qs [4, 5], .q 6 (.r 0), .qs [7], .q 8 (.r 2), .qs [9], .q 10 (iW (2 + (k : Int))), .q 11 (.i _ g0 0 14 (2 + k) rfl (by omega)), .qs [13], .q 14 (.r 0), .qs [15], .q 16 (.r 2), .qs [17], .q 18 (iW (8 + (k : Int))), .q 19 (.i _ g0 0 14 (8 + k) rfl (by omega))] O66 fun w67 O68 => ?_
     refine gA [12, 20, 26] O68 ⟨?_, ?_, ?_, trivial⟩
     · intro O69
       refine gx [.cell g0 (0 + (2 + k) * 1) (.int .i64 ((k : Int) + 3))] O69 ⟨(rowN_at (g := g0) (d := d0) (n := 14) (l := s100) O69 13 (by kernel_rfl) rfl (s100_2 hk5)), trivial⟩ fun O70 => ?_
       refine sg0 [.a (.r 0)] O70 fun w71 O72 => ?_
       refine gA [20, 26] O72 ⟨?_, ?_, trivial⟩
       · intro O73
         refine gx [.cell g0 (0 + (2 + k) * 1) (.int .i64 ((k : Int) + 3)), .cell g0 (0 + (8 + k) * 1) (.int .i64 ((k : Int) + 9))] O73 ⟨(rowN_at (g := g0) (d := d0) (n := 14) (l := s100) O73 13 (by kernel_rfl) rfl (s100_2 hk5)), (rowN_at (g := g0) (d := d0) (n := 14) (l := s100) O73 13 (by kernel_rfl) rfl (s100_8 hk5)), trivial⟩ fun O74 => ?_
         refine sg0 [.a (.r 1)] O74 fun w75 O76 => ?_
         refine gA [21, 26] O76 ⟨?_, ?_, trivial⟩
         · intro O77
           refine gc (args := #[.agg #[.int .i64 0, .int .i64 (k : Int), .int .i64 vx, .string (strO p.name), .slice a0h p.pre0.length c0h, .slice a1h p.pre1.length c1h, .slice amh p.msgs.length cmh, .int .i64 S0, .int .i64 vE, .int .i64 vR, .int .i64 vQ, .slice bkh K.length dkh, .int .i64 vk, .int .i64 vh, .int .i64 vc, .bool vb, .int .u64 vn], .pointer (some ⟨r, 0, none⟩), .int .i64 ((k : Int) + 3), .int .i64 ((k : Int) + 9)]) (writeOk (r := r) O77 12 (by kernel_rfl) 8 (by kernel_rfl) (hasShk_shk (pvx a0h c0h a1h c1h amh cmh p) p bkh dkh K) hfit (by decide) hright (.inl rfl) (hI.p7 hm) hkl (hI.u64 (by omega)) hw) ?_
           rintro e82 w80 ⟨mB78, md79, rfl, O81⟩
           refine gr (js := [4, 5, 11, 14]) O81.mconsS fun O81 => ?_
           refine sg1 [.qs [22, 23, 24, 25], .o 26, .n [5, 6, 12, 15], .o 27, .s 0 [5, 6, 12, 15], .qs [28, 29], .z, .p 1, .a (.r 5), .p 2, .a (.r 6), .p 2] O81 fun b83 w84 O85 => ?_
           refine gS (args := #[.agg #[.int .i64 1, .int .i64 (k : Int), .int .i64 vx, .string (strO p.name), .slice a0g p.pre0.length c0g, .slice a1g p.pre1.length c1g, .slice amg p.msgs.length cmg, .int .i64 S1, .int .i64 uE, .int .i64 uR, .int .i64 uQ, .slice bkg K.length dkg, .int .i64 vk, .int .i64 vh, .int .i64 vc, .bool vb, .int .u64 vn], .pointer (some ⟨r, 0, none⟩), .slice mB78 msg.length md79]) (readOk (msg := msg) (mB := mB78) (md := md79) (r := r) O85 14 (by kernel_rfl) 8 (by kernel_rfl) (hasShk_shk (pvx a0g c0g a1g c1g amg cmg p) p bkg dkg K) hfit (by decide) hright (.inr rfl) (Int.natCast_nonneg _) (hI.p7 hm) hkl (hI.u64 (by omega)) hml (kept2_thing 1 (by kernel_rfl) (by decide) (by decide) (rowI_holds (B := mB78) (d := md79) (l := msg))) hrd) fun w86 O87 => ?_
           refine sg1 [.p 4, .n [], .s 0 [], .p 11, .a (.r 6), .p 1, .a (.r 13), .p 1, .a (iW (8 + (k : Int))), .a (.i _ g0 0 14 (8 + k) rfl (by omega))] O87 fun b89 w90 O91 => ?_
           refine gx [.cell g0 (0 + (8 + k) * 1) (.int .i64 ((k : Int) + 9))] O91 ⟨(rowN_at (g := g0) (d := d0) (n := 14) (l := s100) O91 16 (by kernel_rfl) rfl (s100_8 hk5)), trivial⟩ fun O92 => ?_
           refine sg0 [.a (.r 0), .a (bT (bne_self_eq_false (((k : Int) + 9) : Int))), .p 3, .a (.r 2), .p 1, .a (.r 1), .a (.e (!((wk == wk) && ((wh == wh) && (((wc == wc) && ((wb == wb) && ((wn == wn) && true))) && true)))) false (by simp)), .p 3, .a (.r 2), .p 1, .a (iW ((k : Int) + 1)), .a (bT (bne_self_eq_false (((k : Int) + 1) : Int))), .p 3, .a (.r 1), .p 1, .a (iW ((k : Int) + 1)), .a (bT (bne_self_eq_false (((k : Int) + 1) : Int))), .p 2] O92 fun w93 O94 => ?_
           refine gx [] O94 trivial fun O95 => ?_
           refine sg0 [.d [0, 1, 6], .qs [0], .q 1 (.r 2), .qs [2], .q 3 (.r 2), .qs [4], .q 5 (.r 1), .q 6 (.r 0), .qs [7], .o 8, .s 7 [0, 1, 6], .qs [9], .o 10, .s 7 [0, 1, 6], .z, .a (iW ((k : Int) + 1)), .p 1] O95 fun w96 O97 => ?_
           exact gz _ fun a F => hM31 a _ (k + 1, A2, wx, wE, wR, wQ, wk, wh, wc, wb, wn, zE, zR, zQ) F (O97.as 7) ⟨hk1, h29', hI'⟩ (show p.msgs.length - (k + 1) < p.msgs.length - k by omega)
         · intro O98
           refine sg1 [.n [4, 5, 11, 14], .o 21] O98 fun b99 w100 O101 => ?_
           refine gc (args := #[.agg #[.int .i64 0, .int .i64 (k : Int), .int .i64 vx, .string (strO p.name), .slice a0h p.pre0.length c0h, .slice a1h p.pre1.length c1h, .slice amh p.msgs.length cmh, .int .i64 S0, .int .i64 vE, .int .i64 vR, .int .i64 vQ, .slice bkh K.length dkh, .int .i64 vk, .int .i64 vh, .int .i64 vc, .bool vb, .int .u64 vn], .pointer (some ⟨r, 0, none⟩), .int .i64 ((k : Int) + 3), .int .i64 ((k : Int) + 9)]) (writeOk (r := r) O101 13 (by kernel_rfl) 9 (by kernel_rfl) (hasShk_shk (pvx a0h c0h a1h c1h amh cmh p) p bkh dkh K) hfit (by decide) hright (.inl rfl) (hI.p7 hm) hkl (hI.u64 (by omega)) hw) ?_
           rintro e106 w104 ⟨mB102, md103, rfl, O105⟩
           refine gr (js := [5, 6, 12, 15]) O105.mconsS fun O105 => ?_
           refine sg0 [.qs [22, 23, 24, 25], .o 27, .s 1 [5, 6, 12, 15], .qs [28, 29], .z, .p 1, .a (.r 5), .p 2, .a (.r 6), .p 2] O105 fun w107 O108 => ?_
           refine gS (args := #[.agg #[.int .i64 1, .int .i64 (k : Int), .int .i64 vx, .string (strO p.name), .slice a0g p.pre0.length c0g, .slice a1g p.pre1.length c1g, .slice amg p.msgs.length cmg, .int .i64 S1, .int .i64 uE, .int .i64 uR, .int .i64 uQ, .slice bkg K.length dkg, .int .i64 vk, .int .i64 vh, .int .i64 vc, .bool vb, .int .u64 vn], .pointer (some ⟨r, 0, none⟩), .slice mB102 msg.length md103]) (readOk (msg := msg) (mB := mB102) (md := md103) (r := r) O108 14 (by kernel_rfl) 8 (by kernel_rfl) (hasShk_shk (pvx a0g c0g a1g c1g amg cmg p) p bkg dkg K) hfit (by decide) hright (.inr rfl) (Int.natCast_nonneg _) (hI.p7 hm) hkl (hI.u64 (by omega)) hml (kept2_thing 0 (by kernel_rfl) (by decide) (by decide) (rowI_holds (B := mB102) (d := md103) (l := msg))) hrd) fun w109 O110 => ?_
           refine sg1 [.p 4, .n [], .s 0 [], .p 11, .a (.r 6), .p 1, .a (.r 13), .p 1, .a (iW (8 + (k : Int))), .a (.i _ g0 0 14 (8 + k) rfl (by omega))] O110 fun b112 w113 O114 => ?_
           refine gx [.cell g0 (0 + (8 + k) * 1) (.int .i64 ((k : Int) + 9))] O114 ⟨(rowN_at (g := g0) (d := d0) (n := 14) (l := s100) O114 16 (by kernel_rfl) rfl (s100_8 hk5)), trivial⟩ fun O115 => ?_
           refine sg0 [.a (.r 0), .a (bT (bne_self_eq_false (((k : Int) + 9) : Int))), .p 3, .a (.r 3), .p 1, .a (.r 1), .a (.e (!((wk == wk) && ((wh == wh) && (((wc == wc) && ((wb == wb) && ((wn == wn) && true))) && true)))) false (by simp)), .p 3, .a (.r 3), .p 1, .a (iW ((k : Int) + 1)), .a (bT (bne_self_eq_false (((k : Int) + 1) : Int))), .p 3, .a (.r 1), .p 1, .a (iW ((k : Int) + 1)), .a (bT (bne_self_eq_false (((k : Int) + 1) : Int))), .p 2] O115 fun w116 O117 => ?_
           refine gx [] O117 trivial fun O118 => ?_
           refine sg0 [.d [0, 2, 6], .qs [0], .q 1 (.r 2), .qs [2], .q 3 (.r 2), .qs [4], .q 5 (.r 1), .q 6 (.r 0), .qs [7], .o 8, .s 7 [0, 2, 6], .qs [9], .o 10, .s 7 [0, 2, 6], .z, .a (iW ((k : Int) + 1)), .p 1] O118 fun w119 O120 => ?_
           exact gz _ fun a F => hM31 a _ (k + 1, A2, wx, wE, wR, wQ, wk, wh, wc, wb, wn, zE, zR, zQ) F (O120.as 7) ⟨hk1, h29', hI'⟩ (show p.msgs.length - (k + 1) < p.msgs.length - k by omega)
       · intro O121
         refine sg1 [.n [4, 5, 11, 14], .o 20] O121 fun b122 w123 O124 => ?_
         refine gx [.cell g0 (0 + (8 + k) * 1) (.int .i64 ((k : Int) + 9))] O124 ⟨(rowN_at (g := g0) (d := d0) (n := 14) (l := s100) O124 14 (by kernel_rfl) rfl (s100_8 hk5)), trivial⟩ fun O125 => ?_
         refine sg0 [.a (.r 0), .o 21] O125 fun w126 O127 => ?_
         refine gc (args := #[.agg #[.int .i64 0, .int .i64 (k : Int), .int .i64 vx, .string (strO p.name), .slice a0h p.pre0.length c0h, .slice a1h p.pre1.length c1h, .slice amh p.msgs.length cmh, .int .i64 S0, .int .i64 vE, .int .i64 vR, .int .i64 vQ, .slice bkh K.length dkh, .int .i64 vk, .int .i64 vh, .int .i64 vc, .bool vb, .int .u64 vn], .pointer (some ⟨r, 0, none⟩), .int .i64 ((k : Int) + 3), .int .i64 ((k : Int) + 9)]) (writeOk (r := r) O127 13 (by kernel_rfl) 9 (by kernel_rfl) (hasShk_shk (pvx a0h c0h a1h c1h amh cmh p) p bkh dkh K) hfit (by decide) hright (.inl rfl) (hI.p7 hm) hkl (hI.u64 (by omega)) hw) ?_
         rintro e132 w130 ⟨mB128, md129, rfl, O131⟩
         refine gr (js := [5, 6, 12, 15]) O131.mconsS fun O131 => ?_
         refine sg0 [.qs [22, 23, 24, 25], .o 27, .s 1 [5, 6, 12, 15], .qs [28, 29], .z, .p 1, .a (.r 5), .p 2, .a (.r 6), .p 2] O131 fun w133 O134 => ?_
         refine gS (args := #[.agg #[.int .i64 1, .int .i64 (k : Int), .int .i64 vx, .string (strO p.name), .slice a0g p.pre0.length c0g, .slice a1g p.pre1.length c1g, .slice amg p.msgs.length cmg, .int .i64 S1, .int .i64 uE, .int .i64 uR, .int .i64 uQ, .slice bkg K.length dkg, .int .i64 vk, .int .i64 vh, .int .i64 vc, .bool vb, .int .u64 vn], .pointer (some ⟨r, 0, none⟩), .slice mB128 msg.length md129]) (readOk (msg := msg) (mB := mB128) (md := md129) (r := r) O134 14 (by kernel_rfl) 8 (by kernel_rfl) (hasShk_shk (pvx a0g c0g a1g c1g amg cmg p) p bkg dkg K) hfit (by decide) hright (.inr rfl) (Int.natCast_nonneg _) (hI.p7 hm) hkl (hI.u64 (by omega)) hml (kept2_thing 0 (by kernel_rfl) (by decide) (by decide) (rowI_holds (B := mB128) (d := md129) (l := msg))) hrd) fun w135 O136 => ?_
         refine sg1 [.p 4, .n [], .s 0 [], .p 11, .a (.r 6), .p 1, .a (.r 13), .p 1, .a (iW (8 + (k : Int))), .a (.i _ g0 0 14 (8 + k) rfl (by omega))] O136 fun b138 w139 O140 => ?_
         refine gx [.cell g0 (0 + (8 + k) * 1) (.int .i64 ((k : Int) + 9))] O140 ⟨(rowN_at (g := g0) (d := d0) (n := 14) (l := s100) O140 16 (by kernel_rfl) rfl (s100_8 hk5)), trivial⟩ fun O141 => ?_
         refine sg0 [.a (.r 0), .a (bT (bne_self_eq_false (((k : Int) + 9) : Int))), .p 3, .a (.r 3), .p 1, .a (.r 1), .a (.e (!((wk == wk) && ((wh == wh) && (((wc == wc) && ((wb == wb) && ((wn == wn) && true))) && true)))) false (by simp)), .p 3, .a (.r 3), .p 1, .a (iW ((k : Int) + 1)), .a (bT (bne_self_eq_false (((k : Int) + 1) : Int))), .p 3, .a (.r 1), .p 1, .a (iW ((k : Int) + 1)), .a (bT (bne_self_eq_false (((k : Int) + 1) : Int))), .p 2] O141 fun w142 O143 => ?_
         refine gx [] O143 trivial fun O144 => ?_
         refine sg0 [.d [0, 2, 6], .qs [0], .q 1 (.r 2), .qs [2], .q 3 (.r 2), .qs [4], .q 5 (.r 1), .q 6 (.r 0), .qs [7], .o 8, .s 7 [0, 2, 6], .qs [9], .o 10, .s 7 [0, 2, 6], .z, .a (iW ((k : Int) + 1)), .p 1] O144 fun w145 O146 => ?_
         exact gz _ fun a F => hM31 a _ (k + 1, A2, wx, wE, wR, wQ, wk, wh, wc, wb, wn, zE, zR, zQ) F (O146.as 7) ⟨hk1, h29', hI'⟩ (show p.msgs.length - (k + 1) < p.msgs.length - k by omega)
     · intro O147
       refine gx [.cell g0 (0 + (8 + k) * 1) (.int .i64 ((k : Int) + 9))] O147 ⟨(rowN_at (g := g0) (d := d0) (n := 14) (l := s100) O147 13 (by kernel_rfl) rfl (s100_8 hk5)), trivial⟩ fun O148 => ?_
       refine sg0 [.a (.r 0)] O148 fun w149 O150 => ?_
       refine gA [12, 26] O150 ⟨?_, ?_, trivial⟩
       · intro O151
         refine gx [.cell g0 (0 + (8 + k) * 1) (.int .i64 ((k : Int) + 9)), .cell g0 (0 + (2 + k) * 1) (.int .i64 ((k : Int) + 3))] O151 ⟨(rowN_at (g := g0) (d := d0) (n := 14) (l := s100) O151 13 (by kernel_rfl) rfl (s100_8 hk5)), (rowN_at (g := g0) (d := d0) (n := 14) (l := s100) O151 13 (by kernel_rfl) rfl (s100_2 hk5)), trivial⟩ fun O152 => ?_
         refine sg0 [.a (.r 1)] O152 fun w153 O154 => ?_
         refine gA [21, 26] O154 ⟨?_, ?_, trivial⟩
         · intro O155
           refine gc (args := #[.agg #[.int .i64 0, .int .i64 (k : Int), .int .i64 vx, .string (strO p.name), .slice a0h p.pre0.length c0h, .slice a1h p.pre1.length c1h, .slice amh p.msgs.length cmh, .int .i64 S0, .int .i64 vE, .int .i64 vR, .int .i64 vQ, .slice bkh K.length dkh, .int .i64 vk, .int .i64 vh, .int .i64 vc, .bool vb, .int .u64 vn], .pointer (some ⟨r, 0, none⟩), .int .i64 ((k : Int) + 3), .int .i64 ((k : Int) + 9)]) (writeOk (r := r) O155 12 (by kernel_rfl) 8 (by kernel_rfl) (hasShk_shk (pvx a0h c0h a1h c1h amh cmh p) p bkh dkh K) hfit (by decide) hright (.inl rfl) (hI.p7 hm) hkl (hI.u64 (by omega)) hw) ?_
           rintro e160 w158 ⟨mB156, md157, rfl, O159⟩
           refine gr (js := [4, 5, 11, 14]) O159.mconsS fun O159 => ?_
           refine sg1 [.qs [22, 23, 24, 25], .o 26, .n [5, 6, 12, 15], .o 27, .s 0 [5, 6, 12, 15], .qs [28, 29], .z, .p 1, .a (.r 5), .p 2, .a (.r 6), .p 2] O159 fun b161 w162 O163 => ?_
           refine gS (args := #[.agg #[.int .i64 1, .int .i64 (k : Int), .int .i64 vx, .string (strO p.name), .slice a0g p.pre0.length c0g, .slice a1g p.pre1.length c1g, .slice amg p.msgs.length cmg, .int .i64 S1, .int .i64 uE, .int .i64 uR, .int .i64 uQ, .slice bkg K.length dkg, .int .i64 vk, .int .i64 vh, .int .i64 vc, .bool vb, .int .u64 vn], .pointer (some ⟨r, 0, none⟩), .slice mB156 msg.length md157]) (readOk (msg := msg) (mB := mB156) (md := md157) (r := r) O163 14 (by kernel_rfl) 8 (by kernel_rfl) (hasShk_shk (pvx a0g c0g a1g c1g amg cmg p) p bkg dkg K) hfit (by decide) hright (.inr rfl) (Int.natCast_nonneg _) (hI.p7 hm) hkl (hI.u64 (by omega)) hml (kept2_thing 1 (by kernel_rfl) (by decide) (by decide) (rowI_holds (B := mB156) (d := md157) (l := msg))) hrd) fun w164 O165 => ?_
           refine sg1 [.p 4, .n [], .s 0 [], .p 11, .a (.r 6), .p 1, .a (.r 13), .p 1, .a (iW (8 + (k : Int))), .a (.i _ g0 0 14 (8 + k) rfl (by omega))] O165 fun b167 w168 O169 => ?_
           refine gx [.cell g0 (0 + (8 + k) * 1) (.int .i64 ((k : Int) + 9))] O169 ⟨(rowN_at (g := g0) (d := d0) (n := 14) (l := s100) O169 16 (by kernel_rfl) rfl (s100_8 hk5)), trivial⟩ fun O170 => ?_
           refine sg0 [.a (.r 0), .a (bT (bne_self_eq_false (((k : Int) + 9) : Int))), .p 3, .a (.r 2), .p 1, .a (.r 1), .a (.e (!((wk == wk) && ((wh == wh) && (((wc == wc) && ((wb == wb) && ((wn == wn) && true))) && true)))) false (by simp)), .p 3, .a (.r 2), .p 1, .a (iW ((k : Int) + 1)), .a (bT (bne_self_eq_false (((k : Int) + 1) : Int))), .p 3, .a (.r 1), .p 1, .a (iW ((k : Int) + 1)), .a (bT (bne_self_eq_false (((k : Int) + 1) : Int))), .p 2] O170 fun w171 O172 => ?_
           refine gx [] O172 trivial fun O173 => ?_
           refine sg0 [.d [0, 1, 6], .qs [0], .q 1 (.r 2), .qs [2], .q 3 (.r 2), .qs [4], .q 5 (.r 1), .q 6 (.r 0), .qs [7], .o 8, .s 7 [0, 1, 6], .qs [9], .o 10, .s 7 [0, 1, 6], .z, .a (iW ((k : Int) + 1)), .p 1] O173 fun w174 O175 => ?_
           exact gz _ fun a F => hM31 a _ (k + 1, A2, wx, wE, wR, wQ, wk, wh, wc, wb, wn, zE, zR, zQ) F (O175.as 7) ⟨hk1, h29', hI'⟩ (show p.msgs.length - (k + 1) < p.msgs.length - k by omega)
         · intro O176
           refine sg1 [.n [4, 5, 11, 14], .o 21] O176 fun b177 w178 O179 => ?_
           refine gc (args := #[.agg #[.int .i64 0, .int .i64 (k : Int), .int .i64 vx, .string (strO p.name), .slice a0h p.pre0.length c0h, .slice a1h p.pre1.length c1h, .slice amh p.msgs.length cmh, .int .i64 S0, .int .i64 vE, .int .i64 vR, .int .i64 vQ, .slice bkh K.length dkh, .int .i64 vk, .int .i64 vh, .int .i64 vc, .bool vb, .int .u64 vn], .pointer (some ⟨r, 0, none⟩), .int .i64 ((k : Int) + 3), .int .i64 ((k : Int) + 9)]) (writeOk (r := r) O179 13 (by kernel_rfl) 9 (by kernel_rfl) (hasShk_shk (pvx a0h c0h a1h c1h amh cmh p) p bkh dkh K) hfit (by decide) hright (.inl rfl) (hI.p7 hm) hkl (hI.u64 (by omega)) hw) ?_
           rintro e184 w182 ⟨mB180, md181, rfl, O183⟩
           refine gr (js := [5, 6, 12, 15]) O183.mconsS fun O183 => ?_
           refine sg0 [.qs [22, 23, 24, 25], .o 27, .s 1 [5, 6, 12, 15], .qs [28, 29], .z, .p 1, .a (.r 5), .p 2, .a (.r 6), .p 2] O183 fun w185 O186 => ?_
           refine gS (args := #[.agg #[.int .i64 1, .int .i64 (k : Int), .int .i64 vx, .string (strO p.name), .slice a0g p.pre0.length c0g, .slice a1g p.pre1.length c1g, .slice amg p.msgs.length cmg, .int .i64 S1, .int .i64 uE, .int .i64 uR, .int .i64 uQ, .slice bkg K.length dkg, .int .i64 vk, .int .i64 vh, .int .i64 vc, .bool vb, .int .u64 vn], .pointer (some ⟨r, 0, none⟩), .slice mB180 msg.length md181]) (readOk (msg := msg) (mB := mB180) (md := md181) (r := r) O186 14 (by kernel_rfl) 8 (by kernel_rfl) (hasShk_shk (pvx a0g c0g a1g c1g amg cmg p) p bkg dkg K) hfit (by decide) hright (.inr rfl) (Int.natCast_nonneg _) (hI.p7 hm) hkl (hI.u64 (by omega)) hml (kept2_thing 0 (by kernel_rfl) (by decide) (by decide) (rowI_holds (B := mB180) (d := md181) (l := msg))) hrd) fun w187 O188 => ?_
           refine sg1 [.p 4, .n [], .s 0 [], .p 11, .a (.r 6), .p 1, .a (.r 13), .p 1, .a (iW (8 + (k : Int))), .a (.i _ g0 0 14 (8 + k) rfl (by omega))] O188 fun b190 w191 O192 => ?_
           refine gx [.cell g0 (0 + (8 + k) * 1) (.int .i64 ((k : Int) + 9))] O192 ⟨(rowN_at (g := g0) (d := d0) (n := 14) (l := s100) O192 16 (by kernel_rfl) rfl (s100_8 hk5)), trivial⟩ fun O193 => ?_
           refine sg0 [.a (.r 0), .a (bT (bne_self_eq_false (((k : Int) + 9) : Int))), .p 3, .a (.r 3), .p 1, .a (.r 1), .a (.e (!((wk == wk) && ((wh == wh) && (((wc == wc) && ((wb == wb) && ((wn == wn) && true))) && true)))) false (by simp)), .p 3, .a (.r 3), .p 1, .a (iW ((k : Int) + 1)), .a (bT (bne_self_eq_false (((k : Int) + 1) : Int))), .p 3, .a (.r 1), .p 1, .a (iW ((k : Int) + 1)), .a (bT (bne_self_eq_false (((k : Int) + 1) : Int))), .p 2] O193 fun w194 O195 => ?_
           refine gx [] O195 trivial fun O196 => ?_
           refine sg0 [.d [0, 2, 6], .qs [0], .q 1 (.r 2), .qs [2], .q 3 (.r 2), .qs [4], .q 5 (.r 1), .q 6 (.r 0), .qs [7], .o 8, .s 7 [0, 2, 6], .qs [9], .o 10, .s 7 [0, 2, 6], .z, .a (iW ((k : Int) + 1)), .p 1] O196 fun w197 O198 => ?_
           exact gz _ fun a F => hM31 a _ (k + 1, A2, wx, wE, wR, wQ, wk, wh, wc, wb, wn, zE, zR, zQ) F (O198.as 7) ⟨hk1, h29', hI'⟩ (show p.msgs.length - (k + 1) < p.msgs.length - k by omega)
       · intro O199
         refine sg1 [.n [4, 5, 11, 14], .o 12] O199 fun b200 w201 O202 => ?_
         refine gx [.cell g0 (0 + (2 + k) * 1) (.int .i64 ((k : Int) + 3))] O202 ⟨(rowN_at (g := g0) (d := d0) (n := 14) (l := s100) O202 14 (by kernel_rfl) rfl (s100_2 hk5)), trivial⟩ fun O203 => ?_
         refine sg0 [.a (.r 0), .o 21] O203 fun w204 O205 => ?_
         refine gc (args := #[.agg #[.int .i64 0, .int .i64 (k : Int), .int .i64 vx, .string (strO p.name), .slice a0h p.pre0.length c0h, .slice a1h p.pre1.length c1h, .slice amh p.msgs.length cmh, .int .i64 S0, .int .i64 vE, .int .i64 vR, .int .i64 vQ, .slice bkh K.length dkh, .int .i64 vk, .int .i64 vh, .int .i64 vc, .bool vb, .int .u64 vn], .pointer (some ⟨r, 0, none⟩), .int .i64 ((k : Int) + 3), .int .i64 ((k : Int) + 9)]) (writeOk (r := r) O205 13 (by kernel_rfl) 9 (by kernel_rfl) (hasShk_shk (pvx a0h c0h a1h c1h amh cmh p) p bkh dkh K) hfit (by decide) hright (.inl rfl) (hI.p7 hm) hkl (hI.u64 (by omega)) hw) ?_
         rintro e210 w208 ⟨mB206, md207, rfl, O209⟩
         refine gr (js := [5, 6, 12, 15]) O209.mconsS fun O209 => ?_
         refine sg0 [.qs [22, 23, 24, 25], .o 27, .s 1 [5, 6, 12, 15], .qs [28, 29], .z, .p 1, .a (.r 5), .p 2, .a (.r 6), .p 2] O209 fun w211 O212 => ?_
         refine gS (args := #[.agg #[.int .i64 1, .int .i64 (k : Int), .int .i64 vx, .string (strO p.name), .slice a0g p.pre0.length c0g, .slice a1g p.pre1.length c1g, .slice amg p.msgs.length cmg, .int .i64 S1, .int .i64 uE, .int .i64 uR, .int .i64 uQ, .slice bkg K.length dkg, .int .i64 vk, .int .i64 vh, .int .i64 vc, .bool vb, .int .u64 vn], .pointer (some ⟨r, 0, none⟩), .slice mB206 msg.length md207]) (readOk (msg := msg) (mB := mB206) (md := md207) (r := r) O212 14 (by kernel_rfl) 8 (by kernel_rfl) (hasShk_shk (pvx a0g c0g a1g c1g amg cmg p) p bkg dkg K) hfit (by decide) hright (.inr rfl) (Int.natCast_nonneg _) (hI.p7 hm) hkl (hI.u64 (by omega)) hml (kept2_thing 0 (by kernel_rfl) (by decide) (by decide) (rowI_holds (B := mB206) (d := md207) (l := msg))) hrd) fun w213 O214 => ?_
         refine sg1 [.p 4, .n [], .s 0 [], .p 11, .a (.r 6), .p 1, .a (.r 13), .p 1, .a (iW (8 + (k : Int))), .a (.i _ g0 0 14 (8 + k) rfl (by omega))] O214 fun b216 w217 O218 => ?_
         refine gx [.cell g0 (0 + (8 + k) * 1) (.int .i64 ((k : Int) + 9))] O218 ⟨(rowN_at (g := g0) (d := d0) (n := 14) (l := s100) O218 16 (by kernel_rfl) rfl (s100_8 hk5)), trivial⟩ fun O219 => ?_
         refine sg0 [.a (.r 0), .a (bT (bne_self_eq_false (((k : Int) + 9) : Int))), .p 3, .a (.r 3), .p 1, .a (.r 1), .a (.e (!((wk == wk) && ((wh == wh) && (((wc == wc) && ((wb == wb) && ((wn == wn) && true))) && true)))) false (by simp)), .p 3, .a (.r 3), .p 1, .a (iW ((k : Int) + 1)), .a (bT (bne_self_eq_false (((k : Int) + 1) : Int))), .p 3, .a (.r 1), .p 1, .a (iW ((k : Int) + 1)), .a (bT (bne_self_eq_false (((k : Int) + 1) : Int))), .p 2] O219 fun w220 O221 => ?_
         refine gx [] O221 trivial fun O222 => ?_
         refine sg0 [.d [0, 2, 6], .qs [0], .q 1 (.r 2), .qs [2], .q 3 (.r 2), .qs [4], .q 5 (.r 1), .q 6 (.r 0), .qs [7], .o 8, .s 7 [0, 2, 6], .qs [9], .o 10, .s 7 [0, 2, 6], .z, .a (iW ((k : Int) + 1)), .p 1] O222 fun w223 O224 => ?_
         exact gz _ fun a F => hM31 a _ (k + 1, A2, wx, wE, wR, wQ, wk, wh, wc, wb, wn, zE, zR, zQ) F (O224.as 7) ⟨hk1, h29', hI'⟩ (show p.msgs.length - (k + 1) < p.msgs.length - k by omega)
     · intro O225
       refine sg1 [.n [4, 5, 11, 14]] O225 fun b226 w227 O228 => ?_
       refine gA [12, 20] O228 ⟨?_, ?_, trivial⟩
       · intro O229
         refine gx [.cell g0 (0 + (2 + k) * 1) (.int .i64 ((k : Int) + 3))] O229 ⟨(rowN_at (g := g0) (d := d0) (n := 14) (l := s100) O229 14 (by kernel_rfl) rfl (s100_2 hk5)), trivial⟩ fun O230 => ?_
         refine sg0 [.a (.r 0), .o 20] O230 fun w231 O232 => ?_
         refine gx [.cell g0 (0 + (2 + k) * 1) (.int .i64 ((k : Int) + 3)), .cell g0 (0 + (8 + k) * 1) (.int .i64 ((k : Int) + 9))] O232 ⟨(rowN_at (g := g0) (d := d0) (n := 14) (l := s100) O232 14 (by kernel_rfl) rfl (s100_2 hk5)), (rowN_at (g := g0) (d := d0) (n := 14) (l := s100) O232 14 (by kernel_rfl) rfl (s100_8 hk5)), trivial⟩ fun O233 => ?_
         refine sg0 [.a (.r 1), .o 21] O233 fun w234 O235 => ?_
         refine gc (args := #[.agg #[.int .i64 0, .int .i64 (k : Int), .int .i64 vx, .string (strO p.name), .slice a0h p.pre0.length c0h, .slice a1h p.pre1.length c1h, .slice amh p.msgs.length cmh, .int .i64 S0, .int .i64 vE, .int .i64 vR, .int .i64 vQ, .slice bkh K.length dkh, .int .i64 vk, .int .i64 vh, .int .i64 vc, .bool vb, .int .u64 vn], .pointer (some ⟨r, 0, none⟩), .int .i64 ((k : Int) + 3), .int .i64 ((k : Int) + 9)]) (writeOk (r := r) O235 13 (by kernel_rfl) 9 (by kernel_rfl) (hasShk_shk (pvx a0h c0h a1h c1h amh cmh p) p bkh dkh K) hfit (by decide) hright (.inl rfl) (hI.p7 hm) hkl (hI.u64 (by omega)) hw) ?_
         rintro e240 w238 ⟨mB236, md237, rfl, O239⟩
         refine gr (js := [5, 6, 12, 15]) O239.mconsS fun O239 => ?_
         refine sg0 [.qs [22, 23, 24, 25], .o 27, .s 1 [5, 6, 12, 15], .qs [28, 29], .z, .p 1, .a (.r 5), .p 2, .a (.r 6), .p 2] O239 fun w241 O242 => ?_
         refine gS (args := #[.agg #[.int .i64 1, .int .i64 (k : Int), .int .i64 vx, .string (strO p.name), .slice a0g p.pre0.length c0g, .slice a1g p.pre1.length c1g, .slice amg p.msgs.length cmg, .int .i64 S1, .int .i64 uE, .int .i64 uR, .int .i64 uQ, .slice bkg K.length dkg, .int .i64 vk, .int .i64 vh, .int .i64 vc, .bool vb, .int .u64 vn], .pointer (some ⟨r, 0, none⟩), .slice mB236 msg.length md237]) (readOk (msg := msg) (mB := mB236) (md := md237) (r := r) O242 14 (by kernel_rfl) 8 (by kernel_rfl) (hasShk_shk (pvx a0g c0g a1g c1g amg cmg p) p bkg dkg K) hfit (by decide) hright (.inr rfl) (Int.natCast_nonneg _) (hI.p7 hm) hkl (hI.u64 (by omega)) hml (kept2_thing 0 (by kernel_rfl) (by decide) (by decide) (rowI_holds (B := mB236) (d := md237) (l := msg))) hrd) fun w243 O244 => ?_
         refine sg1 [.p 4, .n [], .s 0 [], .p 11, .a (.r 6), .p 1, .a (.r 13), .p 1, .a (iW (8 + (k : Int))), .a (.i _ g0 0 14 (8 + k) rfl (by omega))] O244 fun b246 w247 O248 => ?_
         refine gx [.cell g0 (0 + (8 + k) * 1) (.int .i64 ((k : Int) + 9))] O248 ⟨(rowN_at (g := g0) (d := d0) (n := 14) (l := s100) O248 16 (by kernel_rfl) rfl (s100_8 hk5)), trivial⟩ fun O249 => ?_
         refine sg0 [.a (.r 0), .a (bT (bne_self_eq_false (((k : Int) + 9) : Int))), .p 3, .a (.r 3), .p 1, .a (.r 1), .a (.e (!((wk == wk) && ((wh == wh) && (((wc == wc) && ((wb == wb) && ((wn == wn) && true))) && true)))) false (by simp)), .p 3, .a (.r 3), .p 1, .a (iW ((k : Int) + 1)), .a (bT (bne_self_eq_false (((k : Int) + 1) : Int))), .p 3, .a (.r 1), .p 1, .a (iW ((k : Int) + 1)), .a (bT (bne_self_eq_false (((k : Int) + 1) : Int))), .p 2] O249 fun w250 O251 => ?_
         refine gx [] O251 trivial fun O252 => ?_
         refine sg0 [.d [0, 2, 6], .qs [0], .q 1 (.r 2), .qs [2], .q 3 (.r 2), .qs [4], .q 5 (.r 1), .q 6 (.r 0), .qs [7], .o 8, .s 7 [0, 2, 6], .qs [9], .o 10, .s 7 [0, 2, 6], .z, .a (iW ((k : Int) + 1)), .p 1] O252 fun w253 O254 => ?_
         exact gz _ fun a F => hM31 a _ (k + 1, A2, wx, wE, wR, wQ, wk, wh, wc, wb, wn, zE, zR, zQ) F (O254.as 7) ⟨hk1, h29', hI'⟩ (show p.msgs.length - (k + 1) < p.msgs.length - k by omega)
       · intro O255
         refine gx [.cell g0 (0 + (8 + k) * 1) (.int .i64 ((k : Int) + 9))] O255 ⟨(rowN_at (g := g0) (d := d0) (n := 14) (l := s100) O255 14 (by kernel_rfl) rfl (s100_8 hk5)), trivial⟩ fun O256 => ?_
         refine sg0 [.a (.r 0), .o 12] O256 fun w257 O258 => ?_
         refine gx [.cell g0 (0 + (8 + k) * 1) (.int .i64 ((k : Int) + 9)), .cell g0 (0 + (2 + k) * 1) (.int .i64 ((k : Int) + 3))] O258 ⟨(rowN_at (g := g0) (d := d0) (n := 14) (l := s100) O258 14 (by kernel_rfl) rfl (s100_8 hk5)), (rowN_at (g := g0) (d := d0) (n := 14) (l := s100) O258 14 (by kernel_rfl) rfl (s100_2 hk5)), trivial⟩ fun O259 => ?_
         refine sg0 [.a (.r 1), .o 21] O259 fun w260 O261 => ?_
         refine gc (args := #[.agg #[.int .i64 0, .int .i64 (k : Int), .int .i64 vx, .string (strO p.name), .slice a0h p.pre0.length c0h, .slice a1h p.pre1.length c1h, .slice amh p.msgs.length cmh, .int .i64 S0, .int .i64 vE, .int .i64 vR, .int .i64 vQ, .slice bkh K.length dkh, .int .i64 vk, .int .i64 vh, .int .i64 vc, .bool vb, .int .u64 vn], .pointer (some ⟨r, 0, none⟩), .int .i64 ((k : Int) + 3), .int .i64 ((k : Int) + 9)]) (writeOk (r := r) O261 13 (by kernel_rfl) 9 (by kernel_rfl) (hasShk_shk (pvx a0h c0h a1h c1h amh cmh p) p bkh dkh K) hfit (by decide) hright (.inl rfl) (hI.p7 hm) hkl (hI.u64 (by omega)) hw) ?_
         rintro e266 w264 ⟨mB262, md263, rfl, O265⟩
         refine gr (js := [5, 6, 12, 15]) O265.mconsS fun O265 => ?_
         refine sg0 [.qs [22, 23, 24, 25], .o 27, .s 1 [5, 6, 12, 15], .qs [28, 29], .z, .p 1, .a (.r 5), .p 2, .a (.r 6), .p 2] O265 fun w267 O268 => ?_
         refine gS (args := #[.agg #[.int .i64 1, .int .i64 (k : Int), .int .i64 vx, .string (strO p.name), .slice a0g p.pre0.length c0g, .slice a1g p.pre1.length c1g, .slice amg p.msgs.length cmg, .int .i64 S1, .int .i64 uE, .int .i64 uR, .int .i64 uQ, .slice bkg K.length dkg, .int .i64 vk, .int .i64 vh, .int .i64 vc, .bool vb, .int .u64 vn], .pointer (some ⟨r, 0, none⟩), .slice mB262 msg.length md263]) (readOk (msg := msg) (mB := mB262) (md := md263) (r := r) O268 14 (by kernel_rfl) 8 (by kernel_rfl) (hasShk_shk (pvx a0g c0g a1g c1g amg cmg p) p bkg dkg K) hfit (by decide) hright (.inr rfl) (Int.natCast_nonneg _) (hI.p7 hm) hkl (hI.u64 (by omega)) hml (kept2_thing 0 (by kernel_rfl) (by decide) (by decide) (rowI_holds (B := mB262) (d := md263) (l := msg))) hrd) fun w269 O270 => ?_
         refine sg1 [.p 4, .n [], .s 0 [], .p 11, .a (.r 6), .p 1, .a (.r 13), .p 1, .a (iW (8 + (k : Int))), .a (.i _ g0 0 14 (8 + k) rfl (by omega))] O270 fun b272 w273 O274 => ?_
         refine gx [.cell g0 (0 + (8 + k) * 1) (.int .i64 ((k : Int) + 9))] O274 ⟨(rowN_at (g := g0) (d := d0) (n := 14) (l := s100) O274 16 (by kernel_rfl) rfl (s100_8 hk5)), trivial⟩ fun O275 => ?_
         refine sg0 [.a (.r 0), .a (bT (bne_self_eq_false (((k : Int) + 9) : Int))), .p 3, .a (.r 3), .p 1, .a (.r 1), .a (.e (!((wk == wk) && ((wh == wh) && (((wc == wc) && ((wb == wb) && ((wn == wn) && true))) && true)))) false (by simp)), .p 3, .a (.r 3), .p 1, .a (iW ((k : Int) + 1)), .a (bT (bne_self_eq_false (((k : Int) + 1) : Int))), .p 3, .a (.r 1), .p 1, .a (iW ((k : Int) + 1)), .a (bT (bne_self_eq_false (((k : Int) + 1) : Int))), .p 2] O275 fun w276 O277 => ?_
         refine gx [] O277 trivial fun O278 => ?_
         refine sg0 [.d [0, 2, 6], .qs [0], .q 1 (.r 2), .qs [2], .q 3 (.r 2), .qs [4], .q 5 (.r 1), .q 6 (.r 0), .qs [7], .o 8, .s 7 [0, 2, 6], .qs [9], .o 10, .s 7 [0, 2, 6], .z, .a (iW ((k : Int) + 1)), .p 1] O278 fun w279 O280 => ?_
         exact gz _ fun a F => hM31 a _ (k + 1, A2, wx, wE, wR, wQ, wk, wh, wc, wb, wn, zE, zR, zQ) F (O280.as 7) ⟨hk1, h29', hI'⟩ (show p.msgs.length - (k + 1) < p.msgs.length - k by omega)
   · have hsd0 : sendsP p 0 (k : Int) = false := by rw [sends_at hm, hfr]; rfl
     have hsd1 : sendsP p 1 (k : Int) = true := by rw [sends_at hm, hfr]; rfl
     obtain ⟨A2, wx, wE, wR, wQ, wk, wh, wc, wb, wn, zE, zR, zQ, msg, hw, hrd, h29', hml, hI'⟩ := (hI.go hright hm h29).2 hfr
     refine sg0 [.p 1, .a (.i _ mb mq p.msgs.length k hA hk1)] O34 fun w281 O282 => ?_
     refine gx [.cell mb (mq + k * 2) (.int .i64 1), .cell mb (mq + k * 2 + 1) (.slice D m.t.length d)] O282 ⟨((hcell _ O282.below).1.trans (by rw [hfr])), (hcell _ O282.below).2, trivial⟩ fun O283 => ?_
     refine sg1 [.a (.l [0, 1]), .n [], .p 1, .s 0 [], .p 1, .a (.r 0), .p 1, .a (.r 1)] O283 fun b284 w285 O286 => ?_
     refine gi (args := #[.agg #[.int .i64 1, .int .i64 (k : Int), .int .i64 vx, .string (strO p.name), .slice a0g p.pre0.length c0g, .slice a1g p.pre1.length c1g, .slice amg p.msgs.length cmg, .int .i64 S1, .int .i64 uE, .int .i64 uR, .int .i64 uQ, .slice bkg K.length dkg, .int .i64 vk, .int .i64 vh, .int .i64 vc, .bool vb, .int .u64 vn]]) Tryz.func23 O286 fun O286i => ?_
     refine sg1 [.n [], .p 2, .a (.r 0), .p 1, .a (.r 0), .p 1, .a (.r 0)] O286i fun b287 w288 O289 => ?_
     refine gU (args := #[.agg #[.string (strO p.name), .slice a0g p.pre0.length c0g, .slice a1g p.pre1.length c1g, .slice amg p.msgs.length cmg], .int .i64 1, .int .i64 (k : Int)]) (sendsX (role := 1) (n := (k : Int)) O289 4 (by kernel_rfl) (hasShk_shk (pvx a0g c0g a1g c1g amg cmg p) p bkg dkg K).hasPat hfit hsd1) fun w290 O291 => ?_
     refine sg0 [.p 1] O291 fun w293 O294 => ?_
     refine gir [] O294 fun O295 => ?_
     refine sg0 [.p 3, .a (.r 1), .p 2, .a (.r 2)] O295 fun w296 O297 => ?_
     refine gi (args := #[.agg #[.int .i64 0, .int .i64 (k : Int), .int .i64 vx, .string (strO p.name), .slice a0h p.pre0.length c0h, .slice a1h p.pre1.length c1h, .slice amh p.msgs.length cmh, .int .i64 S0, .int .i64 vE, .int .i64 vR, .int .i64 vQ, .slice bkh K.length dkh, .int .i64 vk, .int .i64 vh, .int .i64 vc, .bool vb, .int .u64 vn]]) Tryz.func23 O297 fun O297i => ?_
     refine sg1 [.n [], .p 2, .a (.r 0), .p 1, .a (.r 0), .p 1, .a (.r 0)] O297i fun b298 w299 O300 => ?_
     refine gU (args := #[.agg #[.string (strO p.name), .slice a0h p.pre0.length c0h, .slice a1h p.pre1.length c1h, .slice amh p.msgs.length cmh], .int .i64 0, .int .i64 (k : Int)]) (sendsX (role := 0) (n := (k : Int)) O300 7 (by kernel_rfl) (hasShk_shk (pvx a0h c0h a1h c1h amh cmh p) p bkh dkh K).hasPat hfit hsd0) fun w301 O302 => ?_
     refine sg0 [.p 1] O302 fun w304 O305 => ?_
     refine gir [] O305 fun O306 => ?_
     refine sg0 [.p 3, .a (.r 3)] O306 fun w307 O308 => ?_
     refine gi (args := #[.agg #[.int .i64 0, .int .i64 (k : Int), .int .i64 vx, .string (strO p.name), .slice a0h p.pre0.length c0h, .slice a1h p.pre1.length c1h, .slice amh p.msgs.length cmh, .int .i64 S0, .int .i64 vE, .int .i64 vR, .int .i64 vQ, .slice bkh K.length dkh, .int .i64 vk, .int .i64 vh, .int .i64 vc, .bool vb, .int .u64 vn]]) Tryz.func24 O308 fun O308i => ?_
     refine sg1 [.n [], .p 2, .a (.r 0), .p 2, .a (.r 0), .p 1, .a (bT (decide_eq_false (p := ((k : Int) ≥ (p.msgs.length : Int))) (by omega))), .p 1] O308i fun b309 w310 O311 => ?_
     refine gir [] O311 fun O312 => ?_
     refine sg0 [.p 2, .d [3, 4, 10, 14], .qs [0], .q 1 (.r 0), .qs [2], .q 3 (.r 1), .qs [4, 5], .q 6 (.r 0), .qs [7], .q 8 (.r 2), .qs [9], .q 10 (iW (2 + (k : Int))), .q 11 (.i _ g1 0 14 (2 + k) rfl (by omega)), .qs [13], .q 14 (.r 0), .qs [15], .q 16 (.r 2), .qs [17], .q 18 (iW (8 + (k : Int))), .q 19 (.i _ g1 0 14 (8 + k) rfl (by omega))] O312 fun w313 O314 => ?_
     refine gA [12, 20, 26] O314 ⟨?_, ?_, ?_, trivial⟩
     · intro O315
       refine gx [.cell g1 (0 + (2 + k) * 1) (.int .i64 ((k : Int) + 17))] O315 ⟨(rowN_at (g := g1) (d := d1) (n := 14) (l := s200) O315 14 (by kernel_rfl) rfl (s200_2 hk5)), trivial⟩ fun O316 => ?_
       refine sg0 [.a (.r 0)] O316 fun w317 O318 => ?_
       refine gA [20, 26] O318 ⟨?_, ?_, trivial⟩
       · intro O319
         refine gx [.cell g1 (0 + (2 + k) * 1) (.int .i64 ((k : Int) + 17)), .cell g1 (0 + (8 + k) * 1) (.int .i64 ((k : Int) + 23))] O319 ⟨(rowN_at (g := g1) (d := d1) (n := 14) (l := s200) O319 14 (by kernel_rfl) rfl (s200_2 hk5)), (rowN_at (g := g1) (d := d1) (n := 14) (l := s200) O319 14 (by kernel_rfl) rfl (s200_8 hk5)), trivial⟩ fun O320 => ?_
         refine sg0 [.a (.r 1)] O320 fun w321 O322 => ?_
         refine gA [21, 26] O322 ⟨?_, ?_, trivial⟩
         · intro O323
           refine gc (args := #[.agg #[.int .i64 1, .int .i64 (k : Int), .int .i64 vx, .string (strO p.name), .slice a0g p.pre0.length c0g, .slice a1g p.pre1.length c1g, .slice amg p.msgs.length cmg, .int .i64 S1, .int .i64 uE, .int .i64 uR, .int .i64 uQ, .slice bkg K.length dkg, .int .i64 vk, .int .i64 vh, .int .i64 vc, .bool vb, .int .u64 vn], .pointer (some ⟨r, 0, none⟩), .int .i64 ((k : Int) + 17), .int .i64 ((k : Int) + 23)]) (writeOk (r := r) O323 12 (by kernel_rfl) 6 (by kernel_rfl) (hasShk_shk (pvx a0g c0g a1g c1g amg cmg p) p bkg dkg K) hfit (by decide) hright (.inr rfl) (hI.p7 hm) hkl (hI.u64 (by omega)) hw) ?_
           rintro e328 w326 ⟨mB324, md325, rfl, O327⟩
           refine gr (js := [4, 5, 11, 15]) O327.mconsS fun O327 => ?_
           refine sg1 [.qs [22, 23, 24, 25], .o 26, .n [5, 6, 12, 16], .o 27, .s 0 [5, 6, 12, 16], .qs [28, 29], .z, .p 1, .a (.r 5), .p 2, .a (.r 6), .p 2] O327 fun b329 w330 O331 => ?_
           refine gS (args := #[.agg #[.int .i64 0, .int .i64 (k : Int), .int .i64 vx, .string (strO p.name), .slice a0h p.pre0.length c0h, .slice a1h p.pre1.length c1h, .slice amh p.msgs.length cmh, .int .i64 S0, .int .i64 vE, .int .i64 vR, .int .i64 vQ, .slice bkh K.length dkh, .int .i64 vk, .int .i64 vh, .int .i64 vc, .bool vb, .int .u64 vn], .pointer (some ⟨r, 0, none⟩), .slice mB324 msg.length md325]) (readOk (msg := msg) (mB := mB324) (md := md325) (r := r) O331 14 (by kernel_rfl) 10 (by kernel_rfl) (hasShk_shk (pvx a0h c0h a1h c1h amh cmh p) p bkh dkh K) hfit (by decide) hright (.inl rfl) (Int.natCast_nonneg _) (hI.p7 hm) hkl (hI.u64 (by omega)) hml (kept2_thing 1 (by kernel_rfl) (by decide) (by decide) (rowI_holds (B := mB324) (d := md325) (l := msg))) hrd) fun w332 O333 => ?_
           refine sg1 [.p 4, .n [], .s 0 [], .p 11, .a (.r 6), .p 1, .a (.r 13), .p 1, .a (iW (8 + (k : Int))), .a (.i _ g1 0 14 (8 + k) rfl (by omega))] O333 fun b335 w336 O337 => ?_
           refine gx [.cell g1 (0 + (8 + k) * 1) (.int .i64 ((k : Int) + 23))] O337 ⟨(rowN_at (g := g1) (d := d1) (n := 14) (l := s200) O337 17 (by kernel_rfl) rfl (s200_8 hk5)), trivial⟩ fun O338 => ?_
           refine sg0 [.a (.r 0), .a (bT (bne_self_eq_false (((k : Int) + 23) : Int))), .p 3, .a (.r 2), .p 1, .a (.r 1), .a (.e (!((wk == wk) && ((wh == wh) && (((wc == wc) && ((wb == wb) && ((wn == wn) && true))) && true)))) false (by simp)), .p 3, .a (.r 2), .p 1, .a (iW ((k : Int) + 1)), .a (bT (bne_self_eq_false (((k : Int) + 1) : Int))), .p 3, .a (.r 1), .p 1, .a (iW ((k : Int) + 1)), .a (bT (bne_self_eq_false (((k : Int) + 1) : Int))), .p 2] O338 fun w339 O340 => ?_
           refine gx [] O340 trivial fun O341 => ?_
           refine sg0 [.d [0, 1, 6], .qs [0], .q 1 (.r 2), .qs [2], .q 3 (.r 2), .qs [4], .q 5 (.r 1), .q 6 (.r 0), .qs [7], .o 8, .s 7 [0, 1, 6], .qs [9], .o 10, .s 7 [0, 1, 6], .z, .a (iW ((k : Int) + 1)), .p 1] O341 fun w342 O343 => ?_
           exact gz _ fun a F => hM31 a _ (k + 1, A2, wx, wE, wR, wQ, wk, wh, wc, wb, wn, zE, zR, zQ) F (O343.as 7) ⟨hk1, h29', hI'⟩ (show p.msgs.length - (k + 1) < p.msgs.length - k by omega)
         · intro O344
           refine sg1 [.n [4, 5, 11, 15], .o 21] O344 fun b345 w346 O347 => ?_
           refine gc (args := #[.agg #[.int .i64 1, .int .i64 (k : Int), .int .i64 vx, .string (strO p.name), .slice a0g p.pre0.length c0g, .slice a1g p.pre1.length c1g, .slice amg p.msgs.length cmg, .int .i64 S1, .int .i64 uE, .int .i64 uR, .int .i64 uQ, .slice bkg K.length dkg, .int .i64 vk, .int .i64 vh, .int .i64 vc, .bool vb, .int .u64 vn], .pointer (some ⟨r, 0, none⟩), .int .i64 ((k : Int) + 17), .int .i64 ((k : Int) + 23)]) (writeOk (r := r) O347 13 (by kernel_rfl) 7 (by kernel_rfl) (hasShk_shk (pvx a0g c0g a1g c1g amg cmg p) p bkg dkg K) hfit (by decide) hright (.inr rfl) (hI.p7 hm) hkl (hI.u64 (by omega)) hw) ?_
           rintro e352 w350 ⟨mB348, md349, rfl, O351⟩
           refine gr (js := [5, 6, 12, 16]) O351.mconsS fun O351 => ?_
           refine sg0 [.qs [22, 23, 24, 25], .o 27, .s 1 [5, 6, 12, 16], .qs [28, 29], .z, .p 1, .a (.r 5), .p 2, .a (.r 6), .p 2] O351 fun w353 O354 => ?_
           refine gS (args := #[.agg #[.int .i64 0, .int .i64 (k : Int), .int .i64 vx, .string (strO p.name), .slice a0h p.pre0.length c0h, .slice a1h p.pre1.length c1h, .slice amh p.msgs.length cmh, .int .i64 S0, .int .i64 vE, .int .i64 vR, .int .i64 vQ, .slice bkh K.length dkh, .int .i64 vk, .int .i64 vh, .int .i64 vc, .bool vb, .int .u64 vn], .pointer (some ⟨r, 0, none⟩), .slice mB348 msg.length md349]) (readOk (msg := msg) (mB := mB348) (md := md349) (r := r) O354 14 (by kernel_rfl) 10 (by kernel_rfl) (hasShk_shk (pvx a0h c0h a1h c1h amh cmh p) p bkh dkh K) hfit (by decide) hright (.inl rfl) (Int.natCast_nonneg _) (hI.p7 hm) hkl (hI.u64 (by omega)) hml (kept2_thing 0 (by kernel_rfl) (by decide) (by decide) (rowI_holds (B := mB348) (d := md349) (l := msg))) hrd) fun w355 O356 => ?_
           refine sg1 [.p 4, .n [], .s 0 [], .p 11, .a (.r 6), .p 1, .a (.r 13), .p 1, .a (iW (8 + (k : Int))), .a (.i _ g1 0 14 (8 + k) rfl (by omega))] O356 fun b358 w359 O360 => ?_
           refine gx [.cell g1 (0 + (8 + k) * 1) (.int .i64 ((k : Int) + 23))] O360 ⟨(rowN_at (g := g1) (d := d1) (n := 14) (l := s200) O360 17 (by kernel_rfl) rfl (s200_8 hk5)), trivial⟩ fun O361 => ?_
           refine sg0 [.a (.r 0), .a (bT (bne_self_eq_false (((k : Int) + 23) : Int))), .p 3, .a (.r 3), .p 1, .a (.r 1), .a (.e (!((wk == wk) && ((wh == wh) && (((wc == wc) && ((wb == wb) && ((wn == wn) && true))) && true)))) false (by simp)), .p 3, .a (.r 3), .p 1, .a (iW ((k : Int) + 1)), .a (bT (bne_self_eq_false (((k : Int) + 1) : Int))), .p 3, .a (.r 1), .p 1, .a (iW ((k : Int) + 1)), .a (bT (bne_self_eq_false (((k : Int) + 1) : Int))), .p 2] O361 fun w362 O363 => ?_
           refine gx [] O363 trivial fun O364 => ?_
           refine sg0 [.d [0, 2, 6], .qs [0], .q 1 (.r 2), .qs [2], .q 3 (.r 2), .qs [4], .q 5 (.r 1), .q 6 (.r 0), .qs [7], .o 8, .s 7 [0, 2, 6], .qs [9], .o 10, .s 7 [0, 2, 6], .z, .a (iW ((k : Int) + 1)), .p 1] O364 fun w365 O366 => ?_
           exact gz _ fun a F => hM31 a _ (k + 1, A2, wx, wE, wR, wQ, wk, wh, wc, wb, wn, zE, zR, zQ) F (O366.as 7) ⟨hk1, h29', hI'⟩ (show p.msgs.length - (k + 1) < p.msgs.length - k by omega)
       · intro O367
         refine sg1 [.n [4, 5, 11, 15], .o 20] O367 fun b368 w369 O370 => ?_
         refine gx [.cell g1 (0 + (8 + k) * 1) (.int .i64 ((k : Int) + 23))] O370 ⟨(rowN_at (g := g1) (d := d1) (n := 14) (l := s200) O370 15 (by kernel_rfl) rfl (s200_8 hk5)), trivial⟩ fun O371 => ?_
         refine sg0 [.a (.r 0), .o 21] O371 fun w372 O373 => ?_
         refine gc (args := #[.agg #[.int .i64 1, .int .i64 (k : Int), .int .i64 vx, .string (strO p.name), .slice a0g p.pre0.length c0g, .slice a1g p.pre1.length c1g, .slice amg p.msgs.length cmg, .int .i64 S1, .int .i64 uE, .int .i64 uR, .int .i64 uQ, .slice bkg K.length dkg, .int .i64 vk, .int .i64 vh, .int .i64 vc, .bool vb, .int .u64 vn], .pointer (some ⟨r, 0, none⟩), .int .i64 ((k : Int) + 17), .int .i64 ((k : Int) + 23)]) (writeOk (r := r) O373 13 (by kernel_rfl) 7 (by kernel_rfl) (hasShk_shk (pvx a0g c0g a1g c1g amg cmg p) p bkg dkg K) hfit (by decide) hright (.inr rfl) (hI.p7 hm) hkl (hI.u64 (by omega)) hw) ?_
         rintro e378 w376 ⟨mB374, md375, rfl, O377⟩
         refine gr (js := [5, 6, 12, 16]) O377.mconsS fun O377 => ?_
         refine sg0 [.qs [22, 23, 24, 25], .o 27, .s 1 [5, 6, 12, 16], .qs [28, 29], .z, .p 1, .a (.r 5), .p 2, .a (.r 6), .p 2] O377 fun w379 O380 => ?_
         refine gS (args := #[.agg #[.int .i64 0, .int .i64 (k : Int), .int .i64 vx, .string (strO p.name), .slice a0h p.pre0.length c0h, .slice a1h p.pre1.length c1h, .slice amh p.msgs.length cmh, .int .i64 S0, .int .i64 vE, .int .i64 vR, .int .i64 vQ, .slice bkh K.length dkh, .int .i64 vk, .int .i64 vh, .int .i64 vc, .bool vb, .int .u64 vn], .pointer (some ⟨r, 0, none⟩), .slice mB374 msg.length md375]) (readOk (msg := msg) (mB := mB374) (md := md375) (r := r) O380 14 (by kernel_rfl) 10 (by kernel_rfl) (hasShk_shk (pvx a0h c0h a1h c1h amh cmh p) p bkh dkh K) hfit (by decide) hright (.inl rfl) (Int.natCast_nonneg _) (hI.p7 hm) hkl (hI.u64 (by omega)) hml (kept2_thing 0 (by kernel_rfl) (by decide) (by decide) (rowI_holds (B := mB374) (d := md375) (l := msg))) hrd) fun w381 O382 => ?_
         refine sg1 [.p 4, .n [], .s 0 [], .p 11, .a (.r 6), .p 1, .a (.r 13), .p 1, .a (iW (8 + (k : Int))), .a (.i _ g1 0 14 (8 + k) rfl (by omega))] O382 fun b384 w385 O386 => ?_
         refine gx [.cell g1 (0 + (8 + k) * 1) (.int .i64 ((k : Int) + 23))] O386 ⟨(rowN_at (g := g1) (d := d1) (n := 14) (l := s200) O386 17 (by kernel_rfl) rfl (s200_8 hk5)), trivial⟩ fun O387 => ?_
         refine sg0 [.a (.r 0), .a (bT (bne_self_eq_false (((k : Int) + 23) : Int))), .p 3, .a (.r 3), .p 1, .a (.r 1), .a (.e (!((wk == wk) && ((wh == wh) && (((wc == wc) && ((wb == wb) && ((wn == wn) && true))) && true)))) false (by simp)), .p 3, .a (.r 3), .p 1, .a (iW ((k : Int) + 1)), .a (bT (bne_self_eq_false (((k : Int) + 1) : Int))), .p 3, .a (.r 1), .p 1, .a (iW ((k : Int) + 1)), .a (bT (bne_self_eq_false (((k : Int) + 1) : Int))), .p 2] O387 fun w388 O389 => ?_
         refine gx [] O389 trivial fun O390 => ?_
         refine sg0 [.d [0, 2, 6], .qs [0], .q 1 (.r 2), .qs [2], .q 3 (.r 2), .qs [4], .q 5 (.r 1), .q 6 (.r 0), .qs [7], .o 8, .s 7 [0, 2, 6], .qs [9], .o 10, .s 7 [0, 2, 6], .z, .a (iW ((k : Int) + 1)), .p 1] O390 fun w391 O392 => ?_
         exact gz _ fun a F => hM31 a _ (k + 1, A2, wx, wE, wR, wQ, wk, wh, wc, wb, wn, zE, zR, zQ) F (O392.as 7) ⟨hk1, h29', hI'⟩ (show p.msgs.length - (k + 1) < p.msgs.length - k by omega)
     · intro O393
       refine gx [.cell g1 (0 + (8 + k) * 1) (.int .i64 ((k : Int) + 23))] O393 ⟨(rowN_at (g := g1) (d := d1) (n := 14) (l := s200) O393 14 (by kernel_rfl) rfl (s200_8 hk5)), trivial⟩ fun O394 => ?_
       refine sg0 [.a (.r 0)] O394 fun w395 O396 => ?_
       refine gA [12, 26] O396 ⟨?_, ?_, trivial⟩
       · intro O397
         refine gx [.cell g1 (0 + (8 + k) * 1) (.int .i64 ((k : Int) + 23)), .cell g1 (0 + (2 + k) * 1) (.int .i64 ((k : Int) + 17))] O397 ⟨(rowN_at (g := g1) (d := d1) (n := 14) (l := s200) O397 14 (by kernel_rfl) rfl (s200_8 hk5)), (rowN_at (g := g1) (d := d1) (n := 14) (l := s200) O397 14 (by kernel_rfl) rfl (s200_2 hk5)), trivial⟩ fun O398 => ?_
         refine sg0 [.a (.r 1)] O398 fun w399 O400 => ?_
         refine gA [21, 26] O400 ⟨?_, ?_, trivial⟩
         · intro O401
           refine gc (args := #[.agg #[.int .i64 1, .int .i64 (k : Int), .int .i64 vx, .string (strO p.name), .slice a0g p.pre0.length c0g, .slice a1g p.pre1.length c1g, .slice amg p.msgs.length cmg, .int .i64 S1, .int .i64 uE, .int .i64 uR, .int .i64 uQ, .slice bkg K.length dkg, .int .i64 vk, .int .i64 vh, .int .i64 vc, .bool vb, .int .u64 vn], .pointer (some ⟨r, 0, none⟩), .int .i64 ((k : Int) + 17), .int .i64 ((k : Int) + 23)]) (writeOk (r := r) O401 12 (by kernel_rfl) 6 (by kernel_rfl) (hasShk_shk (pvx a0g c0g a1g c1g amg cmg p) p bkg dkg K) hfit (by decide) hright (.inr rfl) (hI.p7 hm) hkl (hI.u64 (by omega)) hw) ?_
           rintro e406 w404 ⟨mB402, md403, rfl, O405⟩
           refine gr (js := [4, 5, 11, 15]) O405.mconsS fun O405 => ?_
           refine sg1 [.qs [22, 23, 24, 25], .o 26, .n [5, 6, 12, 16], .o 27, .s 0 [5, 6, 12, 16], .qs [28, 29], .z, .p 1, .a (.r 5), .p 2, .a (.r 6), .p 2] O405 fun b407 w408 O409 => ?_
           refine gS (args := #[.agg #[.int .i64 0, .int .i64 (k : Int), .int .i64 vx, .string (strO p.name), .slice a0h p.pre0.length c0h, .slice a1h p.pre1.length c1h, .slice amh p.msgs.length cmh, .int .i64 S0, .int .i64 vE, .int .i64 vR, .int .i64 vQ, .slice bkh K.length dkh, .int .i64 vk, .int .i64 vh, .int .i64 vc, .bool vb, .int .u64 vn], .pointer (some ⟨r, 0, none⟩), .slice mB402 msg.length md403]) (readOk (msg := msg) (mB := mB402) (md := md403) (r := r) O409 14 (by kernel_rfl) 10 (by kernel_rfl) (hasShk_shk (pvx a0h c0h a1h c1h amh cmh p) p bkh dkh K) hfit (by decide) hright (.inl rfl) (Int.natCast_nonneg _) (hI.p7 hm) hkl (hI.u64 (by omega)) hml (kept2_thing 1 (by kernel_rfl) (by decide) (by decide) (rowI_holds (B := mB402) (d := md403) (l := msg))) hrd) fun w410 O411 => ?_
           refine sg1 [.p 4, .n [], .s 0 [], .p 11, .a (.r 6), .p 1, .a (.r 13), .p 1, .a (iW (8 + (k : Int))), .a (.i _ g1 0 14 (8 + k) rfl (by omega))] O411 fun b413 w414 O415 => ?_
           refine gx [.cell g1 (0 + (8 + k) * 1) (.int .i64 ((k : Int) + 23))] O415 ⟨(rowN_at (g := g1) (d := d1) (n := 14) (l := s200) O415 17 (by kernel_rfl) rfl (s200_8 hk5)), trivial⟩ fun O416 => ?_
           refine sg0 [.a (.r 0), .a (bT (bne_self_eq_false (((k : Int) + 23) : Int))), .p 3, .a (.r 2), .p 1, .a (.r 1), .a (.e (!((wk == wk) && ((wh == wh) && (((wc == wc) && ((wb == wb) && ((wn == wn) && true))) && true)))) false (by simp)), .p 3, .a (.r 2), .p 1, .a (iW ((k : Int) + 1)), .a (bT (bne_self_eq_false (((k : Int) + 1) : Int))), .p 3, .a (.r 1), .p 1, .a (iW ((k : Int) + 1)), .a (bT (bne_self_eq_false (((k : Int) + 1) : Int))), .p 2] O416 fun w417 O418 => ?_
           refine gx [] O418 trivial fun O419 => ?_
           refine sg0 [.d [0, 1, 6], .qs [0], .q 1 (.r 2), .qs [2], .q 3 (.r 2), .qs [4], .q 5 (.r 1), .q 6 (.r 0), .qs [7], .o 8, .s 7 [0, 1, 6], .qs [9], .o 10, .s 7 [0, 1, 6], .z, .a (iW ((k : Int) + 1)), .p 1] O419 fun w420 O421 => ?_
           exact gz _ fun a F => hM31 a _ (k + 1, A2, wx, wE, wR, wQ, wk, wh, wc, wb, wn, zE, zR, zQ) F (O421.as 7) ⟨hk1, h29', hI'⟩ (show p.msgs.length - (k + 1) < p.msgs.length - k by omega)
         · intro O422
           refine sg1 [.n [4, 5, 11, 15], .o 21] O422 fun b423 w424 O425 => ?_
           refine gc (args := #[.agg #[.int .i64 1, .int .i64 (k : Int), .int .i64 vx, .string (strO p.name), .slice a0g p.pre0.length c0g, .slice a1g p.pre1.length c1g, .slice amg p.msgs.length cmg, .int .i64 S1, .int .i64 uE, .int .i64 uR, .int .i64 uQ, .slice bkg K.length dkg, .int .i64 vk, .int .i64 vh, .int .i64 vc, .bool vb, .int .u64 vn], .pointer (some ⟨r, 0, none⟩), .int .i64 ((k : Int) + 17), .int .i64 ((k : Int) + 23)]) (writeOk (r := r) O425 13 (by kernel_rfl) 7 (by kernel_rfl) (hasShk_shk (pvx a0g c0g a1g c1g amg cmg p) p bkg dkg K) hfit (by decide) hright (.inr rfl) (hI.p7 hm) hkl (hI.u64 (by omega)) hw) ?_
           rintro e430 w428 ⟨mB426, md427, rfl, O429⟩
           refine gr (js := [5, 6, 12, 16]) O429.mconsS fun O429 => ?_
           refine sg0 [.qs [22, 23, 24, 25], .o 27, .s 1 [5, 6, 12, 16], .qs [28, 29], .z, .p 1, .a (.r 5), .p 2, .a (.r 6), .p 2] O429 fun w431 O432 => ?_
           refine gS (args := #[.agg #[.int .i64 0, .int .i64 (k : Int), .int .i64 vx, .string (strO p.name), .slice a0h p.pre0.length c0h, .slice a1h p.pre1.length c1h, .slice amh p.msgs.length cmh, .int .i64 S0, .int .i64 vE, .int .i64 vR, .int .i64 vQ, .slice bkh K.length dkh, .int .i64 vk, .int .i64 vh, .int .i64 vc, .bool vb, .int .u64 vn], .pointer (some ⟨r, 0, none⟩), .slice mB426 msg.length md427]) (readOk (msg := msg) (mB := mB426) (md := md427) (r := r) O432 14 (by kernel_rfl) 10 (by kernel_rfl) (hasShk_shk (pvx a0h c0h a1h c1h amh cmh p) p bkh dkh K) hfit (by decide) hright (.inl rfl) (Int.natCast_nonneg _) (hI.p7 hm) hkl (hI.u64 (by omega)) hml (kept2_thing 0 (by kernel_rfl) (by decide) (by decide) (rowI_holds (B := mB426) (d := md427) (l := msg))) hrd) fun w433 O434 => ?_
           refine sg1 [.p 4, .n [], .s 0 [], .p 11, .a (.r 6), .p 1, .a (.r 13), .p 1, .a (iW (8 + (k : Int))), .a (.i _ g1 0 14 (8 + k) rfl (by omega))] O434 fun b436 w437 O438 => ?_
           refine gx [.cell g1 (0 + (8 + k) * 1) (.int .i64 ((k : Int) + 23))] O438 ⟨(rowN_at (g := g1) (d := d1) (n := 14) (l := s200) O438 17 (by kernel_rfl) rfl (s200_8 hk5)), trivial⟩ fun O439 => ?_
           refine sg0 [.a (.r 0), .a (bT (bne_self_eq_false (((k : Int) + 23) : Int))), .p 3, .a (.r 3), .p 1, .a (.r 1), .a (.e (!((wk == wk) && ((wh == wh) && (((wc == wc) && ((wb == wb) && ((wn == wn) && true))) && true)))) false (by simp)), .p 3, .a (.r 3), .p 1, .a (iW ((k : Int) + 1)), .a (bT (bne_self_eq_false (((k : Int) + 1) : Int))), .p 3, .a (.r 1), .p 1, .a (iW ((k : Int) + 1)), .a (bT (bne_self_eq_false (((k : Int) + 1) : Int))), .p 2] O439 fun w440 O441 => ?_
           refine gx [] O441 trivial fun O442 => ?_
           refine sg0 [.d [0, 2, 6], .qs [0], .q 1 (.r 2), .qs [2], .q 3 (.r 2), .qs [4], .q 5 (.r 1), .q 6 (.r 0), .qs [7], .o 8, .s 7 [0, 2, 6], .qs [9], .o 10, .s 7 [0, 2, 6], .z, .a (iW ((k : Int) + 1)), .p 1] O442 fun w443 O444 => ?_
           exact gz _ fun a F => hM31 a _ (k + 1, A2, wx, wE, wR, wQ, wk, wh, wc, wb, wn, zE, zR, zQ) F (O444.as 7) ⟨hk1, h29', hI'⟩ (show p.msgs.length - (k + 1) < p.msgs.length - k by omega)
       · intro O445
         refine sg1 [.n [4, 5, 11, 15], .o 12] O445 fun b446 w447 O448 => ?_
         refine gx [.cell g1 (0 + (2 + k) * 1) (.int .i64 ((k : Int) + 17))] O448 ⟨(rowN_at (g := g1) (d := d1) (n := 14) (l := s200) O448 15 (by kernel_rfl) rfl (s200_2 hk5)), trivial⟩ fun O449 => ?_
         refine sg0 [.a (.r 0), .o 21] O449 fun w450 O451 => ?_
         refine gc (args := #[.agg #[.int .i64 1, .int .i64 (k : Int), .int .i64 vx, .string (strO p.name), .slice a0g p.pre0.length c0g, .slice a1g p.pre1.length c1g, .slice amg p.msgs.length cmg, .int .i64 S1, .int .i64 uE, .int .i64 uR, .int .i64 uQ, .slice bkg K.length dkg, .int .i64 vk, .int .i64 vh, .int .i64 vc, .bool vb, .int .u64 vn], .pointer (some ⟨r, 0, none⟩), .int .i64 ((k : Int) + 17), .int .i64 ((k : Int) + 23)]) (writeOk (r := r) O451 13 (by kernel_rfl) 7 (by kernel_rfl) (hasShk_shk (pvx a0g c0g a1g c1g amg cmg p) p bkg dkg K) hfit (by decide) hright (.inr rfl) (hI.p7 hm) hkl (hI.u64 (by omega)) hw) ?_
         rintro e456 w454 ⟨mB452, md453, rfl, O455⟩
         refine gr (js := [5, 6, 12, 16]) O455.mconsS fun O455 => ?_
         refine sg0 [.qs [22, 23, 24, 25], .o 27, .s 1 [5, 6, 12, 16], .qs [28, 29], .z, .p 1, .a (.r 5), .p 2, .a (.r 6), .p 2] O455 fun w457 O458 => ?_
         refine gS (args := #[.agg #[.int .i64 0, .int .i64 (k : Int), .int .i64 vx, .string (strO p.name), .slice a0h p.pre0.length c0h, .slice a1h p.pre1.length c1h, .slice amh p.msgs.length cmh, .int .i64 S0, .int .i64 vE, .int .i64 vR, .int .i64 vQ, .slice bkh K.length dkh, .int .i64 vk, .int .i64 vh, .int .i64 vc, .bool vb, .int .u64 vn], .pointer (some ⟨r, 0, none⟩), .slice mB452 msg.length md453]) (readOk (msg := msg) (mB := mB452) (md := md453) (r := r) O458 14 (by kernel_rfl) 10 (by kernel_rfl) (hasShk_shk (pvx a0h c0h a1h c1h amh cmh p) p bkh dkh K) hfit (by decide) hright (.inl rfl) (Int.natCast_nonneg _) (hI.p7 hm) hkl (hI.u64 (by omega)) hml (kept2_thing 0 (by kernel_rfl) (by decide) (by decide) (rowI_holds (B := mB452) (d := md453) (l := msg))) hrd) fun w459 O460 => ?_
         refine sg1 [.p 4, .n [], .s 0 [], .p 11, .a (.r 6), .p 1, .a (.r 13), .p 1, .a (iW (8 + (k : Int))), .a (.i _ g1 0 14 (8 + k) rfl (by omega))] O460 fun b462 w463 O464 => ?_
         refine gx [.cell g1 (0 + (8 + k) * 1) (.int .i64 ((k : Int) + 23))] O464 ⟨(rowN_at (g := g1) (d := d1) (n := 14) (l := s200) O464 17 (by kernel_rfl) rfl (s200_8 hk5)), trivial⟩ fun O465 => ?_
         refine sg0 [.a (.r 0), .a (bT (bne_self_eq_false (((k : Int) + 23) : Int))), .p 3, .a (.r 3), .p 1, .a (.r 1), .a (.e (!((wk == wk) && ((wh == wh) && (((wc == wc) && ((wb == wb) && ((wn == wn) && true))) && true)))) false (by simp)), .p 3, .a (.r 3), .p 1, .a (iW ((k : Int) + 1)), .a (bT (bne_self_eq_false (((k : Int) + 1) : Int))), .p 3, .a (.r 1), .p 1, .a (iW ((k : Int) + 1)), .a (bT (bne_self_eq_false (((k : Int) + 1) : Int))), .p 2] O465 fun w466 O467 => ?_
         refine gx [] O467 trivial fun O468 => ?_
         refine sg0 [.d [0, 2, 6], .qs [0], .q 1 (.r 2), .qs [2], .q 3 (.r 2), .qs [4], .q 5 (.r 1), .q 6 (.r 0), .qs [7], .o 8, .s 7 [0, 2, 6], .qs [9], .o 10, .s 7 [0, 2, 6], .z, .a (iW ((k : Int) + 1)), .p 1] O468 fun w469 O470 => ?_
         exact gz _ fun a F => hM31 a _ (k + 1, A2, wx, wE, wR, wQ, wk, wh, wc, wb, wn, zE, zR, zQ) F (O470.as 7) ⟨hk1, h29', hI'⟩ (show p.msgs.length - (k + 1) < p.msgs.length - k by omega)
     · intro O471
       refine sg1 [.n [4, 5, 11, 15]] O471 fun b472 w473 O474 => ?_
       refine gA [12, 20] O474 ⟨?_, ?_, trivial⟩
       · intro O475
         refine gx [.cell g1 (0 + (2 + k) * 1) (.int .i64 ((k : Int) + 17))] O475 ⟨(rowN_at (g := g1) (d := d1) (n := 14) (l := s200) O475 15 (by kernel_rfl) rfl (s200_2 hk5)), trivial⟩ fun O476 => ?_
         refine sg0 [.a (.r 0), .o 20] O476 fun w477 O478 => ?_
         refine gx [.cell g1 (0 + (2 + k) * 1) (.int .i64 ((k : Int) + 17)), .cell g1 (0 + (8 + k) * 1) (.int .i64 ((k : Int) + 23))] O478 ⟨(rowN_at (g := g1) (d := d1) (n := 14) (l := s200) O478 15 (by kernel_rfl) rfl (s200_2 hk5)), (rowN_at (g := g1) (d := d1) (n := 14) (l := s200) O478 15 (by kernel_rfl) rfl (s200_8 hk5)), trivial⟩ fun O479 => ?_
         refine sg0 [.a (.r 1), .o 21] O479 fun w480 O481 => ?_
         refine gc (args := #[.agg #[.int .i64 1, .int .i64 (k : Int), .int .i64 vx, .string (strO p.name), .slice a0g p.pre0.length c0g, .slice a1g p.pre1.length c1g, .slice amg p.msgs.length cmg, .int .i64 S1, .int .i64 uE, .int .i64 uR, .int .i64 uQ, .slice bkg K.length dkg, .int .i64 vk, .int .i64 vh, .int .i64 vc, .bool vb, .int .u64 vn], .pointer (some ⟨r, 0, none⟩), .int .i64 ((k : Int) + 17), .int .i64 ((k : Int) + 23)]) (writeOk (r := r) O481 13 (by kernel_rfl) 7 (by kernel_rfl) (hasShk_shk (pvx a0g c0g a1g c1g amg cmg p) p bkg dkg K) hfit (by decide) hright (.inr rfl) (hI.p7 hm) hkl (hI.u64 (by omega)) hw) ?_
         rintro e486 w484 ⟨mB482, md483, rfl, O485⟩
         refine gr (js := [5, 6, 12, 16]) O485.mconsS fun O485 => ?_
         refine sg0 [.qs [22, 23, 24, 25], .o 27, .s 1 [5, 6, 12, 16], .qs [28, 29], .z, .p 1, .a (.r 5), .p 2, .a (.r 6), .p 2] O485 fun w487 O488 => ?_
         refine gS (args := #[.agg #[.int .i64 0, .int .i64 (k : Int), .int .i64 vx, .string (strO p.name), .slice a0h p.pre0.length c0h, .slice a1h p.pre1.length c1h, .slice amh p.msgs.length cmh, .int .i64 S0, .int .i64 vE, .int .i64 vR, .int .i64 vQ, .slice bkh K.length dkh, .int .i64 vk, .int .i64 vh, .int .i64 vc, .bool vb, .int .u64 vn], .pointer (some ⟨r, 0, none⟩), .slice mB482 msg.length md483]) (readOk (msg := msg) (mB := mB482) (md := md483) (r := r) O488 14 (by kernel_rfl) 10 (by kernel_rfl) (hasShk_shk (pvx a0h c0h a1h c1h amh cmh p) p bkh dkh K) hfit (by decide) hright (.inl rfl) (Int.natCast_nonneg _) (hI.p7 hm) hkl (hI.u64 (by omega)) hml (kept2_thing 0 (by kernel_rfl) (by decide) (by decide) (rowI_holds (B := mB482) (d := md483) (l := msg))) hrd) fun w489 O490 => ?_
         refine sg1 [.p 4, .n [], .s 0 [], .p 11, .a (.r 6), .p 1, .a (.r 13), .p 1, .a (iW (8 + (k : Int))), .a (.i _ g1 0 14 (8 + k) rfl (by omega))] O490 fun b492 w493 O494 => ?_
         refine gx [.cell g1 (0 + (8 + k) * 1) (.int .i64 ((k : Int) + 23))] O494 ⟨(rowN_at (g := g1) (d := d1) (n := 14) (l := s200) O494 17 (by kernel_rfl) rfl (s200_8 hk5)), trivial⟩ fun O495 => ?_
         refine sg0 [.a (.r 0), .a (bT (bne_self_eq_false (((k : Int) + 23) : Int))), .p 3, .a (.r 3), .p 1, .a (.r 1), .a (.e (!((wk == wk) && ((wh == wh) && (((wc == wc) && ((wb == wb) && ((wn == wn) && true))) && true)))) false (by simp)), .p 3, .a (.r 3), .p 1, .a (iW ((k : Int) + 1)), .a (bT (bne_self_eq_false (((k : Int) + 1) : Int))), .p 3, .a (.r 1), .p 1, .a (iW ((k : Int) + 1)), .a (bT (bne_self_eq_false (((k : Int) + 1) : Int))), .p 2] O495 fun w496 O497 => ?_
         refine gx [] O497 trivial fun O498 => ?_
         refine sg0 [.d [0, 2, 6], .qs [0], .q 1 (.r 2), .qs [2], .q 3 (.r 2), .qs [4], .q 5 (.r 1), .q 6 (.r 0), .qs [7], .o 8, .s 7 [0, 2, 6], .qs [9], .o 10, .s 7 [0, 2, 6], .z, .a (iW ((k : Int) + 1)), .p 1] O498 fun w499 O500 => ?_
         exact gz _ fun a F => hM31 a _ (k + 1, A2, wx, wE, wR, wQ, wk, wh, wc, wb, wn, zE, zR, zQ) F (O500.as 7) ⟨hk1, h29', hI'⟩ (show p.msgs.length - (k + 1) < p.msgs.length - k by omega)
       · intro O501
         refine gx [.cell g1 (0 + (8 + k) * 1) (.int .i64 ((k : Int) + 23))] O501 ⟨(rowN_at (g := g1) (d := d1) (n := 14) (l := s200) O501 15 (by kernel_rfl) rfl (s200_8 hk5)), trivial⟩ fun O502 => ?_
         refine sg0 [.a (.r 0), .o 12] O502 fun w503 O504 => ?_
         refine gx [.cell g1 (0 + (8 + k) * 1) (.int .i64 ((k : Int) + 23)), .cell g1 (0 + (2 + k) * 1) (.int .i64 ((k : Int) + 17))] O504 ⟨(rowN_at (g := g1) (d := d1) (n := 14) (l := s200) O504 15 (by kernel_rfl) rfl (s200_8 hk5)), (rowN_at (g := g1) (d := d1) (n := 14) (l := s200) O504 15 (by kernel_rfl) rfl (s200_2 hk5)), trivial⟩ fun O505 => ?_
         refine sg0 [.a (.r 1), .o 21] O505 fun w506 O507 => ?_
         refine gc (args := #[.agg #[.int .i64 1, .int .i64 (k : Int), .int .i64 vx, .string (strO p.name), .slice a0g p.pre0.length c0g, .slice a1g p.pre1.length c1g, .slice amg p.msgs.length cmg, .int .i64 S1, .int .i64 uE, .int .i64 uR, .int .i64 uQ, .slice bkg K.length dkg, .int .i64 vk, .int .i64 vh, .int .i64 vc, .bool vb, .int .u64 vn], .pointer (some ⟨r, 0, none⟩), .int .i64 ((k : Int) + 17), .int .i64 ((k : Int) + 23)]) (writeOk (r := r) O507 13 (by kernel_rfl) 7 (by kernel_rfl) (hasShk_shk (pvx a0g c0g a1g c1g amg cmg p) p bkg dkg K) hfit (by decide) hright (.inr rfl) (hI.p7 hm) hkl (hI.u64 (by omega)) hw) ?_
         rintro e512 w510 ⟨mB508, md509, rfl, O511⟩
         refine gr (js := [5, 6, 12, 16]) O511.mconsS fun O511 => ?_
         refine sg0 [.qs [22, 23, 24, 25], .o 27, .s 1 [5, 6, 12, 16], .qs [28, 29], .z, .p 1, .a (.r 5), .p 2, .a (.r 6), .p 2] O511 fun w513 O514 => ?_
         refine gS (args := #[.agg #[.int .i64 0, .int .i64 (k : Int), .int .i64 vx, .string (strO p.name), .slice a0h p.pre0.length c0h, .slice a1h p.pre1.length c1h, .slice amh p.msgs.length cmh, .int .i64 S0, .int .i64 vE, .int .i64 vR, .int .i64 vQ, .slice bkh K.length dkh, .int .i64 vk, .int .i64 vh, .int .i64 vc, .bool vb, .int .u64 vn], .pointer (some ⟨r, 0, none⟩), .slice mB508 msg.length md509]) (readOk (msg := msg) (mB := mB508) (md := md509) (r := r) O514 14 (by kernel_rfl) 10 (by kernel_rfl) (hasShk_shk (pvx a0h c0h a1h c1h amh cmh p) p bkh dkh K) hfit (by decide) hright (.inl rfl) (Int.natCast_nonneg _) (hI.p7 hm) hkl (hI.u64 (by omega)) hml (kept2_thing 0 (by kernel_rfl) (by decide) (by decide) (rowI_holds (B := mB508) (d := md509) (l := msg))) hrd) fun w515 O516 => ?_
         refine sg1 [.p 4, .n [], .s 0 [], .p 11, .a (.r 6), .p 1, .a (.r 13), .p 1, .a (iW (8 + (k : Int))), .a (.i _ g1 0 14 (8 + k) rfl (by omega))] O516 fun b518 w519 O520 => ?_
         refine gx [.cell g1 (0 + (8 + k) * 1) (.int .i64 ((k : Int) + 23))] O520 ⟨(rowN_at (g := g1) (d := d1) (n := 14) (l := s200) O520 17 (by kernel_rfl) rfl (s200_8 hk5)), trivial⟩ fun O521 => ?_
         refine sg0 [.a (.r 0), .a (bT (bne_self_eq_false (((k : Int) + 23) : Int))), .p 3, .a (.r 3), .p 1, .a (.r 1), .a (.e (!((wk == wk) && ((wh == wh) && (((wc == wc) && ((wb == wb) && ((wn == wn) && true))) && true)))) false (by simp)), .p 3, .a (.r 3), .p 1, .a (iW ((k : Int) + 1)), .a (bT (bne_self_eq_false (((k : Int) + 1) : Int))), .p 3, .a (.r 1), .p 1, .a (iW ((k : Int) + 1)), .a (bT (bne_self_eq_false (((k : Int) + 1) : Int))), .p 2] O521 fun w522 O523 => ?_
         refine gx [] O523 trivial fun O524 => ?_
         refine sg0 [.d [0, 2, 6], .qs [0], .q 1 (.r 2), .qs [2], .q 3 (.r 2), .qs [4], .q 5 (.r 1), .q 6 (.r 0), .qs [7], .o 8, .s 7 [0, 2, 6], .qs [9], .o 10, .s 7 [0, 2, 6], .z, .a (iW ((k : Int) + 1)), .p 1] O524 fun w525 O526 => ?_
         exact gz _ fun a F => hM31 a _ (k + 1, A2, wx, wE, wR, wQ, wk, wh, wc, wb, wn, zE, zR, zQ) F (O526.as 7) ⟨hk1, h29', hI'⟩ (show p.msgs.length - (k + 1) < p.msgs.length - k by omega)
 · have h32p : ¬ ((k : Int) < (p.msgs.length : Int)) := by simpa only [decide_eq_true_eq, decide_eq_false_iff_not] using h32
   have hlen : p.msgs.length = k := by have := h32p; omega
   refine sg0 [.a (bT h32), .p 2, .a (.r 0), .p 1] O29 fun w527 O528 => ?_
   obtain ⟨A2, ⟨q1, q2, q3⟩, ⟨s1, s2, s3⟩, hc0, hc1, -, hne, hhas, -⟩ := hI.done hlen
   have hhas : q2 = true := hhas
   subst hhas
   refine gS (args := #[.agg #[.int .i64 0, .int .i64 (k : Int), .int .i64 vx, .string (strO p.name), .slice a0h p.pre0.length c0h, .slice a1h p.pre1.length c1h, .slice amh p.msgs.length cmh, .int .i64 S0, .int .i64 vE, .int .i64 vR, .int .i64 vQ, .slice bkh K.length dkh, .int .i64 vk, .int .i64 vh, .int .i64 vc, .bool vb, .int .u64 vn], .pointer (some ⟨r, 0, none⟩)]) (ciphersE (r := r) (psks := K) O528 8 (by kernel_rfl) hc0) fun w529 O530 => ?_
   refine sg2 [.p 4, .n [], .n [], .s 1 [], .s 0 [], .p 2, .a (.r 2), .p 1] O530 fun b532 b533 w534 O535 => ?_
   refine gS (args := #[.agg #[.int .i64 1, .int .i64 (k : Int), .int .i64 vx, .string (strO p.name), .slice a0g p.pre0.length c0g, .slice a1g p.pre1.length c1g, .slice amg p.msgs.length cmg, .int .i64 S1, .int .i64 uE, .int .i64 uR, .int .i64 uQ, .slice bkg K.length dkg, .int .i64 vk, .int .i64 vh, .int .i64 vc, .bool vb, .int .u64 vn], .pointer (some ⟨r, 0, none⟩)]) (ciphersE (r := r) (psks := K) O535 10 (by kernel_rfl) hc1) fun w536 O537 => ?_
   refine sg2 [.p 4, .n [], .n [], .s 1 [], .s 0 [], .p 8, .a (.r 3), .a (.r 0), .a (.e (((q1 == q1) && ((true == true) && ((q3 == q3) && true)))) true (by simp [])), .p 2, .a (.r 2), .a (.r 1), .a (.e (((s1 == s1) && ((s2 == s2) && ((s3 == s3) && true)))) true (by simp)), .p 2, .a (.r 3), .a (.r 2), .a (.e (!((q1 == s1) && ((true == s2) && ((q3 == s3) && true)))) true (ci_ne hne)), .p 3, .a (.r 3), .p 3, .a (.r 4)] O537 fun b539 b540 w541 O542 => ?_
   refine gi (args := #[.agg #[.int .i64 0, .int .i64 (k : Int), .int .i64 vx, .string (strO p.name), .slice a0h p.pre0.length c0h, .slice a1h p.pre1.length c1h, .slice amh p.msgs.length cmh, .int .i64 S0, .int .i64 vE, .int .i64 vR, .int .i64 vQ, .slice bkh K.length dkh, .int .i64 vk, .int .i64 vh, .int .i64 vc, .bool vb, .int .u64 vn]]) Tryz.func24 O542 fun O542i => ?_
   refine sg1 [.n [], .p 2, .a (.r 0), .p 2, .a (.r 0), .p 1, .a (bT (decide_eq_true (p := ((k : Int) ≥ (p.msgs.length : Int))) (by omega))), .p 1] O542i fun b543 w544 O545 => ?_
   refine gir [] O545 fun O546 => ?_
   refine sg0 [.p 3, .a (.r 5)] O546 fun w547 O548 => ?_
   refine gi (args := #[.agg #[.int .i64 1, .int .i64 (k : Int), .int .i64 vx, .string (strO p.name), .slice a0g p.pre0.length c0g, .slice a1g p.pre1.length c1g, .slice amg p.msgs.length cmg, .int .i64 S1, .int .i64 uE, .int .i64 uR, .int .i64 uQ, .slice bkg K.length dkg, .int .i64 vk, .int .i64 vh, .int .i64 vc, .bool vb, .int .u64 vn]]) Tryz.func24 O548 fun O548i => ?_
   refine sg1 [.n [], .p 2, .a (.r 0), .p 2, .a (.r 0), .p 1, .a (bT (decide_eq_true (p := ((k : Int) ≥ (p.msgs.length : Int))) (by omega))), .p 1] O548i fun b549 w550 O551 => ?_
   refine gir [] O551 fun O552 => ?_
   refine sg0 [.p 2] O552 fun w553 O554 => ?_
   refine gU (args := #[]) (awake12E O554 henv) fun w555 O556 => ?_
   refine sg0 [.p 2] O556 fun w558 O559 => ?_
   exact gret [] O559 (⟨rfl, O559.below⟩)
end Go.Proofs.YtikimmgileffgaaGreatDoor
