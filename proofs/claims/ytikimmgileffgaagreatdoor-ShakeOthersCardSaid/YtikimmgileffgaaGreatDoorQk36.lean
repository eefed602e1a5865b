/- Packed by packn.py: LawD. -/
import Derived.Test.YtikimmgileffgaaGreatDoorQk35
namespace Go.Proofs.YtikimmgileffgaaGreatDoor
open Go.RowKit
set_option warningAsError false in
set_option maxRecDepth 100000 in
set_option maxHeartbeats 8000000 in
theorem others_none {w : World} {a0 a1 am uB : Option Addr} {c0 c1 cm ud : Nat} {p : Pat} {us : List Int} {lim ams chg : Int} (henv : EnvB w) (hp : PatIn w (Old w) (pvx a0 c0 a1 c1 am cm p) p) (hfit : PatFits p) (hU : Holds w uB (u64V us)) (hus : ∀ u ∈ us, U64 u) {pb : Bool} (hno : ¬ (fewP p = true ∧ us.length ≤ 10)) :
    Calls Tryz.prog 4 #[.agg #[.string (strO p.name), .slice a0 p.pre0.length c0, .slice a1 p.pre1.length c1, .slice am p.msgs.length cm, .slice uB us.length ud, .int .i64 lim, .int .u8 ams, .int .u8 chg], .bool pb] w (fun e' w' => e' = .returned (.bool true) ∧ Below w.heap.size w w') := by
 have O0 := Own.start w
 replace O0 : Own w w (List.map Ent.t []) := O0
 refine gent O0 Tryz.func4 ?_
 refine sg1 [.n [], .p 1, .a (.r 0)] O0 fun b1 w2 O3 => ?_
 refine gU (args := #[.agg #[.string (strO p.name), .slice a0 p.pre0.length c0, .slice a1 p.pre1.length c1, .slice am p.msgs.length cm, .slice uB us.length ud, .int .i64 lim, .int .u8 ams, .int .u8 chg]]) (arenasN O3 hp hfit hno hU hus) fun w4 O5 => ?_
 refine sg3 [.p 6, .n [], .n [], .n [], .p 1, .s 2 [], .s 1 [], .s 0 [], .p 20] O5 fun b7 b8 b9 w10 O11 => ?_
 refine gU (args := #[]) (awake12E O11 henv) fun w12 O13 => ?_
 refine sg0 [.p 1] O13 fun w15 O16 => ?_
 exact gret [] O16 (⟨rfl, O16.below⟩)
set_option warningAsError false in
set_option maxRecDepth 100000 in
set_option maxHeartbeats 8000000 in
theorem others_anon {w : World} {a0 a1 am uB : Option Addr} {c0 c1 cm ud : Nat} {p : Pat} {us K : List Int} {lim ams chg : Int} {At : Ar} {rs0 re0 rs1 re1 : Int} (henv : EnvB w) (hp : PatIn w (Old w) (pvx a0 c0 a1 c1 am cm p) p) (hfit : PatFits p) (hU : Holds w uB (u64V us)) (hus : ∀ u ∈ us, U64 u) (hfew : fewP p = true) (hul : us.length ≤ 10) (ht : twoC us = ⟨At, rs0, re0, K, rs1, re1, K⟩) {pb : Bool} (hname : (((strO p.name) : ByteArray).toList == (⟨#[]⟩ : ByteArray).toList) = true) :
    Calls Tryz.prog 4 #[.agg #[.string (strO p.name), .slice a0 p.pre0.length c0, .slice a1 p.pre1.length c1, .slice am p.msgs.length cm, .slice uB us.length ud, .int .i64 lim, .int .u8 ams, .int .u8 chg], .bool pb] w (fun e' w' => e' = .returned (.bool true) ∧ Below w.heap.size w w') := by
 have O0 := Own.start w
 replace O0 : Own w w (List.map Ent.t []) := O0
 refine gent O0 Tryz.func4 ?_
 refine sg1 [.n [], .p 1, .a (.r 0)] O0 fun b1 w2 O3 => ?_
 refine gc (args := #[.agg #[.string (strO p.name), .slice a0 p.pre0.length c0, .slice a1 p.pre1.length c1, .slice am p.msgs.length cm, .slice uB us.length ud, .int .i64 lim, .int .u8 ams, .int .u8 chg]]) (arenasY O3 hp hfit hfew hul hU hus ht) ?_
 rintro e6 w4 ⟨r, g0, d0, g1, d1, B0, e0, B1, e1, nB, nm, nd_, rfl, O5⟩
 refine gr (O5.frontE [.thing (arena r At), .thing (rowT 3 1 (.slice (some ⟨g0, 0, none⟩) 14 d0) 14 (intsV s100)), .thing (rowT 3 1 (.slice (some ⟨g1, 0, none⟩) 14 d1) 14 (intsV s200)), .thing (rowT 3 1 (.slice B0 K.length e0) K.length (intsV K)), .thing (rowT 3 1 (.slice B1 K.length e1) K.length (intsV K))]) fun O7 => ?_
 refine gL 1 (.row 3 1 g0 14 d0 [.int .i64 1, .int .i64 2, .int .i64 3, .int .i64 4, .int .i64 5, .int .i64 6, .int .i64 7, .int .i64 8, .int .i64 9, .int .i64 10, .int .i64 11, .int .i64 12, .int .i64 13, .int .i64 14]) O7 fun O8 => ?_
 refine gL 2 (.row 3 1 g1 14 d1 [.int .i64 15, .int .i64 16, .int .i64 17, .int .i64 18, .int .i64 19, .int .i64 20, .int .i64 21, .int .i64 22, .int .i64 23, .int .i64 24, .int .i64 25, .int .i64 26, .int .i64 27, .int .i64 28]) O8 fun O9 => ?_
 refine sg3 [.p 6, .n [], .n [], .n [], .p 1, .s 2 [], .s 1 [], .s 0 [], .p 6, .a (.r 8), .a (bT hname), .p 12] O9 fun b10 b11 b12 w13 O14 => ?_
 refine gU (args := #[]) (awake12E O14 henv) fun w15 O16 => ?_
 refine sg0 [.p 1] O16 fun w18 O19 => ?_
 exact gret [] O19 (⟨rfl, O19.below⟩)
set_option warningAsError false in
set_option maxRecDepth 100000 in
set_option maxHeartbeats 8000000 in
theorem others_short {w : World} {a0 a1 am uB : Option Addr} {c0 c1 cm ud : Nat} {p : Pat} {us K : List Int} {lim ams chg : Int} {At : Ar} {rs0 re0 rs1 re1 : Int} (henv : EnvB w) (hp : PatIn w (Old w) (pvx a0 c0 a1 c1 am cm p) p) (hfit : PatFits p) (hU : Holds w uB (u64V us)) (hus : ∀ u ∈ us, U64 u) (hfew : fewP p = true) (hul : us.length ≤ 10) (ht : twoC us = ⟨At, rs0, re0, K, rs1, re1, K⟩) (hname : (((strO p.name) : ByteArray).toList == (⟨#[]⟩ : ByteArray).toList) = false) (hus0 : (us.length : Int) = 0) :
    Calls Tryz.prog 4 #[.agg #[.string (strO p.name), .slice a0 p.pre0.length c0, .slice a1 p.pre1.length c1, .slice am p.msgs.length cm, .slice uB us.length ud, .int .i64 lim, .int .u8 ams, .int .u8 chg], .bool false] w (fun e' w' => e' = .returned (.bool true) ∧ Below w.heap.size w w') := by
 have O0 := Own.start w
 replace O0 : Own w w (List.map Ent.t []) := O0
 refine gent O0 Tryz.func4 ?_
 refine sg1 [.n [], .p 1, .a (.r 0)] O0 fun b1 w2 O3 => ?_
 refine gc (args := #[.agg #[.string (strO p.name), .slice a0 p.pre0.length c0, .slice a1 p.pre1.length c1, .slice am p.msgs.length cm, .slice uB us.length ud, .int .i64 lim, .int .u8 ams, .int .u8 chg]]) (arenasY O3 hp hfit hfew hul hU hus ht) ?_
 rintro e6 w4 ⟨r, g0, d0, g1, d1, B0, e0, B1, e1, nB, nm, nd_, rfl, O5⟩
 refine gr (O5.frontE [.thing (arena r At), .thing (rowT 3 1 (.slice (some ⟨g0, 0, none⟩) 14 d0) 14 (intsV s100)), .thing (rowT 3 1 (.slice (some ⟨g1, 0, none⟩) 14 d1) 14 (intsV s200)), .thing (rowT 3 1 (.slice B0 K.length e0) K.length (intsV K)), .thing (rowT 3 1 (.slice B1 K.length e1) K.length (intsV K))]) fun O7 => ?_
 refine gL 1 (.row 3 1 g0 14 d0 [.int .i64 1, .int .i64 2, .int .i64 3, .int .i64 4, .int .i64 5, .int .i64 6, .int .i64 7, .int .i64 8, .int .i64 9, .int .i64 10, .int .i64 11, .int .i64 12, .int .i64 13, .int .i64 14]) O7 fun O8 => ?_
 refine gL 2 (.row 3 1 g1 14 d1 [.int .i64 15, .int .i64 16, .int .i64 17, .int .i64 18, .int .i64 19, .int .i64 20, .int .i64 21, .int .i64 22, .int .i64 23, .int .i64 24, .int .i64 25, .int .i64 26, .int .i64 27, .int .i64 28]) O8 fun O9 => ?_
 refine sg3 [.p 6, .n [], .n [], .n [], .p 1, .s 2 [], .s 1 [], .s 0 [], .p 6, .a (.r 8), .a (bT hname), .p 6, .a (.r 8), .p 1, .a (bT (beq_t hus0)), .p 3] O9 fun b10 b11 b12 w13 O14 => ?_
 refine gU (args := #[]) (awake12E O14 henv) fun w15 O16 => ?_
 refine sg0 [.p 1] O16 fun w18 O19 => ?_
 exact gret [] O19 (⟨rfl, O19.below⟩)
set_option warningAsError false in
set_option maxRecDepth 100000 in
set_option maxHeartbeats 8000000 in
theorem others_pro_why {w : World} {a0 a1 am uB : Option Addr} {c0 c1 cm ud : Nat} {p : Pat} {us K : List Int} {lim ams chg : Int} {At : Ar} {rs0 re0 rs1 re1 : Int} (henv : EnvB w) (hp : PatIn w (Old w) (pvx a0 c0 a1 c1 am cm p) p) (hfit : PatFits p) (hU : Holds w uB (u64V us)) (hus : ∀ u ∈ us, U64 u) (hfew : fewP p = true) (hul : us.length ≤ 10) (ht : twoC us = ⟨At, rs0, re0, K, rs1, re1, K⟩) (hname : (((strO p.name) : ByteArray).toList == (⟨#[]⟩ : ByteArray).toList) = false) (hkl : K.length * 8 ≤ 8000000) {W : Int} (hW : ¬ W = 0) (hs0 : startC At p 0 0 ⟨1, 2, rs0, re0, K⟩ = (At, Sy.zero, W)) (hs1 : startC At p 1 14 ⟨15, 16, rs1, re1, K⟩ = (At, Sy.zero, W)) :
    Calls Tryz.prog 4 #[.agg #[.string (strO p.name), .slice a0 p.pre0.length c0, .slice a1 p.pre1.length c1, .slice am p.msgs.length cm, .slice uB us.length ud, .int .i64 lim, .int .u8 ams, .int .u8 chg], .bool true] w (fun e' w' => e' = .returned (.bool true) ∧ Below w.heap.size w w') := by
 have O0 := Own.start w
 replace O0 : Own w w (List.map Ent.t []) := O0
 refine gent O0 Tryz.func4 ?_
 refine sg1 [.n [], .p 1, .a (.r 0)] O0 fun b1 w2 O3 => ?_
 refine gc (args := #[.agg #[.string (strO p.name), .slice a0 p.pre0.length c0, .slice a1 p.pre1.length c1, .slice am p.msgs.length cm, .slice uB us.length ud, .int .i64 lim, .int .u8 ams, .int .u8 chg]]) (arenasY O3 hp hfit hfew hul hU hus ht) ?_
 rintro e6 w4 ⟨r, g0, d0, g1, d1, B0, e0, B1, e1, nB, nm, nd_, rfl, O5⟩
 refine gr (O5.frontE [.thing (arena r At), .thing (rowT 3 1 (.slice (some ⟨g0, 0, none⟩) 14 d0) 14 (intsV s100)), .thing (rowT 3 1 (.slice (some ⟨g1, 0, none⟩) 14 d1) 14 (intsV s200)), .thing (rowT 3 1 (.slice B0 K.length e0) K.length (intsV K)), .thing (rowT 3 1 (.slice B1 K.length e1) K.length (intsV K))]) fun O7 => ?_
 refine gL 1 (.row 3 1 g0 14 d0 [.int .i64 1, .int .i64 2, .int .i64 3, .int .i64 4, .int .i64 5, .int .i64 6, .int .i64 7, .int .i64 8, .int .i64 9, .int .i64 10, .int .i64 11, .int .i64 12, .int .i64 13, .int .i64 14]) O7 fun O8 => ?_
 refine gL 2 (.row 3 1 g1 14 d1 [.int .i64 15, .int .i64 16, .int .i64 17, .int .i64 18, .int .i64 19, .int .i64 20, .int .i64 21, .int .i64 22, .int .i64 23, .int .i64 24, .int .i64 25, .int .i64 26, .int .i64 27, .int .i64 28]) O8 fun O9 => ?_
 refine sg3 [.p 6, .n [], .n [], .n [], .p 1, .s 2 [], .s 1 [], .s 0 [], .p 6, .a (.r 8), .a (bT hname), .p 16, .a (.r 1), .p 1, .a (.r 4), .p 3, .a (.r 8), .p 1, .a (.r 0)] O9 fun b10 b11 b12 w13 O14 => ?_
 refine gS (args := #[.pointer (some ⟨r, 0, none⟩), .agg #[.string (strO p.name), .slice a0 p.pre0.length c0, .slice a1 p.pre1.length c1, .slice am p.msgs.length cm], .int .i64 0, .int .i64 0, .agg #[.int .i64 1, .int .i64 2, .int .i64 rs0, .int .i64 re0, .slice B0 K.length e0]]) (startN (.inl rfl) (psks := K) (B := B0) (dB := e0) (p := p) (A := At) O14 3 (by kernel_rfl) (kept_old fun _ hb => hp.below hb) hfit henv.str (kept_thing 6 _ (by kernel_rfl) (by decide) (rowI_holds (B := B0) (d := e0) (l := K))) (by first | omega | (simp only [List.length_cons] at hkl ⊢; omega)) hW hs0) fun w15 O16 => ?_
 refine sg1 [.p 3, .n [], .s 0 [], .p 3, .a (.r 9), .p 2, .a (.r 1)] O16 fun b18 w19 O20 => ?_
 refine gS (args := #[.pointer (some ⟨r, 0, none⟩), .agg #[.string (strO p.name), .slice a0 p.pre0.length c0, .slice a1 p.pre1.length c1, .slice am p.msgs.length cm], .int .i64 1, .int .i64 14, .agg #[.int .i64 15, .int .i64 16, .int .i64 rs1, .int .i64 re1, .slice B1 K.length e1]]) (startN (.inr rfl) (psks := K) (B := B1) (dB := e1) (p := p) (A := At) O20 4 (by kernel_rfl) (kept_old fun _ hb => hp.below hb) hfit henv.str (kept_thing 8 _ (by kernel_rfl) (by decide) (rowI_holds (B := B1) (d := e1) (l := K))) (by first | omega | (simp only [List.length_cons] at hkl ⊢; omega)) hW hs1) fun w21 O22 => ?_
 refine sg1 [.p 3, .n [], .s 0 [], .p 2, .a (bT (bne_t hW)), .p 5] O22 fun b24 w25 O26 => ?_
 refine gU (args := #[]) (awake12E O26 henv) fun w27 O28 => ?_
 refine sg0 [.p 1] O28 fun w30 O31 => ?_
 exact gret [] O31 (⟨rfl, O31.below⟩)
set_option warningAsError false in
set_option maxRecDepth 100000 in
set_option maxHeartbeats 8000000 in
theorem others_pro_all {w : World} {a0 a1 am uB : Option Addr} {c0 c1 cm ud : Nat} {p : Pat} {us K : List Int} {lim ams chg : Int} {At : Ar} {rs0 re0 rs1 re1 : Int} (henv : EnvB w) (hp : PatIn w (Old w) (pvx a0 c0 a1 c1 am cm p) p) (hfit : PatFits p) (hU : Holds w uB (u64V us)) (hus : ∀ u ∈ us, U64 u) (hfew : fewP p = true) (hul : us.length ≤ 10) (ht : twoC us = ⟨At, rs0, re0, K, rs1, re1, K⟩) (hname : (((strO p.name) : ByteArray).toList == (⟨#[]⟩ : ByteArray).toList) = false) (hw : whyC p ⟨1, 2, rs0, re0, K⟩ = 0) :
    Calls Tryz.prog 4 #[.agg #[.string (strO p.name), .slice a0 p.pre0.length c0, .slice a1 p.pre1.length c1, .slice am p.msgs.length cm, .slice uB us.length ud, .int .i64 lim, .int .u8 ams, .int .u8 chg], .bool true] w (fun e' w' => e' = .returned (.bool true) ∧ Below w.heap.size w w') := by
 have O0 := Own.start w
 replace O0 : Own w w (List.map Ent.t []) := O0
 obtain ⟨hright, A1, A2, S0, E0, R0, Q0, S1, E1, R1, Q1, ck, hh, cc, cb, cn, dk, dh, dc, db, dn, n1, n2, n3, n4, n5, n6, n7, n8, hs0, hs1, h29, hI⟩ := others_pro (fun u hu => (hus u hu).1) hul ht hw
 have hkl : K.length * 8 ≤ 8000000 := by have := (two_facts (fun u hu => (hus u hu).1) hul ht).2.2.1; omega
 obtain ⟨-, -, -, hm1, hm6, hwm⟩ := rightP_facts hright
 refine gent O0 Tryz.func4 ?_
 refine sg1 [.n [], .p 1, .a (.r 0)] O0 fun b1 w2 O3 => ?_
 refine gc (args := #[.agg #[.string (strO p.name), .slice a0 p.pre0.length c0, .slice a1 p.pre1.length c1, .slice am p.msgs.length cm, .slice uB us.length ud, .int .i64 lim, .int .u8 ams, .int .u8 chg]]) (arenasY O3 hp hfit hfew hul hU hus ht) ?_
 rintro e6 w4 ⟨r, g0, d0, g1, d1, B0, e0, B1, e1, nB, nm, nd_, rfl, O5⟩
 refine gr (O5.frontE [.thing (arena r At), .thing (rowT 3 1 (.slice (some ⟨g0, 0, none⟩) 14 d0) 14 (intsV s100)), .thing (rowT 3 1 (.slice (some ⟨g1, 0, none⟩) 14 d1) 14 (intsV s200)), .thing (rowT 3 1 (.slice B0 K.length e0) K.length (intsV K)), .thing (rowT 3 1 (.slice B1 K.length e1) K.length (intsV K))]) fun O7 => ?_
 refine gL 1 (.row 3 1 g0 14 d0 [.int .i64 1, .int .i64 2, .int .i64 3, .int .i64 4, .int .i64 5, .int .i64 6, .int .i64 7, .int .i64 8, .int .i64 9, .int .i64 10, .int .i64 11, .int .i64 12, .int .i64 13, .int .i64 14]) O7 fun O8 => ?_
 refine gL 2 (.row 3 1 g1 14 d1 [.int .i64 15, .int .i64 16, .int .i64 17, .int .i64 18, .int .i64 19, .int .i64 20, .int .i64 21, .int .i64 22, .int .i64 23, .int .i64 24, .int .i64 25, .int .i64 26, .int .i64 27, .int .i64 28]) O8 fun O9 => ?_
 refine sg3 [.p 6, .n [], .n [], .n [], .p 1, .s 2 [], .s 1 [], .s 0 [], .p 6, .a (.r 8), .a (bT hname), .p 16, .a (.r 1), .p 1, .a (.r 4), .p 3, .a (.r 8), .p 1, .a (.r 0)] O9 fun b10 b11 b12 w13 O14 => ?_
 refine gc (args := #[.pointer (some ⟨r, 0, none⟩), .agg #[.string (strO p.name), .slice a0 p.pre0.length c0, .slice a1 p.pre1.length c1, .slice am p.msgs.length cm], .int .i64 0, .int .i64 0, .agg #[.int .i64 1, .int .i64 2, .int .i64 rs0, .int .i64 re0, .slice B0 K.length e0]]) (startX (.inl rfl) (psks := K) (B := B0) (dB := e0) (p := p) (A := At) O14 3 (by kernel_rfl) (kept_old fun _ hb => hp.below hb) hfit henv.str (kept_thing 6 _ (by kernel_rfl) (by decide) (rowI_holds (B := B0) (d := e0) (l := K))) (by first | omega | (simp only [List.length_cons] at hkl ⊢; omega)) n1 n2 n3 n4 hs0) ?_
 rintro e17 w15 ⟨a0h, c0h, a1h, c1h, amh, cmh, bkh, dkh, rfl, O16⟩
 refine gr O16.mconsS fun O16 => ?_
 refine sg1 [.p 3, .n [], .s 0 [], .p 3, .a (.r 10), .p 2, .a (.r 2)] O16 fun b18 w19 O20 => ?_
 refine gc (args := #[.pointer (some ⟨r, 0, none⟩), .agg #[.string (strO p.name), .slice a0 p.pre0.length c0, .slice a1 p.pre1.length c1, .slice am p.msgs.length cm], .int .i64 1, .int .i64 14, .agg #[.int .i64 15, .int .i64 16, .int .i64 rs1, .int .i64 re1, .slice B1 K.length e1]]) (startX (.inr rfl) (psks := K) (B := B1) (dB := e1) (p := p) (A := A1) O20 5 (by kernel_rfl) (kept_old fun _ hb => hp.below hb) hfit henv.str (kept_thing 9 _ (by kernel_rfl) (by decide) (rowI_holds (B := B1) (d := e1) (l := K))) (by first | omega | (simp only [List.length_cons] at hkl ⊢; omega)) n5 n6 n7 n8 hs1) ?_
 rintro e23 w21 ⟨a0g, c0g, a1g, c1g, amg, cmg, bkg, dkg, rfl, O22⟩
 refine gr O22.mconsS fun O22 => ?_
 refine sg2 [.p 3, .n [], .s 0 [], .p 8, .a (.r 2), .a (.r 0), .p 1, .n [], .s 0 [], .p 2, .a (.r 13), .p 2] O22 fun b24 b25 w26 O27 => ?_
 refine gl (fun (zz : Nat × Ar × Int × Int × Int × Int × Int × Int × Int × Bool × Int × Int × Int × Int × Int × Int × Int × Bool × Int) => match zz with | (k, Av, vx, vE, vR, vQ, vk, vh, vc, vb, vn, uE, uR, uQ, uk, uh, uc, ub, un) => [(4, .bool false), (5, .pointer (some ⟨r, 0, none⟩)), (7, .pointer (some ⟨b11, 0, none⟩)), (15, .pointer (some ⟨b25, 0, none⟩)), (102, .slice am p.msgs.length cm), (103, .int .i64 (p.msgs.length : Int)), (104, .int .i64 (k : Int))]) (fun (zz : Nat × Ar × Int × Int × Int × Int × Int × Int × Int × Bool × Int × Int × Int × Int × Int × Int × Int × Bool × Int) => match zz with | (k, Av, vx, vE, vR, vQ, vk, vh, vc, vb, vn, uE, uR, uQ, uk, uh, uc, ub, un) => [.blk b25 (.cells #[.int .i64 0, .int .i64 (k : Int), .int .i64 vx, .string (strO p.name), .slice a0h p.pre0.length c0h, .slice a1h p.pre1.length c1h, .slice amh p.msgs.length cmh, .int .i64 S0, .int .i64 vE, .int .i64 vR, .int .i64 vQ, .slice bkh K.length dkh, .int .i64 vk, .int .i64 vh, .int .i64 vc, .bool vb, .int .u64 vn, .int .i64 1, .int .i64 (k : Int), .int .i64 vx, .string (strO p.name), .slice a0g p.pre0.length c0g, .slice a1g p.pre1.length c1g, .slice amg p.msgs.length cmg, .int .i64 S1, .int .i64 uE, .int .i64 uR, .int .i64 uQ, .slice bkg K.length dkg, .int .i64 uk, .int .i64 uh, .int .i64 uc, .bool ub, .int .u64 un] 59), .blk b24 (.cells #[.int .i64 1, .int .i64 0, .int .i64 0, .string (strO p.name), .slice a0g p.pre0.length c0g, .slice a1g p.pre1.length c1g, .slice amg p.msgs.length cmg, .int .i64 S1, .int .i64 E1, .int .i64 R1, .int .i64 Q1, .slice bkg K.length dkg, .int .i64 dk, .int .i64 dh, .int .i64 dc, .bool db, .int .u64 dn] 42), .thing (shkT (pvx a0g c0g a1g c1g amg cmg p) p (.slice bkg K.length dkg) K), .blk b18 (.cells #[.int .i64 0, .int .i64 0, .int .i64 0, .string (strO p.name), .slice a0h p.pre0.length c0h, .slice a1h p.pre1.length c1h, .slice amh p.msgs.length cmh, .int .i64 S0, .int .i64 E0, .int .i64 R0, .int .i64 Q0, .slice bkh K.length dkh, .int .i64 ck, .int .i64 hh, .int .i64 cc, .bool cb, .int .u64 cn] 42), .thing (shkT (pvx a0h c0h a1h c1h amh cmh p) p (.slice bkh K.length dkh) K), .blk b12 (.cells #[.int .i64 1, .int .i64 2, .int .i64 rs0, .int .i64 re0, .slice B0 K.length e0, .int .i64 15, .int .i64 16, .int .i64 rs1, .int .i64 re1, .slice B1 K.length e1] 56), .blk b11 (.cells #[.slice (some ⟨g0, 0, none⟩) 14 d0, .slice (some ⟨g1, 0, none⟩) 14 d1] 30), .blk b10 (.cells #[.int .i64 2000, .slice nB nm nd_] 55), .thing (arena r Av), .row 3 1 g0 14 d0 [.int .i64 1, .int .i64 2, .int .i64 3, .int .i64 4, .int .i64 5, .int .i64 6, .int .i64 7, .int .i64 8, .int .i64 9, .int .i64 10, .int .i64 11, .int .i64 12, .int .i64 13, .int .i64 14], .row 3 1 g1 14 d1 [.int .i64 15, .int .i64 16, .int .i64 17, .int .i64 18, .int .i64 19, .int .i64 20, .int .i64 21, .int .i64 22, .int .i64 23, .int .i64 24, .int .i64 25, .int .i64 26, .int .i64 27, .int .i64 28], .thing (rowT 3 1 (.slice B0 K.length e0) K.length (intsV K)), .thing (rowT 3 1 (.slice B1 K.length e1) K.length (intsV K)), .blk b1 (.cells #[.string (strO p.name), .slice a0 p.pre0.length c0, .slice a1 p.pre1.length c1, .slice am p.msgs.length cm, .slice uB us.length ud, .int .i64 lim, .int .u8 ams, .int .u8 chg] 52)]) (fun (zz : Nat × Ar × Int × Int × Int × Int × Int × Int × Int × Bool × Int × Int × Int × Int × Int × Int × Int × Bool × Int) w => match zz with | (k, Av, vx, vE, vR, vQ, vk, vh, vc, vb, vn, uE, uR, uQ, uk, uh, uc, ub, un) => k ≤ p.msgs.length ∧ 29 ≤ Av.l.length ∧ InvO p S0 S1 K K k Av ⟨(k : Int), vx, vE, vR, vQ, ⟨vk, vh, ⟨vc, vb, vn⟩⟩⟩ ⟨(k : Int), vx, uE, uR, uQ, ⟨uk, uh, ⟨uc, ub, un⟩⟩⟩) (fun (zz : Nat × Ar × Int × Int × Int × Int × Int × Int × Int × Bool × Int × Int × Int × Int × Int × Int × Int × Bool × Int) => match zz with | (k, Av, vx, vE, vR, vQ, vk, vh, vc, vb, vn, uE, uR, uQ, uk, uh, uc, ub, un) => p.msgs.length - k) (0, A2, 0, E0, R0, Q0, ck, hh, cc, cb, cn, E1, R1, Q1, dk, dh, dc, db, dn) (O27.as 0) ⟨(Nat.zero_le _), h29, hI⟩ ?_
 rintro M30 ⟨k, Av, vx, vE, vR, vQ, vk, vh, vc, vb, vn, uE, uR, uQ, uk, uh, uc, ub, un⟩ w28 hM31 O29 ⟨hk0, h29, hI⟩
 rcases Bool.eq_false_or_eq_true (decide ((k : Int) < (p.msgs.length : Int))) with h32 | h32
 · have h32p : ((k : Int) < (p.msgs.length : Int)) := by simpa only [decide_eq_true_eq, decide_eq_false_iff_not] using h32
   have hk1 : k + 1 ≤ p.msgs.length := by have := h32p; omega
   have hk5 : k ≤ 5 := by omega
   obtain ⟨m, hm⟩ : ∃ m, p.msgs[k]? = some m := ⟨_, List.getElem?_eq_getElem hk1⟩
   obtain ⟨mb, mq, D, d, hA, hD, hcell⟩ := msg_at hp.msgs hm
   refine sg0 [.a (bT h32), .p 1] O29 fun w33 O34 => ?_
   rcases (wrongM_facts (hwm m (List.mem_of_getElem? hm))).1 with hfr | hfr
   · obtain ⟨A3, A4, wa, wx, wE, wR, wQ, wk, wh, wc, wb, wn, za, zx, zE, zR, zQ, zk, zh, zc, zb, zn, msg, xx, no, hw, hrd, h29', hml, hno⟩ := (hI.go hright hm h29).1 hfr
     refine sg0 [.p 1, .a (.i _ mb mq p.msgs.length k hA hk1)] O34 fun w35 O36 => ?_
     refine gx [.cell mb (mq + k * 2) (.int .i64 0), .cell mb (mq + k * 2 + 1) (.slice D m.t.length d)] O36 ⟨((hcell _ O36.below).1.trans (by rw [hfr])), (hcell _ O36.below).2, trivial⟩ fun O37 => ?_
     refine sg1 [.a (.l [0, 1]), .n [], .p 1, .s 0 []] O37 fun b38 w39 O40 => ?_
     refine gj false 17 O40 (fun (zz : Nat × Option Addr × Nat) => match zz with | (j41, j42, j43) => [(4, .bool false), (5, .pointer (some ⟨r, 0, none⟩)), (7, .pointer (some ⟨b11, 0, none⟩)), (15, .pointer (some ⟨b25, 0, none⟩)), (17, .pointer (some ⟨b38, 0, none⟩)), (18, .pointer (some ⟨j41, 0, none⟩)), (19, .slice j42 msg.length j43), (20, .int .i64 0), (102, .slice am p.msgs.length cm), (103, .int .i64 (p.msgs.length : Int)), (104, .int .i64 (k : Int))]) (fun (zz : Nat × Option Addr × Nat) => match zz with | (j41, j42, j43) => [.blk j41 (.cells #[.int .i64 0, .int .i64 wa, .int .i64 wx, .string (strO p.name), .slice a0h p.pre0.length c0h, .slice a1h p.pre1.length c1h, .slice amh p.msgs.length cmh, .int .i64 S0, .int .i64 wE, .int .i64 wR, .int .i64 wQ, .slice bkh K.length dkh, .int .i64 wk, .int .i64 wh, .int .i64 wc, .bool wb, .int .u64 wn] 42), .thing (rowT 3 1 (.slice j42 msg.length j43) msg.length (intsV msg)), .blk b38 (.cells #[.int .i64 0, .slice D m.t.length d] 61), .blk b25 (.cells #[.int .i64 0, .int .i64 (k : Int), .int .i64 vx, .string (strO p.name), .slice a0h p.pre0.length c0h, .slice a1h p.pre1.length c1h, .slice amh p.msgs.length cmh, .int .i64 S0, .int .i64 vE, .int .i64 vR, .int .i64 vQ, .slice bkh K.length dkh, .int .i64 vk, .int .i64 vh, .int .i64 vc, .bool vb, .int .u64 vn, .int .i64 1, .int .i64 (k : Int), .int .i64 vx, .string (strO p.name), .slice a0g p.pre0.length c0g, .slice a1g p.pre1.length c1g, .slice amg p.msgs.length cmg, .int .i64 S1, .int .i64 uE, .int .i64 uR, .int .i64 uQ, .slice bkg K.length dkg, .int .i64 uk, .int .i64 uh, .int .i64 uc, .bool ub, .int .u64 un] 59), .blk b24 (.cells #[.int .i64 1, .int .i64 0, .int .i64 0, .string (strO p.name), .slice a0g p.pre0.length c0g, .slice a1g p.pre1.length c1g, .slice amg p.msgs.length cmg, .int .i64 S1, .int .i64 E1, .int .i64 R1, .int .i64 Q1, .slice bkg K.length dkg, .int .i64 dk, .int .i64 dh, .int .i64 dc, .bool db, .int .u64 dn] 42), .thing (shkT (pvx a0g c0g a1g c1g amg cmg p) p (.slice bkg K.length dkg) K), .blk b18 (.cells #[.int .i64 0, .int .i64 0, .int .i64 0, .string (strO p.name), .slice a0h p.pre0.length c0h, .slice a1h p.pre1.length c1h, .slice amh p.msgs.length cmh, .int .i64 S0, .int .i64 E0, .int .i64 R0, .int .i64 Q0, .slice bkh K.length dkh, .int .i64 ck, .int .i64 hh, .int .i64 cc, .bool cb, .int .u64 cn] 42), .thing (shkT (pvx a0h c0h a1h c1h amh cmh p) p (.slice bkh K.length dkh) K), .blk b12 (.cells #[.int .i64 1, .int .i64 2, .int .i64 rs0, .int .i64 re0, .slice B0 K.length e0, .int .i64 15, .int .i64 16, .int .i64 rs1, .int .i64 re1, .slice B1 K.length e1] 56), .blk b11 (.cells #[.slice (some ⟨g0, 0, none⟩) 14 d0, .slice (some ⟨g1, 0, none⟩) 14 d1] 30), .blk b10 (.cells #[.int .i64 2000, .slice nB nm nd_] 55), .thing (arena r A3), .row 3 1 g0 14 d0 [.int .i64 1, .int .i64 2, .int .i64 3, .int .i64 4, .int .i64 5, .int .i64 6, .int .i64 7, .int .i64 8, .int .i64 9, .int .i64 10, .int .i64 11, .int .i64 12, .int .i64 13, .int .i64 14], .row 3 1 g1 14 d1 [.int .i64 15, .int .i64 16, .int .i64 17, .int .i64 18, .int .i64 19, .int .i64 20, .int .i64 21, .int .i64 22, .int .i64 23, .int .i64 24, .int .i64 25, .int .i64 26, .int .i64 27, .int .i64 28], .thing (rowT 3 1 (.slice B0 K.length e0) K.length (intsV K)), .thing (rowT 3 1 (.slice B1 K.length e1) K.length (intsV K)), .blk b1 (.cells #[.string (strO p.name), .slice a0 p.pre0.length c0, .slice a1 p.pre1.length c1, .slice am p.msgs.length cm, .slice uB us.length ud, .int .i64 lim, .int .u8 ams, .int .u8 chg] 52)]) (fun (zz : Nat × Option Addr × Nat) w => match zz with | (j41, j42, j43) => True) ?_ ?_
     · intro _ hM44 O45
       refine sg0 [.d [0, 1, 7, 10], .qs [0], .q 1 (.r 0), .qs [2], .q 3 (.r 1), .qs [4, 5], .q 6 (.r 0), .qs [7], .q 8 (.r 2), .qs [9], .q 10 (iW (2 + (k : Int))), .q 11 (.i _ g0 0 14 (2 + k) rfl (by omega)), .qs [13], .q 14 (.r 0), .qs [15], .q 16 (.r 2), .qs [17], .q 18 (iW (8 + (k : Int))), .q 19 (.i _ g0 0 14 (8 + k) rfl (by omega))] O45 fun w46 O47 => ?_
       refine gA [12, 20, 26] O47 ⟨?_, ?_, ?_, trivial⟩
       · intro O48
         refine gx [.cell g0 (0 + (2 + k) * 1) (.int .i64 ((k : Int) + 3))] O48 ⟨(rowN_at (g := g0) (d := d0) (n := 14) (l := s100) O48 10 (by kernel_rfl) rfl (s100_2 hk5)), trivial⟩ fun O49 => ?_
         refine sg0 [.a (.r 0)] O49 fun w50 O51 => ?_
         refine gA [20, 26] O51 ⟨?_, ?_, trivial⟩
         · intro O52
           refine gx [.cell g0 (0 + (2 + k) * 1) (.int .i64 ((k : Int) + 3)), .cell g0 (0 + (8 + k) * 1) (.int .i64 ((k : Int) + 9))] O52 ⟨(rowN_at (g := g0) (d := d0) (n := 14) (l := s100) O52 10 (by kernel_rfl) rfl (s100_2 hk5)), (rowN_at (g := g0) (d := d0) (n := 14) (l := s100) O52 10 (by kernel_rfl) rfl (s100_8 hk5)), trivial⟩ fun O53 => ?_
           refine sg0 [.a (.r 1)] O53 fun w54 O55 => ?_
           refine gA [21, 26] O55 ⟨?_, ?_, trivial⟩
           · intro O56
             refine gc (writeOk (r := r) O56 9 (by kernel_rfl) 5 (by kernel_rfl) (hasShk_shk (pvx a0h c0h a1h c1h amh cmh p) p bkh dkh K) hfit (by decide) hright (.inl rfl) (hI.p7 hm).1 (by first | omega | (simp only [List.length_cons] at hkl ⊢; omega)) (hI.facts (by omega)).2.2.2.2.2.2.1 hw) ?_
             rintro e61 w59 ⟨mB57, md58, rfl, O60⟩
             refine gr (js := [1, 2, 8, 11]) O60.mconsS fun O60 => ?_
             refine sg1 [.qs [22, 23, 24, 25], .o 26, .n [2, 3, 9, 12], .o 27, .s 0 [2, 3, 9, 12], .qs [28, 29], .z] O60 fun b62 w63 O64 => ?_
             exact gz _ fun a F => hM44 a _ (b62, mB57, md58) F (O64.sel [0, 1, 2, 3, 4, 5, 6, 7, 8, 9, 10, 11, 12, 13, 14, 15, 16]) trivial
           · intro O65
             refine sg1 [.n [1, 2, 8, 11], .o 21] O65 fun b66 w67 O68 => ?_
             refine gc (writeOk (r := r) O68 10 (by kernel_rfl) 6 (by kernel_rfl) (hasShk_shk (pvx a0h c0h a1h c1h amh cmh p) p bkh dkh K) hfit (by decide) hright (.inl rfl) (hI.p7 hm).1 (by first | omega | (simp only [List.length_cons] at hkl ⊢; omega)) (hI.facts (by omega)).2.2.2.2.2.2.1 hw) ?_
             rintro e73 w71 ⟨mB69, md70, rfl, O72⟩
             refine gr (js := [2, 3, 9, 12]) O72.mconsS fun O72 => ?_
             refine sg0 [.qs [22, 23, 24, 25], .o 27, .s 1 [2, 3, 9, 12], .qs [28, 29], .z] O72 fun w74 O75 => ?_
             exact gz _ fun a F => hM44 a _ (b66, mB69, md70) F (O75.sel [1, 0, 2, 3, 4, 5, 6, 7, 8, 9, 10, 11, 12, 13, 14, 15, 16]) trivial
         · intro O76
           refine sg1 [.n [1, 2, 8, 11], .o 20] O76 fun b77 w78 O79 => ?_
           refine gx [.cell g0 (0 + (8 + k) * 1) (.int .i64 ((k : Int) + 9))] O79 ⟨(rowN_at (g := g0) (d := d0) (n := 14) (l := s100) O79 11 (by kernel_rfl) rfl (s100_8 hk5)), trivial⟩ fun O80 => ?_
           refine sg0 [.a (.r 0), .o 21] O80 fun w81 O82 => ?_
           refine gc (writeOk (r := r) O82 10 (by kernel_rfl) 6 (by kernel_rfl) (hasShk_shk (pvx a0h c0h a1h c1h amh cmh p) p bkh dkh K) hfit (by decide) hright (.inl rfl) (hI.p7 hm).1 (by first | omega | (simp only [List.length_cons] at hkl ⊢; omega)) (hI.facts (by omega)).2.2.2.2.2.2.1 hw) ?_
           rintro e87 w85 ⟨mB83, md84, rfl, O86⟩
           refine gr (js := [2, 3, 9, 12]) O86.mconsS fun O86 => ?_
           refine sg0 [.qs [22, 23, 24, 25], .o 27, .s 1 [2, 3, 9, 12], .qs [28, 29], .z] O86 fun w88 O89 => ?_
           exact gz _ fun a F => hM44 a _ (b77, mB83, md84) F (O89.sel [1, 0, 2, 3, 4, 5, 6, 7, 8, 9, 10, 11, 12, 13, 14, 15, 16]) trivial
       · intro O90
         refine gx [.cell g0 (0 + (8 + k) * 1) (.int .i64 ((k : Int) + 9))] O90 ⟨(rowN_at (g := g0) (d := d0) (n := 14) (l := s100) O90 10 (by kernel_rfl) rfl (s100_8 hk5)), trivial⟩ fun O91 => ?_
         refine sg0 [.a (.r 0)] O91 fun w92 O93 => ?_
         refine gA [12, 26] O93 ⟨?_, ?_, trivial⟩
         · intro O94
           refine gx [.cell g0 (0 + (8 + k) * 1) (.int .i64 ((k : Int) + 9)), .cell g0 (0 + (2 + k) * 1) (.int .i64 ((k : Int) + 3))] O94 ⟨(rowN_at (g := g0) (d := d0) (n := 14) (l := s100) O94 10 (by kernel_rfl) rfl (s100_8 hk5)), (rowN_at (g := g0) (d := d0) (n := 14) (l := s100) O94 10 (by kernel_rfl) rfl (s100_2 hk5)), trivial⟩ fun O95 => ?_
           refine sg0 [.a (.r 1)] O95 fun w96 O97 => ?_
           refine gA [21, 26] O97 ⟨?_, ?_, trivial⟩
           · intro O98
             refine gc (writeOk (r := r) O98 9 (by kernel_rfl) 5 (by kernel_rfl) (hasShk_shk (pvx a0h c0h a1h c1h amh cmh p) p bkh dkh K) hfit (by decide) hright (.inl rfl) (hI.p7 hm).1 (by first | omega | (simp only [List.length_cons] at hkl ⊢; omega)) (hI.facts (by omega)).2.2.2.2.2.2.1 hw) ?_
             rintro e103 w101 ⟨mB99, md100, rfl, O102⟩
             refine gr (js := [1, 2, 8, 11]) O102.mconsS fun O102 => ?_
             refine sg1 [.qs [22, 23, 24, 25], .o 26, .n [2, 3, 9, 12], .o 27, .s 0 [2, 3, 9, 12], .qs [28, 29], .z] O102 fun b104 w105 O106 => ?_
             exact gz _ fun a F => hM44 a _ (b104, mB99, md100) F (O106.sel [0, 1, 2, 3, 4, 5, 6, 7, 8, 9, 10, 11, 12, 13, 14, 15, 16]) trivial
           · intro O107
             refine sg1 [.n [1, 2, 8, 11], .o 21] O107 fun b108 w109 O110 => ?_
             refine gc (writeOk (r := r) O110 10 (by kernel_rfl) 6 (by kernel_rfl) (hasShk_shk (pvx a0h c0h a1h c1h amh cmh p) p bkh dkh K) hfit (by decide) hright (.inl rfl) (hI.p7 hm).1 (by first | omega | (simp only [List.length_cons] at hkl ⊢; omega)) (hI.facts (by omega)).2.2.2.2.2.2.1 hw) ?_
             rintro e115 w113 ⟨mB111, md112, rfl, O114⟩
             refine gr (js := [2, 3, 9, 12]) O114.mconsS fun O114 => ?_
             refine sg0 [.qs [22, 23, 24, 25], .o 27, .s 1 [2, 3, 9, 12], .qs [28, 29], .z] O114 fun w116 O117 => ?_
             exact gz _ fun a F => hM44 a _ (b108, mB111, md112) F (O117.sel [1, 0, 2, 3, 4, 5, 6, 7, 8, 9, 10, 11, 12, 13, 14, 15, 16]) trivial
         · intro O118
           refine sg1 [.n [1, 2, 8, 11], .o 12] O118 fun b119 w120 O121 => ?_
           refine gx [.cell g0 (0 + (2 + k) * 1) (.int .i64 ((k : Int) + 3))] O121 ⟨(rowN_at (g := g0) (d := d0) (n := 14) (l := s100) O121 11 (by kernel_rfl) rfl (s100_2 hk5)), trivial⟩ fun O122 => ?_
           refine sg0 [.a (.r 0), .o 21] O122 fun w123 O124 => ?_
           refine gc (writeOk (r := r) O124 10 (by kernel_rfl) 6 (by kernel_rfl) (hasShk_shk (pvx a0h c0h a1h c1h amh cmh p) p bkh dkh K) hfit (by decide) hright (.inl rfl) (hI.p7 hm).1 (by first | omega | (simp only [List.length_cons] at hkl ⊢; omega)) (hI.facts (by omega)).2.2.2.2.2.2.1 hw) ?_
           rintro e129 w127 ⟨mB125, md126, rfl, O128⟩
           refine gr (js := [2, 3, 9, 12]) O128.mconsS fun O128 => ?_
           refine sg0 [.qs [22, 23, 24, 25], .o 27, .s 1 [2, 3, 9, 12], .qs [28, 29], .z] O128 fun w130 O131 => ?_
           exact gz _ fun a F => hM44 a _ (b119, mB125, md126) F (O131.sel [1, 0, 2, 3, 4, 5, 6, 7, 8, 9, 10, 11, 12, 13, 14, 15, 16]) trivial
       · intro O132
         refine sg1 [.n [1, 2, 8, 11]] O132 fun b133 w134 O135 => ?_
         refine gA [12, 20] O135 ⟨?_, ?_, trivial⟩
         · intro O136
           refine gx [.cell g0 (0 + (2 + k) * 1) (.int .i64 ((k : Int) + 3))] O136 ⟨(rowN_at (g := g0) (d := d0) (n := 14) (l := s100) O136 11 (by kernel_rfl) rfl (s100_2 hk5)), trivial⟩ fun O137 => ?_
           refine sg0 [.a (.r 0), .o 20] O137 fun w138 O139 => ?_
           refine gx [.cell g0 (0 + (2 + k) * 1) (.int .i64 ((k : Int) + 3)), .cell g0 (0 + (8 + k) * 1) (.int .i64 ((k : Int) + 9))] O139 ⟨(rowN_at (g := g0) (d := d0) (n := 14) (l := s100) O139 11 (by kernel_rfl) rfl (s100_2 hk5)), (rowN_at (g := g0) (d := d0) (n := 14) (l := s100) O139 11 (by kernel_rfl) rfl (s100_8 hk5)), trivial⟩ fun O140 => ?_
           refine sg0 [.a (.r 1), .o 21] O140 fun w141 O142 => ?_
           refine gc (writeOk (r := r) O142 10 (by kernel_rfl) 6 (by kernel_rfl) (hasShk_shk (pvx a0h c0h a1h c1h amh cmh p) p bkh dkh K) hfit (by decide) hright (.inl rfl) (hI.p7 hm).1 (by first | omega | (simp only [List.length_cons] at hkl ⊢; omega)) (hI.facts (by omega)).2.2.2.2.2.2.1 hw) ?_
           rintro e147 w145 ⟨mB143, md144, rfl, O146⟩
           refine gr (js := [2, 3, 9, 12]) O146.mconsS fun O146 => ?_
           refine sg0 [.qs [22, 23, 24, 25], .o 27, .s 1 [2, 3, 9, 12], .qs [28, 29], .z] O146 fun w148 O149 => ?_
           exact gz _ fun a F => hM44 a _ (b133, mB143, md144) F (O149.sel [1, 0, 2, 3, 4, 5, 6, 7, 8, 9, 10, 11, 12, 13, 14, 15, 16]) trivial
         · intro O150
           refine gx [.cell g0 (0 + (8 + k) * 1) (.int .i64 ((k : Int) + 9))] O150 ⟨(rowN_at (g := g0) (d := d0) (n := 14) (l := s100) O150 11 (by kernel_rfl) rfl (s100_8 hk5)), trivial⟩ fun O151 => ?_
           refine sg0 [.a (.r 0), .o 12] O151 fun w152 O153 => ?_
           refine gx [.cell g0 (0 + (8 + k) * 1) (.int .i64 ((k : Int) + 9)), .cell g0 (0 + (2 + k) * 1) (.int .i64 ((k : Int) + 3))] O153 ⟨(rowN_at (g := g0) (d := d0) (n := 14) (l := s100) O153 11 (by kernel_rfl) rfl (s100_8 hk5)), (rowN_at (g := g0) (d := d0) (n := 14) (l := s100) O153 11 (by kernel_rfl) rfl (s100_2 hk5)), trivial⟩ fun O154 => ?_
           refine sg0 [.a (.r 1), .o 21] O154 fun w155 O156 => ?_
           refine gc (writeOk (r := r) O156 10 (by kernel_rfl) 6 (by kernel_rfl) (hasShk_shk (pvx a0h c0h a1h c1h amh cmh p) p bkh dkh K) hfit (by decide) hright (.inl rfl) (hI.p7 hm).1 (by first | omega | (simp only [List.length_cons] at hkl ⊢; omega)) (hI.facts (by omega)).2.2.2.2.2.2.1 hw) ?_
           rintro e161 w159 ⟨mB157, md158, rfl, O160⟩
           refine gr (js := [2, 3, 9, 12]) O160.mconsS fun O160 => ?_
           refine sg0 [.qs [22, 23, 24, 25], .o 27, .s 1 [2, 3, 9, 12], .qs [28, 29], .z] O160 fun w162 O163 => ?_
           exact gz _ fun a F => hM44 a _ (b133, mB157, md158) F (O163.sel [1, 0, 2, 3, 4, 5, 6, 7, 8, 9, 10, 11, 12, 13, 14, 15, 16]) trivial
     · rintro ⟨j41, j42, j43⟩ w164 O165 _
       rcases hno with ⟨rfl, rfl⟩ | ⟨rfl, rfl, rfl, rfl, hI'⟩
       · refine sg0 [.p 1, .a (.r 2), .p 2, .a (.r 3), .p 2] O165 fun w166 O167 => ?_
         refine gS (readBad (readOk (msg := msg) (mB := j42) (md := j43) (r := r) O167 11 (by kernel_rfl) 5 (by kernel_rfl) (hasShk_shk (pvx a0g c0g a1g c1g amg cmg p) p bkg dkg K) hfit (by decide) hright (.inr rfl) (Int.natCast_nonneg _) (hI.p7 hm).2 (by first | omega | (simp only [List.length_cons] at hkl ⊢; omega)) (hI.facts (by omega)).2.2.2.2.2.2.2 hml (kept2_thing 1 (by kernel_rfl) (by decide) (by decide) (rowI_holds (B := j42) (d := j43) (l := msg))) hrd) (by decide)) fun w168 O169 => ?_
         refine sg1 [.p 4, .n [], .s 0 [], .p 11] O169 fun b171 w172 O173 => ?_
         refine gU (args := #[]) (awake12E O173 henv) fun w174 O175 => ?_
         refine sg0 [.p 2] O175 fun w177 O178 => ?_
         exact gret [] O178 (⟨rfl, O178.below⟩)
       · refine sg0 [.p 1, .a (.r 2), .p 2, .a (.r 3), .p 2] O165 fun w179 O180 => ?_
         refine gS (readOk (msg := msg) (mB := j42) (md := j43) (r := r) O180 11 (by kernel_rfl) 5 (by kernel_rfl) (hasShk_shk (pvx a0g c0g a1g c1g amg cmg p) p bkg dkg K) hfit (by decide) hright (.inr rfl) (Int.natCast_nonneg _) (hI.p7 hm).2 (by first | omega | (simp only [List.length_cons] at hkl ⊢; omega)) (hI.facts (by omega)).2.2.2.2.2.2.2 hml (kept2_thing 1 (by kernel_rfl) (by decide) (by decide) (rowI_holds (B := j42) (d := j43) (l := msg))) hrd) fun w181 O182 => ?_
         refine sg1 [.p 4, .n [], .s 0 [], .p 8, .d [0, 1, 3], .qs [0], .q 1 (.r 2), .qs [2], .q 3 (.r 2), .qs [4], .q 5 (.r 1), .q 6 (.r 0), .qs [7], .o 8, .s 4 [0, 1, 3], .qs [9], .o 10, .s 4 [0, 1, 3], .z, .a (iW ((k : Int) + 1)), .p 1] O182 fun b184 w185 O186 => ?_
         exact gz _ fun a F => hM31 a _ (k + 1, A4, zx, wE, wR, wQ, wk, wh, wc, wb, wn, zE, zR, zQ, zk, zh, zc, zb, zn) F (O186.as 4) ⟨hk1, h29', hI'⟩ (show p.msgs.length - (k + 1) < p.msgs.length - k by omega)
   · obtain ⟨A3, A4, wa, wx, wE, wR, wQ, wk, wh, wc, wb, wn, za, zx, zE, zR, zQ, zk, zh, zc, zb, zn, msg, xx, no, hw, hrd, h29', hml, hno⟩ := (hI.go hright hm h29).2 hfr
     refine sg0 [.p 1, .a (.i _ mb mq p.msgs.length k hA hk1)] O34 fun w187 O188 => ?_
     refine gx [.cell mb (mq + k * 2) (.int .i64 1), .cell mb (mq + k * 2 + 1) (.slice D m.t.length d)] O188 ⟨((hcell _ O188.below).1.trans (by rw [hfr])), (hcell _ O188.below).2, trivial⟩ fun O189 => ?_
     refine sg1 [.a (.l [0, 1]), .n [], .p 1, .s 0 []] O189 fun b190 w191 O192 => ?_
     refine gj false 17 O192 (fun (zz : Nat × Option Addr × Nat) => match zz with | (j193, j194, j195) => [(4, .bool false), (5, .pointer (some ⟨r, 0, none⟩)), (7, .pointer (some ⟨b11, 0, none⟩)), (15, .pointer (some ⟨b25, 0, none⟩)), (17, .pointer (some ⟨b190, 0, none⟩)), (18, .pointer (some ⟨j193, 0, none⟩)), (19, .slice j194 msg.length j195), (20, .int .i64 0), (102, .slice am p.msgs.length cm), (103, .int .i64 (p.msgs.length : Int)), (104, .int .i64 (k : Int))]) (fun (zz : Nat × Option Addr × Nat) => match zz with | (j193, j194, j195) => [.blk j193 (.cells #[.int .i64 1, .int .i64 wa, .int .i64 wx, .string (strO p.name), .slice a0g p.pre0.length c0g, .slice a1g p.pre1.length c1g, .slice amg p.msgs.length cmg, .int .i64 S1, .int .i64 wE, .int .i64 wR, .int .i64 wQ, .slice bkg K.length dkg, .int .i64 wk, .int .i64 wh, .int .i64 wc, .bool wb, .int .u64 wn] 42), .thing (rowT 3 1 (.slice j194 msg.length j195) msg.length (intsV msg)), .blk b190 (.cells #[.int .i64 1, .slice D m.t.length d] 61), .blk b25 (.cells #[.int .i64 0, .int .i64 (k : Int), .int .i64 vx, .string (strO p.name), .slice a0h p.pre0.length c0h, .slice a1h p.pre1.length c1h, .slice amh p.msgs.length cmh, .int .i64 S0, .int .i64 vE, .int .i64 vR, .int .i64 vQ, .slice bkh K.length dkh, .int .i64 vk, .int .i64 vh, .int .i64 vc, .bool vb, .int .u64 vn, .int .i64 1, .int .i64 (k : Int), .int .i64 vx, .string (strO p.name), .slice a0g p.pre0.length c0g, .slice a1g p.pre1.length c1g, .slice amg p.msgs.length cmg, .int .i64 S1, .int .i64 uE, .int .i64 uR, .int .i64 uQ, .slice bkg K.length dkg, .int .i64 uk, .int .i64 uh, .int .i64 uc, .bool ub, .int .u64 un] 59), .blk b24 (.cells #[.int .i64 1, .int .i64 0, .int .i64 0, .string (strO p.name), .slice a0g p.pre0.length c0g, .slice a1g p.pre1.length c1g, .slice amg p.msgs.length cmg, .int .i64 S1, .int .i64 E1, .int .i64 R1, .int .i64 Q1, .slice bkg K.length dkg, .int .i64 dk, .int .i64 dh, .int .i64 dc, .bool db, .int .u64 dn] 42), .thing (shkT (pvx a0g c0g a1g c1g amg cmg p) p (.slice bkg K.length dkg) K), .blk b18 (.cells #[.int .i64 0, .int .i64 0, .int .i64 0, .string (strO p.name), .slice a0h p.pre0.length c0h, .slice a1h p.pre1.length c1h, .slice amh p.msgs.length cmh, .int .i64 S0, .int .i64 E0, .int .i64 R0, .int .i64 Q0, .slice bkh K.length dkh, .int .i64 ck, .int .i64 hh, .int .i64 cc, .bool cb, .int .u64 cn] 42), .thing (shkT (pvx a0h c0h a1h c1h amh cmh p) p (.slice bkh K.length dkh) K), .blk b12 (.cells #[.int .i64 1, .int .i64 2, .int .i64 rs0, .int .i64 re0, .slice B0 K.length e0, .int .i64 15, .int .i64 16, .int .i64 rs1, .int .i64 re1, .slice B1 K.length e1] 56), .blk b11 (.cells #[.slice (some ⟨g0, 0, none⟩) 14 d0, .slice (some ⟨g1, 0, none⟩) 14 d1] 30), .blk b10 (.cells #[.int .i64 2000, .slice nB nm nd_] 55), .thing (arena r A3), .row 3 1 g0 14 d0 [.int .i64 1, .int .i64 2, .int .i64 3, .int .i64 4, .int .i64 5, .int .i64 6, .int .i64 7, .int .i64 8, .int .i64 9, .int .i64 10, .int .i64 11, .int .i64 12, .int .i64 13, .int .i64 14], .row 3 1 g1 14 d1 [.int .i64 15, .int .i64 16, .int .i64 17, .int .i64 18, .int .i64 19, .int .i64 20, .int .i64 21, .int .i64 22, .int .i64 23, .int .i64 24, .int .i64 25, .int .i64 26, .int .i64 27, .int .i64 28], .thing (rowT 3 1 (.slice B0 K.length e0) K.length (intsV K)), .thing (rowT 3 1 (.slice B1 K.length e1) K.length (intsV K)), .blk b1 (.cells #[.string (strO p.name), .slice a0 p.pre0.length c0, .slice a1 p.pre1.length c1, .slice am p.msgs.length cm, .slice uB us.length ud, .int .i64 lim, .int .u8 ams, .int .u8 chg] 52)]) (fun (zz : Nat × Option Addr × Nat) w => match zz with | (j193, j194, j195) => True) ?_ ?_
     · intro _ hM196 O197
       refine sg0 [.d [0, 1, 7, 11], .qs [0], .q 1 (.r 0), .qs [2], .q 3 (.r 1), .qs [4, 5], .q 6 (.r 0), .qs [7], .q 8 (.r 2), .qs [9], .q 10 (iW (2 + (k : Int))), .q 11 (.i _ g1 0 14 (2 + k) rfl (by omega)), .qs [13], .q 14 (.r 0), .qs [15], .q 16 (.r 2), .qs [17], .q 18 (iW (8 + (k : Int))), .q 19 (.i _ g1 0 14 (8 + k) rfl (by omega))] O197 fun w198 O199 => ?_
       refine gA [12, 20, 26] O199 ⟨?_, ?_, ?_, trivial⟩
       · intro O200
         refine gx [.cell g1 (0 + (2 + k) * 1) (.int .i64 ((k : Int) + 17))] O200 ⟨(rowN_at (g := g1) (d := d1) (n := 14) (l := s200) O200 11 (by kernel_rfl) rfl (s200_2 hk5)), trivial⟩ fun O201 => ?_
         refine sg0 [.a (.r 0)] O201 fun w202 O203 => ?_
         refine gA [20, 26] O203 ⟨?_, ?_, trivial⟩
         · intro O204
           refine gx [.cell g1 (0 + (2 + k) * 1) (.int .i64 ((k : Int) + 17)), .cell g1 (0 + (8 + k) * 1) (.int .i64 ((k : Int) + 23))] O204 ⟨(rowN_at (g := g1) (d := d1) (n := 14) (l := s200) O204 11 (by kernel_rfl) rfl (s200_2 hk5)), (rowN_at (g := g1) (d := d1) (n := 14) (l := s200) O204 11 (by kernel_rfl) rfl (s200_8 hk5)), trivial⟩ fun O205 => ?_
           refine sg0 [.a (.r 1)] O205 fun w206 O207 => ?_
           refine gA [21, 26] O207 ⟨?_, ?_, trivial⟩
           · intro O208
             refine gc (writeOk (r := r) O208 9 (by kernel_rfl) 3 (by kernel_rfl) (hasShk_shk (pvx a0g c0g a1g c1g amg cmg p) p bkg dkg K) hfit (by decide) hright (.inr rfl) (hI.p7 hm).2 (by first | omega | (simp only [List.length_cons] at hkl ⊢; omega)) (hI.facts (by omega)).2.2.2.2.2.2.2 hw) ?_
             rintro e213 w211 ⟨mB209, md210, rfl, O212⟩
             refine gr (js := [1, 2, 8, 12]) O212.mconsS fun O212 => ?_
             refine sg1 [.qs [22, 23, 24, 25], .o 26, .n [2, 3, 9, 13], .o 27, .s 0 [2, 3, 9, 13], .qs [28, 29], .z] O212 fun b214 w215 O216 => ?_
             exact gz _ fun a F => hM196 a _ (b214, mB209, md210) F (O216.sel [0, 1, 2, 3, 4, 5, 6, 7, 8, 9, 10, 11, 12, 13, 14, 15, 16]) trivial
           · intro O217
             refine sg1 [.n [1, 2, 8, 12], .o 21] O217 fun b218 w219 O220 => ?_
             refine gc (writeOk (r := r) O220 10 (by kernel_rfl) 4 (by kernel_rfl) (hasShk_shk (pvx a0g c0g a1g c1g amg cmg p) p bkg dkg K) hfit (by decide) hright (.inr rfl) (hI.p7 hm).2 (by first | omega | (simp only [List.length_cons] at hkl ⊢; omega)) (hI.facts (by omega)).2.2.2.2.2.2.2 hw) ?_
             rintro e225 w223 ⟨mB221, md222, rfl, O224⟩
             refine gr (js := [2, 3, 9, 13]) O224.mconsS fun O224 => ?_
             refine sg0 [.qs [22, 23, 24, 25], .o 27, .s 1 [2, 3, 9, 13], .qs [28, 29], .z] O224 fun w226 O227 => ?_
             exact gz _ fun a F => hM196 a _ (b218, mB221, md222) F (O227.sel [1, 0, 2, 3, 4, 5, 6, 7, 8, 9, 10, 11, 12, 13, 14, 15, 16]) trivial
         · intro O228
           refine sg1 [.n [1, 2, 8, 12], .o 20] O228 fun b229 w230 O231 => ?_
           refine gx [.cell g1 (0 + (8 + k) * 1) (.int .i64 ((k : Int) + 23))] O231 ⟨(rowN_at (g := g1) (d := d1) (n := 14) (l := s200) O231 12 (by kernel_rfl) rfl (s200_8 hk5)), trivial⟩ fun O232 => ?_
           refine sg0 [.a (.r 0), .o 21] O232 fun w233 O234 => ?_
           refine gc (writeOk (r := r) O234 10 (by kernel_rfl) 4 (by kernel_rfl) (hasShk_shk (pvx a0g c0g a1g c1g amg cmg p) p bkg dkg K) hfit (by decide) hright (.inr rfl) (hI.p7 hm).2 (by first | omega | (simp only [List.length_cons] at hkl ⊢; omega)) (hI.facts (by omega)).2.2.2.2.2.2.2 hw) ?_
           rintro e239 w237 ⟨mB235, md236, rfl, O238⟩
           refine gr (js := [2, 3, 9, 13]) O238.mconsS fun O238 => ?_
           refine sg0 [.qs [22, 23, 24, 25], .o 27, .s 1 [2, 3, 9, 13], .qs [28, 29], .z] O238 fun w240 O241 => ?_
           exact gz _ fun a F => hM196 a _ (b229, mB235, md236) F (O241.sel [1, 0, 2, 3, 4, 5, 6, 7, 8, 9, 10, 11, 12, 13, 14, 15, 16]) trivial
       · intro O242
         refine gx [.cell g1 (0 + (8 + k) * 1) (.int .i64 ((k : Int) + 23))] O242 ⟨(rowN_at (g := g1) (d := d1) (n := 14) (l := s200) O242 11 (by kernel_rfl) rfl (s200_8 hk5)), trivial⟩ fun O243 => ?_
         refine sg0 [.a (.r 0)] O243 fun w244 O245 => ?_
         refine gA [12, 26] O245 ⟨?_, ?_, trivial⟩
         · intro O246
           refine gx [.cell g1 (0 + (8 + k) * 1) (.int .i64 ((k : Int) + 23)), .cell g1 (0 + (2 + k) * 1) (.int .i64 ((k : Int) + 17))] O246 ⟨(rowN_at (g := g1) (d := d1) (n := 14) (l := s200) O246 11 (by kernel_rfl) rfl (s200_8 hk5)), (rowN_at (g := g1) (d := d1) (n := 14) (l := s200) O246 11 (by kernel_rfl) rfl (s200_2 hk5)), trivial⟩ fun O247 => ?_
           refine sg0 [.a (.r 1)] O247 fun w248 O249 => ?_
           refine gA [21, 26] O249 ⟨?_, ?_, trivial⟩
           · intro O250
             refine gc (writeOk (r := r) O250 9 (by kernel_rfl) 3 (by kernel_rfl) (hasShk_shk (pvx a0g c0g a1g c1g amg cmg p) p bkg dkg K) hfit (by decide) hright (.inr rfl) (hI.p7 hm).2 (by first | omega | (simp only [List.length_cons] at hkl ⊢; omega)) (hI.facts (by omega)).2.2.2.2.2.2.2 hw) ?_
             rintro e255 w253 ⟨mB251, md252, rfl, O254⟩
             refine gr (js := [1, 2, 8, 12]) O254.mconsS fun O254 => ?_
             refine sg1 [.qs [22, 23, 24, 25], .o 26, .n [2, 3, 9, 13], .o 27, .s 0 [2, 3, 9, 13], .qs [28, 29], .z] O254 fun b256 w257 O258 => ?_
             exact gz _ fun a F => hM196 a _ (b256, mB251, md252) F (O258.sel [0, 1, 2, 3, 4, 5, 6, 7, 8, 9, 10, 11, 12, 13, 14, 15, 16]) trivial
           · intro O259
             refine sg1 [.n [1, 2, 8, 12], .o 21] O259 fun b260 w261 O262 => ?_
             refine gc (writeOk (r := r) O262 10 (by kernel_rfl) 4 (by kernel_rfl) (hasShk_shk (pvx a0g c0g a1g c1g amg cmg p) p bkg dkg K) hfit (by decide) hright (.inr rfl) (hI.p7 hm).2 (by first | omega | (simp only [List.length_cons] at hkl ⊢; omega)) (hI.facts (by omega)).2.2.2.2.2.2.2 hw) ?_
             rintro e267 w265 ⟨mB263, md264, rfl, O266⟩
             refine gr (js := [2, 3, 9, 13]) O266.mconsS fun O266 => ?_
             refine sg0 [.qs [22, 23, 24, 25], .o 27, .s 1 [2, 3, 9, 13], .qs [28, 29], .z] O266 fun w268 O269 => ?_
             exact gz _ fun a F => hM196 a _ (b260, mB263, md264) F (O269.sel [1, 0, 2, 3, 4, 5, 6, 7, 8, 9, 10, 11, 12, 13, 14, 15, 16]) trivial
         · intro O270
           refine sg1 [.n [1, 2, 8, 12], .o 12] O270 fun b271 w272 O273 => ?_
           refine gx [.cell g1 (0 + (2 + k) * 1) (.int .i64 ((k : Int) + 17))] O273 ⟨(rowN_at (g := g1) (d := d1) (n := 14) (l := s200) O273 12 (by kernel_rfl) rfl (s200_2 hk5)), trivial⟩ fun O274 => ?_
           refine sg0 [.a (.r 0), .o 21] O274 fun w275 O276 => ?_
           refine gc (writeOk (r := r) O276 10 (by kernel_rfl) 4 (by kernel_rfl) (hasShk_shk (pvx a0g c0g a1g c1g amg cmg p) p bkg dkg K) hfit (by decide) hright (.inr rfl) (hI.p7 hm).2 (by first | omega | (simp only [List.length_cons] at hkl ⊢; omega)) (hI.facts (by omega)).2.2.2.2.2.2.2 hw) ?_
           rintro e281 w279 ⟨mB277, md278, rfl, O280⟩
           refine gr (js := [2, 3, 9, 13]) O280.mconsS fun O280 => ?_
           refine sg0 [.qs [22, 23, 24, 25], .o 27, .s 1 [2, 3, 9, 13], .qs [28, 29], .z] O280 fun w282 O283 => ?_
           exact gz _ fun a F => hM196 a _ (b271, mB277, md278) F (O283.sel [1, 0, 2, 3, 4, 5, 6, 7, 8, 9, 10, 11, 12, 13, 14, 15, 16]) trivial
       · intro O284
         refine sg1 [.n [1, 2, 8, 12]] O284 fun b285 w286 O287 => ?_
         refine gA [12, 20] O287 ⟨?_, ?_, trivial⟩
         · intro O288
           refine gx [.cell g1 (0 + (2 + k) * 1) (.int .i64 ((k : Int) + 17))] O288 ⟨(rowN_at (g := g1) (d := d1) (n := 14) (l := s200) O288 12 (by kernel_rfl) rfl (s200_2 hk5)), trivial⟩ fun O289 => ?_
           refine sg0 [.a (.r 0), .o 20] O289 fun w290 O291 => ?_
           refine gx [.cell g1 (0 + (2 + k) * 1) (.int .i64 ((k : Int) + 17)), .cell g1 (0 + (8 + k) * 1) (.int .i64 ((k : Int) + 23))] O291 ⟨(rowN_at (g := g1) (d := d1) (n := 14) (l := s200) O291 12 (by kernel_rfl) rfl (s200_2 hk5)), (rowN_at (g := g1) (d := d1) (n := 14) (l := s200) O291 12 (by kernel_rfl) rfl (s200_8 hk5)), trivial⟩ fun O292 => ?_
           refine sg0 [.a (.r 1), .o 21] O292 fun w293 O294 => ?_
           refine gc (writeOk (r := r) O294 10 (by kernel_rfl) 4 (by kernel_rfl) (hasShk_shk (pvx a0g c0g a1g c1g amg cmg p) p bkg dkg K) hfit (by decide) hright (.inr rfl) (hI.p7 hm).2 (by first | omega | (simp only [List.length_cons] at hkl ⊢; omega)) (hI.facts (by omega)).2.2.2.2.2.2.2 hw) ?_
           rintro e299 w297 ⟨mB295, md296, rfl, O298⟩
           refine gr (js := [2, 3, 9, 13]) O298.mconsS fun O298 => ?_
           refine sg0 [.qs [22, 23, 24, 25], .o 27, .s 1 [2, 3, 9, 13], .qs [28, 29], .z] O298 fun w300 O301 => ?_
           exact gz _ fun a F => hM196 a _ (b285, mB295, md296) F (O301.sel [1, 0, 2, 3, 4, 5, 6, 7, 8, 9, 10, 11, 12, 13, 14, 15, 16]) trivial
         · intro O302
           refine gx [.cell g1 (0 + (8 + k) * 1) (.int .i64 ((k : Int) + 23))] O302 ⟨(rowN_at (g := g1) (d := d1) (n := 14) (l := s200) O302 12 (by kernel_rfl) rfl (s200_8 hk5)), trivial⟩ fun O303 => ?_
           refine sg0 [.a (.r 0), .o 12] O303 fun w304 O305 => ?_
           refine gx [.cell g1 (0 + (8 + k) * 1) (.int .i64 ((k : Int) + 23)), .cell g1 (0 + (2 + k) * 1) (.int .i64 ((k : Int) + 17))] O305 ⟨(rowN_at (g := g1) (d := d1) (n := 14) (l := s200) O305 12 (by kernel_rfl) rfl (s200_8 hk5)), (rowN_at (g := g1) (d := d1) (n := 14) (l := s200) O305 12 (by kernel_rfl) rfl (s200_2 hk5)), trivial⟩ fun O306 => ?_
           refine sg0 [.a (.r 1), .o 21] O306 fun w307 O308 => ?_
           refine gc (writeOk (r := r) O308 10 (by kernel_rfl) 4 (by kernel_rfl) (hasShk_shk (pvx a0g c0g a1g c1g amg cmg p) p bkg dkg K) hfit (by decide) hright (.inr rfl) (hI.p7 hm).2 (by first | omega | (simp only [List.length_cons] at hkl ⊢; omega)) (hI.facts (by omega)).2.2.2.2.2.2.2 hw) ?_
           rintro e313 w311 ⟨mB309, md310, rfl, O312⟩
           refine gr (js := [2, 3, 9, 13]) O312.mconsS fun O312 => ?_
           refine sg0 [.qs [22, 23, 24, 25], .o 27, .s 1 [2, 3, 9, 13], .qs [28, 29], .z] O312 fun w314 O315 => ?_
           exact gz _ fun a F => hM196 a _ (b285, mB309, md310) F (O315.sel [1, 0, 2, 3, 4, 5, 6, 7, 8, 9, 10, 11, 12, 13, 14, 15, 16]) trivial
     · rintro ⟨j193, j194, j195⟩ w316 O317 _
       rcases hno with ⟨rfl, rfl⟩ | ⟨rfl, rfl, rfl, rfl, hI'⟩
       · refine sg0 [.p 1, .a (.r 2), .p 2, .a (.r 3), .p 2] O317 fun w318 O319 => ?_
         refine gS (readBad (readOk (msg := msg) (mB := j194) (md := j195) (r := r) O319 11 (by kernel_rfl) 7 (by kernel_rfl) (hasShk_shk (pvx a0h c0h a1h c1h amh cmh p) p bkh dkh K) hfit (by decide) hright (.inl rfl) (Int.natCast_nonneg _) (hI.p7 hm).1 (by first | omega | (simp only [List.length_cons] at hkl ⊢; omega)) (hI.facts (by omega)).2.2.2.2.2.2.1 hml (kept2_thing 1 (by kernel_rfl) (by decide) (by decide) (rowI_holds (B := j194) (d := j195) (l := msg))) hrd) (by decide)) fun w320 O321 => ?_
         refine sg1 [.p 4, .n [], .s 0 [], .p 11] O321 fun b323 w324 O325 => ?_
         refine gU (args := #[]) (awake12E O325 henv) fun w326 O327 => ?_
         refine sg0 [.p 2] O327 fun w329 O330 => ?_
         exact gret [] O330 (⟨rfl, O330.below⟩)
       · refine sg0 [.p 1, .a (.r 2), .p 2, .a (.r 3), .p 2] O317 fun w331 O332 => ?_
         refine gS (readOk (msg := msg) (mB := j194) (md := j195) (r := r) O332 11 (by kernel_rfl) 7 (by kernel_rfl) (hasShk_shk (pvx a0h c0h a1h c1h amh cmh p) p bkh dkh K) hfit (by decide) hright (.inl rfl) (Int.natCast_nonneg _) (hI.p7 hm).1 (by first | omega | (simp only [List.length_cons] at hkl ⊢; omega)) (hI.facts (by omega)).2.2.2.2.2.2.1 hml (kept2_thing 1 (by kernel_rfl) (by decide) (by decide) (rowI_holds (B := j194) (d := j195) (l := msg))) hrd) fun w333 O334 => ?_
         refine sg1 [.p 4, .n [], .s 0 [], .p 8, .d [0, 1, 3], .qs [0], .q 1 (.r 2), .qs [2], .q 3 (.r 2), .qs [4], .q 5 (.r 1), .q 6 (.r 0), .qs [7], .o 8, .s 4 [0, 1, 3], .qs [9], .o 10, .s 4 [0, 1, 3], .z, .a (iW ((k : Int) + 1)), .p 1] O334 fun b336 w337 O338 => ?_
         exact gz _ fun a F => hM31 a _ (k + 1, A4, zx, zE, zR, zQ, zk, zh, zc, zb, zn, wE, wR, wQ, wk, wh, wc, wb, wn) F (O338.as 4) ⟨hk1, h29', hI'⟩ (show p.msgs.length - (k + 1) < p.msgs.length - k by omega)
 · have h32p : ¬ ((k : Int) < (p.msgs.length : Int)) := by simpa only [decide_eq_true_eq, decide_eq_false_iff_not] using h32
   have hlen : p.msgs.length = k := by have := h32p; omega
   refine sg0 [.a (bT h32), .p 2] O29 fun w339 O340 => ?_
   exact gret (v := .bool false) [] O340 ((hI.done hright hlen).elim)
set_option warningAsError false in
set_option maxRecDepth 100000 in
set_option maxHeartbeats 8000000 in
theorem others_psk_why {w : World} {a0 a1 am uB : Option Addr} {c0 c1 cm ud : Nat} {p : Pat} {us K' : List Int} {x : Int} {lim ams chg : Int} {At : Ar} {rs0 re0 rs1 re1 : Int} (henv : EnvB w) (hp : PatIn w (Old w) (pvx a0 c0 a1 c1 am cm p) p) (hfit : PatFits p) (hU : Holds w uB (u64V us)) (hus : ∀ u ∈ us, U64 u) (hfew : fewP p = true) (hul : us.length ≤ 10) (ht : twoC us = ⟨At, rs0, re0, (x :: K'), rs1, re1, (x :: K')⟩) (hname : (((strO p.name) : ByteArray).toList == (⟨#[]⟩ : ByteArray).toList) = false) (hkl : (x :: K').length * 8 ≤ 8000000) {W : Int} (hW : ¬ W = 0) (hs0 : startC At p 0 0 ⟨1, 2, rs0, re0, (x :: K')⟩ = (At, Sy.zero, W)) (hs1 : startC At p 1 0 ⟨15, 16, rs1, re1, (14 :: K')⟩ = (At, Sy.zero, W)) (hus0 : ¬ (us.length : Int) = 0) :
    Calls Tryz.prog 4 #[.agg #[.string (strO p.name), .slice a0 p.pre0.length c0, .slice a1 p.pre1.length c1, .slice am p.msgs.length cm, .slice uB us.length ud, .int .i64 lim, .int .u8 ams, .int .u8 chg], .bool false] w (fun e' w' => e' = .returned (.bool true) ∧ Below w.heap.size w w') := by
 have O0 := Own.start w
 replace O0 : Own w w (List.map Ent.t []) := O0
 have hKpos : 0 < (x :: K').length := by simp
 refine gent O0 Tryz.func4 ?_
 refine sg1 [.n [], .p 1, .a (.r 0)] O0 fun b1 w2 O3 => ?_
 refine gc (args := #[.agg #[.string (strO p.name), .slice a0 p.pre0.length c0, .slice a1 p.pre1.length c1, .slice am p.msgs.length cm, .slice uB us.length ud, .int .i64 lim, .int .u8 ams, .int .u8 chg]]) (arenasY O3 hp hfit hfew hul hU hus ht) ?_
 rintro e6 w4 ⟨r, g0, d0, g1, d1, B0, e0, B1, e1, nB, nm, nd_, rfl, O5⟩
 refine gr (O5.frontE [.thing (arena r At), .thing (rowT 3 1 (.slice (some ⟨g0, 0, none⟩) 14 d0) 14 (intsV s100)), .thing (rowT 3 1 (.slice (some ⟨g1, 0, none⟩) 14 d1) 14 (intsV s200)), .thing (rowT 3 1 (.slice B0 (x :: K').length e0) (x :: K').length (intsV (x :: K'))), .thing (rowT 3 1 (.slice B1 (x :: K').length e1) (x :: K').length (intsV (x :: K')))]) fun O7 => ?_
 refine gL 1 (.row 3 1 g0 14 d0 [.int .i64 1, .int .i64 2, .int .i64 3, .int .i64 4, .int .i64 5, .int .i64 6, .int .i64 7, .int .i64 8, .int .i64 9, .int .i64 10, .int .i64 11, .int .i64 12, .int .i64 13, .int .i64 14]) O7 fun O8 => ?_
 refine gL 2 (.row 3 1 g1 14 d1 [.int .i64 15, .int .i64 16, .int .i64 17, .int .i64 18, .int .i64 19, .int .i64 20, .int .i64 21, .int .i64 22, .int .i64 23, .int .i64 24, .int .i64 25, .int .i64 26, .int .i64 27, .int .i64 28]) O8 fun O9 => ?_
 refine sg4 [.p 6, .n [], .n [], .n [], .p 1, .s 2 [], .s 1 [], .s 0 [], .p 6, .a (.r 8), .a (bT hname), .p 6, .a (.r 8), .p 1, .a (bT (beq_f hus0)), .p 6, .n [], .p 2, .a (.r 1)] O9 fun b10 b11 b12 b13 w14 O15 => ?_
 refine gcatR (.tmp 56) (.tmp 59) 29 O15 3 b13 (x :: K') B1 e1 0 8 (by omega) fun B16 d17 w18 O19 => ?_
 obtain ⟨g2, rfl⟩ := O19.rowB1 (i := 0) (el := 3) (size := 1) (n := (x :: K').length) (d := d17) (B := B16) (xs := intsV (x :: K')) (by kernel_rfl) (by simp)
 obtain ⟨tail, htail, O20⟩ := O19.rowBlk (i := 0) (g := g2) (d := d17) (n := (x :: K').length) (el := 3) (x := x) (l := K') (by kernel_rfl)
 refine gV 0 (.blk g2 (.cells (List.toArray ((.int .i64 x) :: tail)) 3)) O20 fun O21 => ?_
 refine sg0 [.p 2, .s 1 [], .d [1, 2, 5], .qs [0, 1], .q 2 (.r 0), .qs [3], .q 4 (.r 1), .qs [5], .q 6 (.r 2), .q 7 (.i _ g2 0 (x :: K').length 0 rfl hKpos), .o 8, .s 0 [1, 2, 5], .z] O21 fun w22 O23 => ?_
 have O24 := O23.blkRow (i := 0) (g := g2) (d := d17) (n := (14 :: K').length) (el := 3) (x := 14) (l := K') (tail := tail) (by kernel_rfl) htail
 refine gV 0 (.thing (rowT 3 1 (.slice (some ⟨g2, 0, none⟩) (14 :: K').length d17) (14 :: K').length (intsV (14 :: K')))) O24 fun O25 => ?_
 refine sg0 [.p 2, .a (.r 9), .p 1, .a (.r 1)] O25 fun w26 O27 => ?_
 refine gS (args := #[.pointer (some ⟨r, 0, none⟩), .agg #[.string (strO p.name), .slice a0 p.pre0.length c0, .slice a1 p.pre1.length c1, .slice am p.msgs.length cm], .int .i64 0, .int .i64 0, .agg #[.int .i64 1, .int .i64 2, .int .i64 rs0, .int .i64 re0, .slice B0 ((x :: K').length) e0]]) (startN (.inl rfl) (psks := (x :: K')) (B := B0) (dB := e0) (p := p) (A := At) O27 4 (by kernel_rfl) (kept_old fun _ hb => hp.below hb) hfit henv.str (kept_thing 7 _ (by kernel_rfl) (by decide) (rowI_holds (B := B0) (d := e0) (l := (x :: K')))) (by first | omega | (simp only [List.length_cons] at hkl ⊢; omega)) hW hs0) fun w28 O29 => ?_
 refine sg1 [.p 3, .n [], .s 0 [], .p 3, .a (.r 10), .p 2, .a (.r 2)] O29 fun b31 w32 O33 => ?_
 refine gS (args := #[.pointer (some ⟨r, 0, none⟩), .agg #[.string (strO p.name), .slice a0 p.pre0.length c0, .slice a1 p.pre1.length c1, .slice am p.msgs.length cm], .int .i64 1, .int .i64 0, .agg #[.int .i64 15, .int .i64 16, .int .i64 rs1, .int .i64 re1, .slice (some ⟨g2, 0, none⟩) ((x :: K').length) d17]]) (startN (.inr rfl) (psks := (14 :: K')) (B := (some ⟨g2, 0, none⟩)) (dB := d17) (p := p) (A := At) O33 5 (by kernel_rfl) (kept_old fun _ hb => hp.below hb) hfit henv.str (kept_thing 1 _ (by kernel_rfl) (by decide) (rowI_holds (B := (some ⟨g2, 0, none⟩)) (d := d17) (l := (14 :: K')))) (by first | omega | (simp only [List.length_cons] at hkl ⊢; omega)) hW hs1) fun w34 O35 => ?_
 refine sg1 [.p 3, .n [], .s 0 [], .p 2, .a (bT (bne_t hW)), .p 5] O35 fun b37 w38 O39 => ?_
 refine gU (args := #[]) (awake12E O39 henv) fun w40 O41 => ?_
 refine sg0 [.p 1] O41 fun w43 O44 => ?_
 exact gret [] O44 (⟨rfl, O44.below⟩)
set_option warningAsError false in
set_option maxRecDepth 100000 in
set_option maxHeartbeats 8000000 in
theorem others_psk_all {w : World} {a0 a1 am uB : Option Addr} {c0 c1 cm ud : Nat} {p : Pat} {us K' : List Int} {x : Int} {lim ams chg : Int} {At : Ar} {rs0 re0 rs1 re1 : Int} (henv : EnvB w) (hp : PatIn w (Old w) (pvx a0 c0 a1 c1 am cm p) p) (hfit : PatFits p) (hU : Holds w uB (u64V us)) (hus : ∀ u ∈ us, U64 u) (hfew : fewP p = true) (hul : us.length ≤ 10) (ht : twoC us = ⟨At, rs0, re0, (x :: K'), rs1, re1, (x :: K')⟩) (hname : (((strO p.name) : ByteArray).toList == (⟨#[]⟩ : ByteArray).toList) = false) (hw : whyC p ⟨1, 2, rs0, re0, (x :: K')⟩ = 0) (hus0 : ¬ (us.length : Int) = 0) :
    Calls Tryz.prog 4 #[.agg #[.string (strO p.name), .slice a0 p.pre0.length c0, .slice a1 p.pre1.length c1, .slice am p.msgs.length cm, .slice uB us.length ud, .int .i64 lim, .int .u8 ams, .int .u8 chg], .bool false] w (fun e' w' => e' = .returned (.bool true) ∧ Below w.heap.size w w') := by
 have O0 := Own.start w
 replace O0 : Own w w (List.map Ent.t []) := O0
 have hKpos : 0 < (x :: K').length := by simp
 obtain ⟨hright, A2, S0, E0, R0, Q0, S1, E1, R1, Q1, ck, hh, cc, cb, cn, n1, n2, n3, n4, n5, n6, n7, n8, hs0, hs1, h29, hI⟩ := others_psk (fun u hu => (hus u hu).1) hul ht hw
 have hkl : (x :: K').length * 8 ≤ 8000000 := by have := (two_facts (fun u hu => (hus u hu).1) hul ht).2.2.1; omega
 obtain ⟨-, -, -, hm1, hm6, hwm⟩ := rightP_facts hright
 refine gent O0 Tryz.func4 ?_
 refine sg1 [.n [], .p 1, .a (.r 0)] O0 fun b1 w2 O3 => ?_
 refine gc (args := #[.agg #[.string (strO p.name), .slice a0 p.pre0.length c0, .slice a1 p.pre1.length c1, .slice am p.msgs.length cm, .slice uB us.length ud, .int .i64 lim, .int .u8 ams, .int .u8 chg]]) (arenasY O3 hp hfit hfew hul hU hus ht) ?_
 rintro e6 w4 ⟨r, g0, d0, g1, d1, B0, e0, B1, e1, nB, nm, nd_, rfl, O5⟩
 refine gr (O5.frontE [.thing (arena r At), .thing (rowT 3 1 (.slice (some ⟨g0, 0, none⟩) 14 d0) 14 (intsV s100)), .thing (rowT 3 1 (.slice (some ⟨g1, 0, none⟩) 14 d1) 14 (intsV s200)), .thing (rowT 3 1 (.slice B0 (x :: K').length e0) (x :: K').length (intsV (x :: K'))), .thing (rowT 3 1 (.slice B1 (x :: K').length e1) (x :: K').length (intsV (x :: K')))]) fun O7 => ?_
 refine gL 1 (.row 3 1 g0 14 d0 [.int .i64 1, .int .i64 2, .int .i64 3, .int .i64 4, .int .i64 5, .int .i64 6, .int .i64 7, .int .i64 8, .int .i64 9, .int .i64 10, .int .i64 11, .int .i64 12, .int .i64 13, .int .i64 14]) O7 fun O8 => ?_
 refine gL 2 (.row 3 1 g1 14 d1 [.int .i64 15, .int .i64 16, .int .i64 17, .int .i64 18, .int .i64 19, .int .i64 20, .int .i64 21, .int .i64 22, .int .i64 23, .int .i64 24, .int .i64 25, .int .i64 26, .int .i64 27, .int .i64 28]) O8 fun O9 => ?_
 refine sg4 [.p 6, .n [], .n [], .n [], .p 1, .s 2 [], .s 1 [], .s 0 [], .p 6, .a (.r 8), .a (bT hname), .p 6, .a (.r 8), .p 1, .a (bT (beq_f hus0)), .p 6, .n [], .p 2, .a (.r 1)] O9 fun b10 b11 b12 b13 w14 O15 => ?_
 refine gcatR (.tmp 56) (.tmp 59) 29 O15 3 b13 (x :: K') B1 e1 0 8 (by omega) fun B16 d17 w18 O19 => ?_
 obtain ⟨g2, rfl⟩ := O19.rowB1 (i := 0) (el := 3) (size := 1) (n := (x :: K').length) (d := d17) (B := B16) (xs := intsV (x :: K')) (by kernel_rfl) (by simp)
 obtain ⟨tail, htail, O20⟩ := O19.rowBlk (i := 0) (g := g2) (d := d17) (n := (x :: K').length) (el := 3) (x := x) (l := K') (by kernel_rfl)
 refine gV 0 (.blk g2 (.cells (List.toArray ((.int .i64 x) :: tail)) 3)) O20 fun O21 => ?_
 refine sg0 [.p 2, .s 1 [], .d [1, 2, 5], .qs [0, 1], .q 2 (.r 0), .qs [3], .q 4 (.r 1), .qs [5], .q 6 (.r 2), .q 7 (.i _ g2 0 (x :: K').length 0 rfl hKpos), .o 8, .s 0 [1, 2, 5], .z] O21 fun w22 O23 => ?_
 have O24 := O23.blkRow (i := 0) (g := g2) (d := d17) (n := (14 :: K').length) (el := 3) (x := 14) (l := K') (tail := tail) (by kernel_rfl) htail
 refine gV 0 (.thing (rowT 3 1 (.slice (some ⟨g2, 0, none⟩) (14 :: K').length d17) (14 :: K').length (intsV (14 :: K')))) O24 fun O25 => ?_
 refine sg0 [.p 2, .a (.r 9), .p 1, .a (.r 1)] O25 fun w26 O27 => ?_
 refine gc (args := #[.pointer (some ⟨r, 0, none⟩), .agg #[.string (strO p.name), .slice a0 p.pre0.length c0, .slice a1 p.pre1.length c1, .slice am p.msgs.length cm], .int .i64 0, .int .i64 0, .agg #[.int .i64 1, .int .i64 2, .int .i64 rs0, .int .i64 re0, .slice B0 ((x :: K').length) e0]]) (startX (.inl rfl) (psks := (x :: K')) (B := B0) (dB := e0) (p := p) (A := At) O27 4 (by kernel_rfl) (kept_old fun _ hb => hp.below hb) hfit henv.str (kept_thing 7 _ (by kernel_rfl) (by decide) (rowI_holds (B := B0) (d := e0) (l := (x :: K')))) (by first | omega | (simp only [List.length_cons] at hkl ⊢; omega)) n1 n2 n3 n4 hs0) ?_
 rintro e30 w28 ⟨a0h, c0h, a1h, c1h, amh, cmh, bkh, dkh, rfl, O29⟩
 refine gr O29.mconsS fun O29 => ?_
 refine sg1 [.p 3, .n [], .s 0 [], .p 3, .a (.r 11), .p 2, .a (.r 3)] O29 fun b31 w32 O33 => ?_
 refine gc (args := #[.pointer (some ⟨r, 0, none⟩), .agg #[.string (strO p.name), .slice a0 p.pre0.length c0, .slice a1 p.pre1.length c1, .slice am p.msgs.length cm], .int .i64 1, .int .i64 0, .agg #[.int .i64 15, .int .i64 16, .int .i64 rs1, .int .i64 re1, .slice (some ⟨g2, 0, none⟩) ((x :: K').length) d17]]) (startX (.inr rfl) (psks := (14 :: K')) (B := (some ⟨g2, 0, none⟩)) (dB := d17) (p := p) (A := A2) O33 6 (by kernel_rfl) (kept_old fun _ hb => hp.below hb) hfit henv.str (kept_thing 2 _ (by kernel_rfl) (by decide) (rowI_holds (B := (some ⟨g2, 0, none⟩)) (d := d17) (l := (14 :: K')))) (by first | omega | (simp only [List.length_cons] at hkl ⊢; omega)) n5 n6 n7 n8 hs1) ?_
 rintro e36 w34 ⟨a0g, c0g, a1g, c1g, amg, cmg, bkg, dkg, rfl, O35⟩
 refine gr O35.mconsS fun O35 => ?_
 refine sg2 [.p 3, .n [], .s 0 [], .p 8, .a (.r 2), .a (.r 0), .p 1, .n [], .s 0 [], .p 2, .a (.r 14), .p 2] O35 fun b37 b38 w39 O40 => ?_
 refine gl (fun (zz : Nat × Ar × Int × Int × Int × Int × Int × Int × Int × Bool × Int × Int × Int × Int × Int × Int × Int × Bool × Int) => match zz with | (k, Av, vx, vE, vR, vQ, vk, vh, vc, vb, vn, uE, uR, uQ, uk, uh, uc, ub, un) => [(4, .bool false), (5, .pointer (some ⟨r, 0, none⟩)), (7, .pointer (some ⟨b11, 0, none⟩)), (15, .pointer (some ⟨b38, 0, none⟩)), (102, .slice am p.msgs.length cm), (103, .int .i64 (p.msgs.length : Int)), (104, .int .i64 (k : Int))]) (fun (zz : Nat × Ar × Int × Int × Int × Int × Int × Int × Int × Bool × Int × Int × Int × Int × Int × Int × Int × Bool × Int) => match zz with | (k, Av, vx, vE, vR, vQ, vk, vh, vc, vb, vn, uE, uR, uQ, uk, uh, uc, ub, un) => [.blk b38 (.cells #[.int .i64 0, .int .i64 (k : Int), .int .i64 vx, .string (strO p.name), .slice a0h p.pre0.length c0h, .slice a1h p.pre1.length c1h, .slice amh p.msgs.length cmh, .int .i64 S0, .int .i64 vE, .int .i64 vR, .int .i64 vQ, .slice bkh ((x :: K').length) dkh, .int .i64 vk, .int .i64 vh, .int .i64 vc, .bool vb, .int .u64 vn, .int .i64 1, .int .i64 (k : Int), .int .i64 vx, .string (strO p.name), .slice a0g p.pre0.length c0g, .slice a1g p.pre1.length c1g, .slice amg p.msgs.length cmg, .int .i64 S1, .int .i64 uE, .int .i64 uR, .int .i64 uQ, .slice bkg ((14 :: K').length) dkg, .int .i64 uk, .int .i64 uh, .int .i64 uc, .bool ub, .int .u64 un] 59), .blk b37 (.cells #[.int .i64 1, .int .i64 0, .int .i64 0, .string (strO p.name), .slice a0g p.pre0.length c0g, .slice a1g p.pre1.length c1g, .slice amg p.msgs.length cmg, .int .i64 S1, .int .i64 E1, .int .i64 R1, .int .i64 Q1, .slice bkg ((14 :: K').length) dkg, .int .i64 ck, .int .i64 hh, .int .i64 cc, .bool cb, .int .u64 cn] 42), .thing (shkT (pvx a0g c0g a1g c1g amg cmg p) p (.slice bkg (14 :: K').length dkg) (14 :: K')), .blk b31 (.cells #[.int .i64 0, .int .i64 0, .int .i64 0, .string (strO p.name), .slice a0h p.pre0.length c0h, .slice a1h p.pre1.length c1h, .slice amh p.msgs.length cmh, .int .i64 S0, .int .i64 E0, .int .i64 R0, .int .i64 Q0, .slice bkh ((x :: K').length) dkh, .int .i64 ck, .int .i64 hh, .int .i64 cc, .bool cb, .int .u64 cn] 42), .thing (shkT (pvx a0h c0h a1h c1h amh cmh p) p (.slice bkh (x :: K').length dkh) (x :: K')), .thing (rowT 3 1 (.slice (some ⟨g2, 0, none⟩) (14 :: K').length d17) (14 :: K').length (intsV (14 :: K'))), .blk b12 (.cells #[.int .i64 1, .int .i64 2, .int .i64 rs0, .int .i64 re0, .slice B0 ((x :: K').length) e0, .int .i64 15, .int .i64 16, .int .i64 rs1, .int .i64 re1, .slice (some ⟨g2, 0, none⟩) ((x :: K').length) d17] 56), .blk b11 (.cells #[.slice (some ⟨g0, 0, none⟩) 14 d0, .slice (some ⟨g1, 0, none⟩) 14 d1] 30), .blk b10 (.cells #[.int .i64 2000, .slice nB nm nd_] 55), .thing (arena r Av), .row 3 1 g0 14 d0 [.int .i64 1, .int .i64 2, .int .i64 3, .int .i64 4, .int .i64 5, .int .i64 6, .int .i64 7, .int .i64 8, .int .i64 9, .int .i64 10, .int .i64 11, .int .i64 12, .int .i64 13, .int .i64 14], .row 3 1 g1 14 d1 [.int .i64 15, .int .i64 16, .int .i64 17, .int .i64 18, .int .i64 19, .int .i64 20, .int .i64 21, .int .i64 22, .int .i64 23, .int .i64 24, .int .i64 25, .int .i64 26, .int .i64 27, .int .i64 28], .thing (rowT 3 1 (.slice B0 (x :: K').length e0) (x :: K').length (intsV (x :: K'))), .thing (rowT 3 1 (.slice B1 (x :: K').length e1) (x :: K').length (intsV (x :: K'))), .blk b1 (.cells #[.string (strO p.name), .slice a0 p.pre0.length c0, .slice a1 p.pre1.length c1, .slice am p.msgs.length cm, .slice uB us.length ud, .int .i64 lim, .int .u8 ams, .int .u8 chg] 52)]) (fun (zz : Nat × Ar × Int × Int × Int × Int × Int × Int × Int × Bool × Int × Int × Int × Int × Int × Int × Int × Bool × Int) w => match zz with | (k, Av, vx, vE, vR, vQ, vk, vh, vc, vb, vn, uE, uR, uQ, uk, uh, uc, ub, un) => k ≤ p.msgs.length ∧ 29 ≤ Av.l.length ∧ InvO p S0 S1 (x :: K') (14 :: K') k Av ⟨(k : Int), vx, vE, vR, vQ, ⟨vk, vh, ⟨vc, vb, vn⟩⟩⟩ ⟨(k : Int), vx, uE, uR, uQ, ⟨uk, uh, ⟨uc, ub, un⟩⟩⟩) (fun (zz : Nat × Ar × Int × Int × Int × Int × Int × Int × Int × Bool × Int × Int × Int × Int × Int × Int × Int × Bool × Int) => match zz with | (k, Av, vx, vE, vR, vQ, vk, vh, vc, vb, vn, uE, uR, uQ, uk, uh, uc, ub, un) => p.msgs.length - k) (0, A2, 0, E0, R0, Q0, ck, hh, cc, cb, cn, E1, R1, Q1, ck, hh, cc, cb, cn) (O40.as 0) ⟨(Nat.zero_le _), h29, hI⟩ ?_
 rintro M43 ⟨k, Av, vx, vE, vR, vQ, vk, vh, vc, vb, vn, uE, uR, uQ, uk, uh, uc, ub, un⟩ w41 hM44 O42 ⟨hk0, h29, hI⟩
 rcases Bool.eq_false_or_eq_true (decide ((k : Int) < (p.msgs.length : Int))) with h45 | h45
 · have h45p : ((k : Int) < (p.msgs.length : Int)) := by simpa only [decide_eq_true_eq, decide_eq_false_iff_not] using h45
   have hk1 : k + 1 ≤ p.msgs.length := by have := h45p; omega
   have hk5 : k ≤ 5 := by omega
   obtain ⟨m, hm⟩ : ∃ m, p.msgs[k]? = some m := ⟨_, List.getElem?_eq_getElem hk1⟩
   obtain ⟨mb, mq, D, d, hA, hD, hcell⟩ := msg_at hp.msgs hm
   refine sg0 [.a (bT h45), .p 1] O42 fun w46 O47 => ?_
   rcases (wrongM_facts (hwm m (List.mem_of_getElem? hm))).1 with hfr | hfr
   · obtain ⟨A3, A4, wa, wx, wE, wR, wQ, wk, wh, wc, wb, wn, za, zx, zE, zR, zQ, zk, zh, zc, zb, zn, msg, xx, no, hw, hrd, h29', hml, hno⟩ := (hI.go hright hm h29).1 hfr
     refine sg0 [.p 1, .a (.i _ mb mq p.msgs.length k hA hk1)] O47 fun w48 O49 => ?_
     refine gx [.cell mb (mq + k * 2) (.int .i64 0), .cell mb (mq + k * 2 + 1) (.slice D m.t.length d)] O49 ⟨((hcell _ O49.below).1.trans (by rw [hfr])), (hcell _ O49.below).2, trivial⟩ fun O50 => ?_
     refine sg1 [.a (.l [0, 1]), .n [], .p 1, .s 0 []] O50 fun b51 w52 O53 => ?_
     refine gj false 17 O53 (fun (zz : Nat × Option Addr × Nat) => match zz with | (j54, j55, j56) => [(4, .bool false), (5, .pointer (some ⟨r, 0, none⟩)), (7, .pointer (some ⟨b11, 0, none⟩)), (15, .pointer (some ⟨b38, 0, none⟩)), (17, .pointer (some ⟨b51, 0, none⟩)), (18, .pointer (some ⟨j54, 0, none⟩)), (19, .slice j55 msg.length j56), (20, .int .i64 0), (102, .slice am p.msgs.length cm), (103, .int .i64 (p.msgs.length : Int)), (104, .int .i64 (k : Int))]) (fun (zz : Nat × Option Addr × Nat) => match zz with | (j54, j55, j56) => [.blk j54 (.cells #[.int .i64 0, .int .i64 wa, .int .i64 wx, .string (strO p.name), .slice a0h p.pre0.length c0h, .slice a1h p.pre1.length c1h, .slice amh p.msgs.length cmh, .int .i64 S0, .int .i64 wE, .int .i64 wR, .int .i64 wQ, .slice bkh ((x :: K').length) dkh, .int .i64 wk, .int .i64 wh, .int .i64 wc, .bool wb, .int .u64 wn] 42), .thing (rowT 3 1 (.slice j55 msg.length j56) msg.length (intsV msg)), .blk b51 (.cells #[.int .i64 0, .slice D m.t.length d] 61), .blk b38 (.cells #[.int .i64 0, .int .i64 (k : Int), .int .i64 vx, .string (strO p.name), .slice a0h p.pre0.length c0h, .slice a1h p.pre1.length c1h, .slice amh p.msgs.length cmh, .int .i64 S0, .int .i64 vE, .int .i64 vR, .int .i64 vQ, .slice bkh ((x :: K').length) dkh, .int .i64 vk, .int .i64 vh, .int .i64 vc, .bool vb, .int .u64 vn, .int .i64 1, .int .i64 (k : Int), .int .i64 vx, .string (strO p.name), .slice a0g p.pre0.length c0g, .slice a1g p.pre1.length c1g, .slice amg p.msgs.length cmg, .int .i64 S1, .int .i64 uE, .int .i64 uR, .int .i64 uQ, .slice bkg ((14 :: K').length) dkg, .int .i64 uk, .int .i64 uh, .int .i64 uc, .bool ub, .int .u64 un] 59), .blk b37 (.cells #[.int .i64 1, .int .i64 0, .int .i64 0, .string (strO p.name), .slice a0g p.pre0.length c0g, .slice a1g p.pre1.length c1g, .slice amg p.msgs.length cmg, .int .i64 S1, .int .i64 E1, .int .i64 R1, .int .i64 Q1, .slice bkg ((14 :: K').length) dkg, .int .i64 ck, .int .i64 hh, .int .i64 cc, .bool cb, .int .u64 cn] 42), .thing (shkT (pvx a0g c0g a1g c1g amg cmg p) p (.slice bkg (14 :: K').length dkg) (14 :: K')), .blk b31 (.cells #[.int .i64 0, .int .i64 0, .int .i64 0, .string (strO p.name), .slice a0h p.pre0.length c0h, .slice a1h p.pre1.length c1h, .slice amh p.msgs.length cmh, .int .i64 S0, .int .i64 E0, .int .i64 R0, .int .i64 Q0, .slice bkh ((x :: K').length) dkh, .int .i64 ck, .int .i64 hh, .int .i64 cc, .bool cb, .int .u64 cn] 42), .thing (shkT (pvx a0h c0h a1h c1h amh cmh p) p (.slice bkh (x :: K').length dkh) (x :: K')), .thing (rowT 3 1 (.slice (some ⟨g2, 0, none⟩) (14 :: K').length d17) (14 :: K').length (intsV (14 :: K'))), .blk b12 (.cells #[.int .i64 1, .int .i64 2, .int .i64 rs0, .int .i64 re0, .slice B0 ((x :: K').length) e0, .int .i64 15, .int .i64 16, .int .i64 rs1, .int .i64 re1, .slice (some ⟨g2, 0, none⟩) ((x :: K').length) d17] 56), .blk b11 (.cells #[.slice (some ⟨g0, 0, none⟩) 14 d0, .slice (some ⟨g1, 0, none⟩) 14 d1] 30), .blk b10 (.cells #[.int .i64 2000, .slice nB nm nd_] 55), .thing (arena r A3), .row 3 1 g0 14 d0 [.int .i64 1, .int .i64 2, .int .i64 3, .int .i64 4, .int .i64 5, .int .i64 6, .int .i64 7, .int .i64 8, .int .i64 9, .int .i64 10, .int .i64 11, .int .i64 12, .int .i64 13, .int .i64 14], .row 3 1 g1 14 d1 [.int .i64 15, .int .i64 16, .int .i64 17, .int .i64 18, .int .i64 19, .int .i64 20, .int .i64 21, .int .i64 22, .int .i64 23, .int .i64 24, .int .i64 25, .int .i64 26, .int .i64 27, .int .i64 28], .thing (rowT 3 1 (.slice B0 (x :: K').length e0) (x :: K').length (intsV (x :: K'))), .thing (rowT 3 1 (.slice B1 (x :: K').length e1) (x :: K').length (intsV (x :: K'))), .blk b1 (.cells #[.string (strO p.name), .slice a0 p.pre0.length c0, .slice a1 p.pre1.length c1, .slice am p.msgs.length cm, .slice uB us.length ud, .int .i64 lim, .int .u8 ams, .int .u8 chg] 52)]) (fun (zz : Nat × Option Addr × Nat) w => match zz with | (j54, j55, j56) => True) ?_ ?_
     · intro _ hM57 O58
       refine sg0 [.d [0, 1, 8, 11], .qs [0], .q 1 (.r 0), .qs [2], .q 3 (.r 1), .qs [4, 5], .q 6 (.r 0), .qs [7], .q 8 (.r 2), .qs [9], .q 10 (iW (2 + (k : Int))), .q 11 (.i _ g0 0 14 (2 + k) rfl (by omega)), .qs [13], .q 14 (.r 0), .qs [15], .q 16 (.r 2), .qs [17], .q 18 (iW (8 + (k : Int))), .q 19 (.i _ g0 0 14 (8 + k) rfl (by omega))] O58 fun w59 O60 => ?_
       refine gA [12, 20, 26] O60 ⟨?_, ?_, ?_, trivial⟩
       · intro O61
         refine gx [.cell g0 (0 + (2 + k) * 1) (.int .i64 ((k : Int) + 3))] O61 ⟨(rowN_at (g := g0) (d := d0) (n := 14) (l := s100) O61 11 (by kernel_rfl) rfl (s100_2 hk5)), trivial⟩ fun O62 => ?_
         refine sg0 [.a (.r 0)] O62 fun w63 O64 => ?_
         refine gA [20, 26] O64 ⟨?_, ?_, trivial⟩
         · intro O65
           refine gx [.cell g0 (0 + (2 + k) * 1) (.int .i64 ((k : Int) + 3)), .cell g0 (0 + (8 + k) * 1) (.int .i64 ((k : Int) + 9))] O65 ⟨(rowN_at (g := g0) (d := d0) (n := 14) (l := s100) O65 11 (by kernel_rfl) rfl (s100_2 hk5)), (rowN_at (g := g0) (d := d0) (n := 14) (l := s100) O65 11 (by kernel_rfl) rfl (s100_8 hk5)), trivial⟩ fun O66 => ?_
           refine sg0 [.a (.r 1)] O66 fun w67 O68 => ?_
           refine gA [21, 26] O68 ⟨?_, ?_, trivial⟩
           · intro O69
             refine gc (writeOk (r := r) O69 10 (by kernel_rfl) 5 (by kernel_rfl) (hasShk_shk (pvx a0h c0h a1h c1h amh cmh p) p bkh dkh (x :: K')) hfit (by decide) hright (.inl rfl) (hI.p7 hm).1 (by first | omega | (simp only [List.length_cons] at hkl ⊢; omega)) (hI.facts (by omega)).2.2.2.2.2.2.1 hw) ?_
             rintro e74 w72 ⟨mB70, md71, rfl, O73⟩
             refine gr (js := [1, 2, 9, 12]) O73.mconsS fun O73 => ?_
             refine sg1 [.qs [22, 23, 24, 25], .o 26, .n [2, 3, 10, 13], .o 27, .s 0 [2, 3, 10, 13], .qs [28, 29], .z] O73 fun b75 w76 O77 => ?_
             exact gz _ fun a F => hM57 a _ (b75, mB70, md71) F (O77.sel [0, 1, 2, 3, 4, 5, 6, 7, 8, 9, 10, 11, 12, 13, 14, 15, 16, 17]) trivial
           · intro O78
             refine sg1 [.n [1, 2, 9, 12], .o 21] O78 fun b79 w80 O81 => ?_
             refine gc (writeOk (r := r) O81 11 (by kernel_rfl) 6 (by kernel_rfl) (hasShk_shk (pvx a0h c0h a1h c1h amh cmh p) p bkh dkh (x :: K')) hfit (by decide) hright (.inl rfl) (hI.p7 hm).1 (by first | omega | (simp only [List.length_cons] at hkl ⊢; omega)) (hI.facts (by omega)).2.2.2.2.2.2.1 hw) ?_
             rintro e86 w84 ⟨mB82, md83, rfl, O85⟩
             refine gr (js := [2, 3, 10, 13]) O85.mconsS fun O85 => ?_
             refine sg0 [.qs [22, 23, 24, 25], .o 27, .s 1 [2, 3, 10, 13], .qs [28, 29], .z] O85 fun w87 O88 => ?_
             exact gz _ fun a F => hM57 a _ (b79, mB82, md83) F (O88.sel [1, 0, 2, 3, 4, 5, 6, 7, 8, 9, 10, 11, 12, 13, 14, 15, 16, 17]) trivial
         · intro O89
           refine sg1 [.n [1, 2, 9, 12], .o 20] O89 fun b90 w91 O92 => ?_
           refine gx [.cell g0 (0 + (8 + k) * 1) (.int .i64 ((k : Int) + 9))] O92 ⟨(rowN_at (g := g0) (d := d0) (n := 14) (l := s100) O92 12 (by kernel_rfl) rfl (s100_8 hk5)), trivial⟩ fun O93 => ?_
           refine sg0 [.a (.r 0), .o 21] O93 fun w94 O95 => ?_
           refine gc (writeOk (r := r) O95 11 (by kernel_rfl) 6 (by kernel_rfl) (hasShk_shk (pvx a0h c0h a1h c1h amh cmh p) p bkh dkh (x :: K')) hfit (by decide) hright (.inl rfl) (hI.p7 hm).1 (by first | omega | (simp only [List.length_cons] at hkl ⊢; omega)) (hI.facts (by omega)).2.2.2.2.2.2.1 hw) ?_
           rintro e100 w98 ⟨mB96, md97, rfl, O99⟩
           refine gr (js := [2, 3, 10, 13]) O99.mconsS fun O99 => ?_
           refine sg0 [.qs [22, 23, 24, 25], .o 27, .s 1 [2, 3, 10, 13], .qs [28, 29], .z] O99 fun w101 O102 => ?_
           exact gz _ fun a F => hM57 a _ (b90, mB96, md97) F (O102.sel [1, 0, 2, 3, 4, 5, 6, 7, 8, 9, 10, 11, 12, 13, 14, 15, 16, 17]) trivial
       · intro O103
         refine gx [.cell g0 (0 + (8 + k) * 1) (.int .i64 ((k : Int) + 9))] O103 ⟨(rowN_at (g := g0) (d := d0) (n := 14) (l := s100) O103 11 (by kernel_rfl) rfl (s100_8 hk5)), trivial⟩ fun O104 => ?_
         refine sg0 [.a (.r 0)] O104 fun w105 O106 => ?_
         refine gA [12, 26] O106 ⟨?_, ?_, trivial⟩
         · intro O107
           refine gx [.cell g0 (0 + (8 + k) * 1) (.int .i64 ((k : Int) + 9)), .cell g0 (0 + (2 + k) * 1) (.int .i64 ((k : Int) + 3))] O107 ⟨(rowN_at (g := g0) (d := d0) (n := 14) (l := s100) O107 11 (by kernel_rfl) rfl (s100_8 hk5)), (rowN_at (g := g0) (d := d0) (n := 14) (l := s100) O107 11 (by kernel_rfl) rfl (s100_2 hk5)), trivial⟩ fun O108 => ?_
           refine sg0 [.a (.r 1)] O108 fun w109 O110 => ?_
           refine gA [21, 26] O110 ⟨?_, ?_, trivial⟩
           · intro O111
             refine gc (writeOk (r := r) O111 10 (by kernel_rfl) 5 (by kernel_rfl) (hasShk_shk (pvx a0h c0h a1h c1h amh cmh p) p bkh dkh (x :: K')) hfit (by decide) hright (.inl rfl) (hI.p7 hm).1 (by first | omega | (simp only [List.length_cons] at hkl ⊢; omega)) (hI.facts (by omega)).2.2.2.2.2.2.1 hw) ?_
             rintro e116 w114 ⟨mB112, md113, rfl, O115⟩
             refine gr (js := [1, 2, 9, 12]) O115.mconsS fun O115 => ?_
             refine sg1 [.qs [22, 23, 24, 25], .o 26, .n [2, 3, 10, 13], .o 27, .s 0 [2, 3, 10, 13], .qs [28, 29], .z] O115 fun b117 w118 O119 => ?_
             exact gz _ fun a F => hM57 a _ (b117, mB112, md113) F (O119.sel [0, 1, 2, 3, 4, 5, 6, 7, 8, 9, 10, 11, 12, 13, 14, 15, 16, 17]) trivial
           · intro O120
             refine sg1 [.n [1, 2, 9, 12], .o 21] O120 fun b121 w122 O123 => ?_
             refine gc (writeOk (r := r) O123 11 (by kernel_rfl) 6 (by kernel_rfl) (hasShk_shk (pvx a0h c0h a1h c1h amh cmh p) p bkh dkh (x :: K')) hfit (by decide) hright (.inl rfl) (hI.p7 hm).1 (by first | omega | (simp only [List.length_cons] at hkl ⊢; omega)) (hI.facts (by omega)).2.2.2.2.2.2.1 hw) ?_
             rintro e128 w126 ⟨mB124, md125, rfl, O127⟩
             refine gr (js := [2, 3, 10, 13]) O127.mconsS fun O127 => ?_
             refine sg0 [.qs [22, 23, 24, 25], .o 27, .s 1 [2, 3, 10, 13], .qs [28, 29], .z] O127 fun w129 O130 => ?_
             exact gz _ fun a F => hM57 a _ (b121, mB124, md125) F (O130.sel [1, 0, 2, 3, 4, 5, 6, 7, 8, 9, 10, 11, 12, 13, 14, 15, 16, 17]) trivial
         · intro O131
           refine sg1 [.n [1, 2, 9, 12], .o 12] O131 fun b132 w133 O134 => ?_
           refine gx [.cell g0 (0 + (2 + k) * 1) (.int .i64 ((k : Int) + 3))] O134 ⟨(rowN_at (g := g0) (d := d0) (n := 14) (l := s100) O134 12 (by kernel_rfl) rfl (s100_2 hk5)), trivial⟩ fun O135 => ?_
           refine sg0 [.a (.r 0), .o 21] O135 fun w136 O137 => ?_
           refine gc (writeOk (r := r) O137 11 (by kernel_rfl) 6 (by kernel_rfl) (hasShk_shk (pvx a0h c0h a1h c1h amh cmh p) p bkh dkh (x :: K')) hfit (by decide) hright (.inl rfl) (hI.p7 hm).1 (by first | omega | (simp only [List.length_cons] at hkl ⊢; omega)) (hI.facts (by omega)).2.2.2.2.2.2.1 hw) ?_
           rintro e142 w140 ⟨mB138, md139, rfl, O141⟩
           refine gr (js := [2, 3, 10, 13]) O141.mconsS fun O141 => ?_
           refine sg0 [.qs [22, 23, 24, 25], .o 27, .s 1 [2, 3, 10, 13], .qs [28, 29], .z] O141 fun w143 O144 => ?_
           exact gz _ fun a F => hM57 a _ (b132, mB138, md139) F (O144.sel [1, 0, 2, 3, 4, 5, 6, 7, 8, 9, 10, 11, 12, 13, 14, 15, 16, 17]) trivial
       · intro O145
         refine sg1 [.n [1, 2, 9, 12]] O145 fun b146 w147 O148 => ?_
         refine gA [12, 20] O148 ⟨?_, ?_, trivial⟩
         · intro O149
           refine gx [.cell g0 (0 + (2 + k) * 1) (.int .i64 ((k : Int) + 3))] O149 ⟨(rowN_at (g := g0) (d := d0) (n := 14) (l := s100) O149 12 (by kernel_rfl) rfl (s100_2 hk5)), trivial⟩ fun O150 => ?_
           refine sg0 [.a (.r 0), .o 20] O150 fun w151 O152 => ?_
           refine gx [.cell g0 (0 + (2 + k) * 1) (.int .i64 ((k : Int) + 3)), .cell g0 (0 + (8 + k) * 1) (.int .i64 ((k : Int) + 9))] O152 ⟨(rowN_at (g := g0) (d := d0) (n := 14) (l := s100) O152 12 (by kernel_rfl) rfl (s100_2 hk5)), (rowN_at (g := g0) (d := d0) (n := 14) (l := s100) O152 12 (by kernel_rfl) rfl (s100_8 hk5)), trivial⟩ fun O153 => ?_
           refine sg0 [.a (.r 1), .o 21] O153 fun w154 O155 => ?_
           refine gc (writeOk (r := r) O155 11 (by kernel_rfl) 6 (by kernel_rfl) (hasShk_shk (pvx a0h c0h a1h c1h amh cmh p) p bkh dkh (x :: K')) hfit (by decide) hright (.inl rfl) (hI.p7 hm).1 (by first | omega | (simp only [List.length_cons] at hkl ⊢; omega)) (hI.facts (by omega)).2.2.2.2.2.2.1 hw) ?_
           rintro e160 w158 ⟨mB156, md157, rfl, O159⟩
           refine gr (js := [2, 3, 10, 13]) O159.mconsS fun O159 => ?_
           refine sg0 [.qs [22, 23, 24, 25], .o 27, .s 1 [2, 3, 10, 13], .qs [28, 29], .z] O159 fun w161 O162 => ?_
           exact gz _ fun a F => hM57 a _ (b146, mB156, md157) F (O162.sel [1, 0, 2, 3, 4, 5, 6, 7, 8, 9, 10, 11, 12, 13, 14, 15, 16, 17]) trivial
         · intro O163
           refine gx [.cell g0 (0 + (8 + k) * 1) (.int .i64 ((k : Int) + 9))] O163 ⟨(rowN_at (g := g0) (d := d0) (n := 14) (l := s100) O163 12 (by kernel_rfl) rfl (s100_8 hk5)), trivial⟩ fun O164 => ?_
           refine sg0 [.a (.r 0), .o 12] O164 fun w165 O166 => ?_
           refine gx [.cell g0 (0 + (8 + k) * 1) (.int .i64 ((k : Int) + 9)), .cell g0 (0 + (2 + k) * 1) (.int .i64 ((k : Int) + 3))] O166 ⟨(rowN_at (g := g0) (d := d0) (n := 14) (l := s100) O166 12 (by kernel_rfl) rfl (s100_8 hk5)), (rowN_at (g := g0) (d := d0) (n := 14) (l := s100) O166 12 (by kernel_rfl) rfl (s100_2 hk5)), trivial⟩ fun O167 => ?_
           refine sg0 [.a (.r 1), .o 21] O167 fun w168 O169 => ?_
           refine gc (writeOk (r := r) O169 11 (by kernel_rfl) 6 (by kernel_rfl) (hasShk_shk (pvx a0h c0h a1h c1h amh cmh p) p bkh dkh (x :: K')) hfit (by decide) hright (.inl rfl) (hI.p7 hm).1 (by first | omega | (simp only [List.length_cons] at hkl ⊢; omega)) (hI.facts (by omega)).2.2.2.2.2.2.1 hw) ?_
           rintro e174 w172 ⟨mB170, md171, rfl, O173⟩
           refine gr (js := [2, 3, 10, 13]) O173.mconsS fun O173 => ?_
           refine sg0 [.qs [22, 23, 24, 25], .o 27, .s 1 [2, 3, 10, 13], .qs [28, 29], .z] O173 fun w175 O176 => ?_
           exact gz _ fun a F => hM57 a _ (b146, mB170, md171) F (O176.sel [1, 0, 2, 3, 4, 5, 6, 7, 8, 9, 10, 11, 12, 13, 14, 15, 16, 17]) trivial
     · rintro ⟨j54, j55, j56⟩ w177 O178 _
       rcases hno with ⟨rfl, rfl⟩ | ⟨rfl, rfl, rfl, rfl, hI'⟩
       · refine sg0 [.p 1, .a (.r 2), .p 2, .a (.r 3), .p 2] O178 fun w179 O180 => ?_
         refine gS (readBad (readOk (msg := msg) (mB := j55) (md := j56) (r := r) O180 12 (by kernel_rfl) 5 (by kernel_rfl) (hasShk_shk (pvx a0g c0g a1g c1g amg cmg p) p bkg dkg (14 :: K')) hfit (by decide) hright (.inr rfl) (Int.natCast_nonneg _) (hI.p7 hm).2 (by first | omega | (simp only [List.length_cons] at hkl ⊢; omega)) (hI.facts (by omega)).2.2.2.2.2.2.2 hml (kept2_thing 1 (by kernel_rfl) (by decide) (by decide) (rowI_holds (B := j55) (d := j56) (l := msg))) hrd) (by decide)) fun w181 O182 => ?_
         refine sg1 [.p 4, .n [], .s 0 [], .p 11] O182 fun b184 w185 O186 => ?_
         refine gU (args := #[]) (awake12E O186 henv) fun w187 O188 => ?_
         refine sg0 [.p 2] O188 fun w190 O191 => ?_
         exact gret [] O191 (⟨rfl, O191.below⟩)
       · refine sg0 [.p 1, .a (.r 2), .p 2, .a (.r 3), .p 2] O178 fun w192 O193 => ?_
         refine gS (readOk (msg := msg) (mB := j55) (md := j56) (r := r) O193 12 (by kernel_rfl) 5 (by kernel_rfl) (hasShk_shk (pvx a0g c0g a1g c1g amg cmg p) p bkg dkg (14 :: K')) hfit (by decide) hright (.inr rfl) (Int.natCast_nonneg _) (hI.p7 hm).2 (by first | omega | (simp only [List.length_cons] at hkl ⊢; omega)) (hI.facts (by omega)).2.2.2.2.2.2.2 hml (kept2_thing 1 (by kernel_rfl) (by decide) (by decide) (rowI_holds (B := j55) (d := j56) (l := msg))) hrd) fun w194 O195 => ?_
         refine sg1 [.p 4, .n [], .s 0 [], .p 8, .d [0, 1, 3], .qs [0], .q 1 (.r 2), .qs [2], .q 3 (.r 2), .qs [4], .q 5 (.r 1), .q 6 (.r 0), .qs [7], .o 8, .s 4 [0, 1, 3], .qs [9], .o 10, .s 4 [0, 1, 3], .z, .a (iW ((k : Int) + 1)), .p 1] O195 fun b197 w198 O199 => ?_
         exact gz _ fun a F => hM44 a _ (k + 1, A4, zx, wE, wR, wQ, wk, wh, wc, wb, wn, zE, zR, zQ, zk, zh, zc, zb, zn) F (O199.as 4) ⟨hk1, h29', hI'⟩ (show p.msgs.length - (k + 1) < p.msgs.length - k by omega)
   · obtain ⟨A3, A4, wa, wx, wE, wR, wQ, wk, wh, wc, wb, wn, za, zx, zE, zR, zQ, zk, zh, zc, zb, zn, msg, xx, no, hw, hrd, h29', hml, hno⟩ := (hI.go hright hm h29).2 hfr
     refine sg0 [.p 1, .a (.i _ mb mq p.msgs.length k hA hk1)] O47 fun w200 O201 => ?_
     refine gx [.cell mb (mq + k * 2) (.int .i64 1), .cell mb (mq + k * 2 + 1) (.slice D m.t.length d)] O201 ⟨((hcell _ O201.below).1.trans (by rw [hfr])), (hcell _ O201.below).2, trivial⟩ fun O202 => ?_
     refine sg1 [.a (.l [0, 1]), .n [], .p 1, .s 0 []] O202 fun b203 w204 O205 => ?_
     refine gj false 17 O205 (fun (zz : Nat × Option Addr × Nat) => match zz with | (j206, j207, j208) => [(4, .bool false), (5, .pointer (some ⟨r, 0, none⟩)), (7, .pointer (some ⟨b11, 0, none⟩)), (15, .pointer (some ⟨b38, 0, none⟩)), (17, .pointer (some ⟨b203, 0, none⟩)), (18, .pointer (some ⟨j206, 0, none⟩)), (19, .slice j207 msg.length j208), (20, .int .i64 0), (102, .slice am p.msgs.length cm), (103, .int .i64 (p.msgs.length : Int)), (104, .int .i64 (k : Int))]) (fun (zz : Nat × Option Addr × Nat) => match zz with | (j206, j207, j208) => [.blk j206 (.cells #[.int .i64 1, .int .i64 wa, .int .i64 wx, .string (strO p.name), .slice a0g p.pre0.length c0g, .slice a1g p.pre1.length c1g, .slice amg p.msgs.length cmg, .int .i64 S1, .int .i64 wE, .int .i64 wR, .int .i64 wQ, .slice bkg ((14 :: K').length) dkg, .int .i64 wk, .int .i64 wh, .int .i64 wc, .bool wb, .int .u64 wn] 42), .thing (rowT 3 1 (.slice j207 msg.length j208) msg.length (intsV msg)), .blk b203 (.cells #[.int .i64 1, .slice D m.t.length d] 61), .blk b38 (.cells #[.int .i64 0, .int .i64 (k : Int), .int .i64 vx, .string (strO p.name), .slice a0h p.pre0.length c0h, .slice a1h p.pre1.length c1h, .slice amh p.msgs.length cmh, .int .i64 S0, .int .i64 vE, .int .i64 vR, .int .i64 vQ, .slice bkh ((x :: K').length) dkh, .int .i64 vk, .int .i64 vh, .int .i64 vc, .bool vb, .int .u64 vn, .int .i64 1, .int .i64 (k : Int), .int .i64 vx, .string (strO p.name), .slice a0g p.pre0.length c0g, .slice a1g p.pre1.length c1g, .slice amg p.msgs.length cmg, .int .i64 S1, .int .i64 uE, .int .i64 uR, .int .i64 uQ, .slice bkg ((14 :: K').length) dkg, .int .i64 uk, .int .i64 uh, .int .i64 uc, .bool ub, .int .u64 un] 59), .blk b37 (.cells #[.int .i64 1, .int .i64 0, .int .i64 0, .string (strO p.name), .slice a0g p.pre0.length c0g, .slice a1g p.pre1.length c1g, .slice amg p.msgs.length cmg, .int .i64 S1, .int .i64 E1, .int .i64 R1, .int .i64 Q1, .slice bkg ((14 :: K').length) dkg, .int .i64 ck, .int .i64 hh, .int .i64 cc, .bool cb, .int .u64 cn] 42), .thing (shkT (pvx a0g c0g a1g c1g amg cmg p) p (.slice bkg (14 :: K').length dkg) (14 :: K')), .blk b31 (.cells #[.int .i64 0, .int .i64 0, .int .i64 0, .string (strO p.name), .slice a0h p.pre0.length c0h, .slice a1h p.pre1.length c1h, .slice amh p.msgs.length cmh, .int .i64 S0, .int .i64 E0, .int .i64 R0, .int .i64 Q0, .slice bkh ((x :: K').length) dkh, .int .i64 ck, .int .i64 hh, .int .i64 cc, .bool cb, .int .u64 cn] 42), .thing (shkT (pvx a0h c0h a1h c1h amh cmh p) p (.slice bkh (x :: K').length dkh) (x :: K')), .thing (rowT 3 1 (.slice (some ⟨g2, 0, none⟩) (14 :: K').length d17) (14 :: K').length (intsV (14 :: K'))), .blk b12 (.cells #[.int .i64 1, .int .i64 2, .int .i64 rs0, .int .i64 re0, .slice B0 ((x :: K').length) e0, .int .i64 15, .int .i64 16, .int .i64 rs1, .int .i64 re1, .slice (some ⟨g2, 0, none⟩) ((x :: K').length) d17] 56), .blk b11 (.cells #[.slice (some ⟨g0, 0, none⟩) 14 d0, .slice (some ⟨g1, 0, none⟩) 14 d1] 30), .blk b10 (.cells #[.int .i64 2000, .slice nB nm nd_] 55), .thing (arena r A3), .row 3 1 g0 14 d0 [.int .i64 1, .int .i64 2, .int .i64 3, .int .i64 4, .int .i64 5, .int .i64 6, .int .i64 7, .int .i64 8, .int .i64 9, .int .i64 10, .int .i64 11, .int .i64 12, .int .i64 13, .int .i64 14], .row 3 1 g1 14 d1 [.int .i64 15, .int .i64 16, .int .i64 17, .int .i64 18, .int .i64 19, .int .i64 20, .int .i64 21, .int .i64 22, .int .i64 23, .int .i64 24, .int .i64 25, .int .i64 26, .int .i64 27, .int .i64 28], .thing (rowT 3 1 (.slice B0 (x :: K').length e0) (x :: K').length (intsV (x :: K'))), .thing (rowT 3 1 (.slice B1 (x :: K').length e1) (x :: K').length (intsV (x :: K'))), .blk b1 (.cells #[.string (strO p.name), .slice a0 p.pre0.length c0, .slice a1 p.pre1.length c1, .slice am p.msgs.length cm, .slice uB us.length ud, .int .i64 lim, .int .u8 ams, .int .u8 chg] 52)]) (fun (zz : Nat × Option Addr × Nat) w => match zz with | (j206, j207, j208) => True) ?_ ?_
     · intro _ hM209 O210
       refine sg0 [.d [0, 1, 8, 12], .qs [0], .q 1 (.r 0), .qs [2], .q 3 (.r 1), .qs [4, 5], .q 6 (.r 0), .qs [7], .q 8 (.r 2), .qs [9], .q 10 (iW (2 + (k : Int))), .q 11 (.i _ g1 0 14 (2 + k) rfl (by omega)), .qs [13], .q 14 (.r 0), .qs [15], .q 16 (.r 2), .qs [17], .q 18 (iW (8 + (k : Int))), .q 19 (.i _ g1 0 14 (8 + k) rfl (by omega))] O210 fun w211 O212 => ?_
       refine gA [12, 20, 26] O212 ⟨?_, ?_, ?_, trivial⟩
       · intro O213
         refine gx [.cell g1 (0 + (2 + k) * 1) (.int .i64 ((k : Int) + 17))] O213 ⟨(rowN_at (g := g1) (d := d1) (n := 14) (l := s200) O213 12 (by kernel_rfl) rfl (s200_2 hk5)), trivial⟩ fun O214 => ?_
         refine sg0 [.a (.r 0)] O214 fun w215 O216 => ?_
         refine gA [20, 26] O216 ⟨?_, ?_, trivial⟩
         · intro O217
           refine gx [.cell g1 (0 + (2 + k) * 1) (.int .i64 ((k : Int) + 17)), .cell g1 (0 + (8 + k) * 1) (.int .i64 ((k : Int) + 23))] O217 ⟨(rowN_at (g := g1) (d := d1) (n := 14) (l := s200) O217 12 (by kernel_rfl) rfl (s200_2 hk5)), (rowN_at (g := g1) (d := d1) (n := 14) (l := s200) O217 12 (by kernel_rfl) rfl (s200_8 hk5)), trivial⟩ fun O218 => ?_
           refine sg0 [.a (.r 1)] O218 fun w219 O220 => ?_
           refine gA [21, 26] O220 ⟨?_, ?_, trivial⟩
           · intro O221
             refine gc (writeOk (r := r) O221 10 (by kernel_rfl) 3 (by kernel_rfl) (hasShk_shk (pvx a0g c0g a1g c1g amg cmg p) p bkg dkg (14 :: K')) hfit (by decide) hright (.inr rfl) (hI.p7 hm).2 (by first | omega | (simp only [List.length_cons] at hkl ⊢; omega)) (hI.facts (by omega)).2.2.2.2.2.2.2 hw) ?_
             rintro e226 w224 ⟨mB222, md223, rfl, O225⟩
             refine gr (js := [1, 2, 9, 13]) O225.mconsS fun O225 => ?_
             refine sg1 [.qs [22, 23, 24, 25], .o 26, .n [2, 3, 10, 14], .o 27, .s 0 [2, 3, 10, 14], .qs [28, 29], .z] O225 fun b227 w228 O229 => ?_
             exact gz _ fun a F => hM209 a _ (b227, mB222, md223) F (O229.sel [0, 1, 2, 3, 4, 5, 6, 7, 8, 9, 10, 11, 12, 13, 14, 15, 16, 17]) trivial
           · intro O230
             refine sg1 [.n [1, 2, 9, 13], .o 21] O230 fun b231 w232 O233 => ?_
             refine gc (writeOk (r := r) O233 11 (by kernel_rfl) 4 (by kernel_rfl) (hasShk_shk (pvx a0g c0g a1g c1g amg cmg p) p bkg dkg (14 :: K')) hfit (by decide) hright (.inr rfl) (hI.p7 hm).2 (by first | omega | (simp only [List.length_cons] at hkl ⊢; omega)) (hI.facts (by omega)).2.2.2.2.2.2.2 hw) ?_
             rintro e238 w236 ⟨mB234, md235, rfl, O237⟩
             refine gr (js := [2, 3, 10, 14]) O237.mconsS fun O237 => ?_
             refine sg0 [.qs [22, 23, 24, 25], .o 27, .s 1 [2, 3, 10, 14], .qs [28, 29], .z] O237 fun w239 O240 => ?_
             exact gz _ fun a F => hM209 a _ (b231, mB234, md235) F (O240.sel [1, 0, 2, 3, 4, 5, 6, 7, 8, 9, 10, 11, 12, 13, 14, 15, 16, 17]) trivial
         · intro O241
           refine sg1 [.n [1, 2, 9, 13], .o 20] O241 fun b242 w243 O244 => ?_
           refine gx [.cell g1 (0 + (8 + k) * 1) (.int .i64 ((k : Int) + 23))] O244 ⟨(rowN_at (g := g1) (d := d1) (n := 14) (l := s200) O244 13 (by kernel_rfl) rfl (s200_8 hk5)), trivial⟩ fun O245 => ?_
           refine sg0 [.a (.r 0), .o 21] O245 fun w246 O247 => ?_
           refine gc (writeOk (r := r) O247 11 (by kernel_rfl) 4 (by kernel_rfl) (hasShk_shk (pvx a0g c0g a1g c1g amg cmg p) p bkg dkg (14 :: K')) hfit (by decide) hright (.inr rfl) (hI.p7 hm).2 (by first | omega | (simp only [List.length_cons] at hkl ⊢; omega)) (hI.facts (by omega)).2.2.2.2.2.2.2 hw) ?_
           rintro e252 w250 ⟨mB248, md249, rfl, O251⟩
           refine gr (js := [2, 3, 10, 14]) O251.mconsS fun O251 => ?_
           refine sg0 [.qs [22, 23, 24, 25], .o 27, .s 1 [2, 3, 10, 14], .qs [28, 29], .z] O251 fun w253 O254 => ?_
           exact gz _ fun a F => hM209 a _ (b242, mB248, md249) F (O254.sel [1, 0, 2, 3, 4, 5, 6, 7, 8, 9, 10, 11, 12, 13, 14, 15, 16, 17]) trivial
       · intro O255
         refine gx [.cell g1 (0 + (8 + k) * 1) (.int .i64 ((k : Int) + 23))] O255 ⟨(rowN_at (g := g1) (d := d1) (n := 14) (l := s200) O255 12 (by kernel_rfl) rfl (s200_8 hk5)), trivial⟩ fun O256 => ?_
         refine sg0 [.a (.r 0)] O256 fun w257 O258 => ?_
         refine gA [12, 26] O258 ⟨?_, ?_, trivial⟩
         · intro O259
           refine gx [.cell g1 (0 + (8 + k) * 1) (.int .i64 ((k : Int) + 23)), .cell g1 (0 + (2 + k) * 1) (.int .i64 ((k : Int) + 17))] O259 ⟨(rowN_at (g := g1) (d := d1) (n := 14) (l := s200) O259 12 (by kernel_rfl) rfl (s200_8 hk5)), (rowN_at (g := g1) (d := d1) (n := 14) (l := s200) O259 12 (by kernel_rfl) rfl (s200_2 hk5)), trivial⟩ fun O260 => ?_
           refine sg0 [.a (.r 1)] O260 fun w261 O262 => ?_
           refine gA [21, 26] O262 ⟨?_, ?_, trivial⟩
           · intro O263
             refine gc (writeOk (r := r) O263 10 (by kernel_rfl) 3 (by kernel_rfl) (hasShk_shk (pvx a0g c0g a1g c1g amg cmg p) p bkg dkg (14 :: K')) hfit (by decide) hright (.inr rfl) (hI.p7 hm).2 (by first | omega | (simp only [List.length_cons] at hkl ⊢; omega)) (hI.facts (by omega)).2.2.2.2.2.2.2 hw) ?_
             rintro e268 w266 ⟨mB264, md265, rfl, O267⟩
             refine gr (js := [1, 2, 9, 13]) O267.mconsS fun O267 => ?_
             refine sg1 [.qs [22, 23, 24, 25], .o 26, .n [2, 3, 10, 14], .o 27, .s 0 [2, 3, 10, 14], .qs [28, 29], .z] O267 fun b269 w270 O271 => ?_
             exact gz _ fun a F => hM209 a _ (b269, mB264, md265) F (O271.sel [0, 1, 2, 3, 4, 5, 6, 7, 8, 9, 10, 11, 12, 13, 14, 15, 16, 17]) trivial
           · intro O272
             refine sg1 [.n [1, 2, 9, 13], .o 21] O272 fun b273 w274 O275 => ?_
             refine gc (writeOk (r := r) O275 11 (by kernel_rfl) 4 (by kernel_rfl) (hasShk_shk (pvx a0g c0g a1g c1g amg cmg p) p bkg dkg (14 :: K')) hfit (by decide) hright (.inr rfl) (hI.p7 hm).2 (by first | omega | (simp only [List.length_cons] at hkl ⊢; omega)) (hI.facts (by omega)).2.2.2.2.2.2.2 hw) ?_
             rintro e280 w278 ⟨mB276, md277, rfl, O279⟩
             refine gr (js := [2, 3, 10, 14]) O279.mconsS fun O279 => ?_
             refine sg0 [.qs [22, 23, 24, 25], .o 27, .s 1 [2, 3, 10, 14], .qs [28, 29], .z] O279 fun w281 O282 => ?_
             exact gz _ fun a F => hM209 a _ (b273, mB276, md277) F (O282.sel [1, 0, 2, 3, 4, 5, 6, 7, 8, 9, 10, 11, 12, 13, 14, 15, 16, 17]) trivial
         · intro O283
           refine sg1 [.n [1, 2, 9, 13], .o 12] O283 fun b284 w285 O286 => ?_
           refine gx [.cell g1 (0 + (2 + k) * 1) (.int .i64 ((k : Int) + 17))] O286 ⟨(rowN_at (g := g1) (d := d1) (n := 14) (l := s200) O286 13 (by kernel_rfl) rfl (s200_2 hk5)), trivial⟩ fun O287 => ?_
           refine sg0 [.a (.r 0), .o 21] O287 fun w288 O289 => ?_
           refine gc (writeOk (r := r) O289 11 (by kernel_rfl) 4 (by kernel_rfl) (hasShk_shk (pvx a0g c0g a1g c1g amg cmg p) p bkg dkg (14 :: K')) hfit (by decide) hright (.inr rfl) (hI.p7 hm).2 (by first | omega | (simp only [List.length_cons] at hkl ⊢; omega)) (hI.facts (by omega)).2.2.2.2.2.2.2 hw) ?_
           rintro e294 w292 ⟨mB290, md291, rfl, O293⟩
           refine gr (js := [2, 3, 10, 14]) O293.mconsS fun O293 => ?_
           refine sg0 [.qs [22, 23, 24, 25], .o 27, .s 1 [2, 3, 10, 14], .qs [28, 29], .z] O293 fun w295 O296 => ?_
           exact gz _ fun a F => hM209 a _ (b284, mB290, md291) F (O296.sel [1, 0, 2, 3, 4, 5, 6, 7, 8, 9, 10, 11, 12, 13, 14, 15, 16, 17]) trivial
       · intro O297
         refine sg1 [.n [1, 2, 9, 13]] O297 fun b298 w299 O300 => ?_
         refine gA [12, 20] O300 ⟨?_, ?_, trivial⟩
         · intro O301
           refine gx [.cell g1 (0 + (2 + k) * 1) (.int .i64 ((k : Int) + 17))] O301 ⟨(rowN_at (g := g1) (d := d1) (n := 14) (l := s200) O301 13 (by kernel_rfl) rfl (s200_2 hk5)), trivial⟩ fun O302 => ?_
           refine sg0 [.a (.r 0), .o 20] O302 fun w303 O304 => ?_
           refine gx [.cell g1 (0 + (2 + k) * 1) (.int .i64 ((k : Int) + 17)), .cell g1 (0 + (8 + k) * 1) (.int .i64 ((k : Int) + 23))] O304 ⟨(rowN_at (g := g1) (d := d1) (n := 14) (l := s200) O304 13 (by kernel_rfl) rfl (s200_2 hk5)), (rowN_at (g := g1) (d := d1) (n := 14) (l := s200) O304 13 (by kernel_rfl) rfl (s200_8 hk5)), trivial⟩ fun O305 => ?_
           refine sg0 [.a (.r 1), .o 21] O305 fun w306 O307 => ?_
           refine gc (writeOk (r := r) O307 11 (by kernel_rfl) 4 (by kernel_rfl) (hasShk_shk (pvx a0g c0g a1g c1g amg cmg p) p bkg dkg (14 :: K')) hfit (by decide) hright (.inr rfl) (hI.p7 hm).2 (by first | omega | (simp only [List.length_cons] at hkl ⊢; omega)) (hI.facts (by omega)).2.2.2.2.2.2.2 hw) ?_
           rintro e312 w310 ⟨mB308, md309, rfl, O311⟩
           refine gr (js := [2, 3, 10, 14]) O311.mconsS fun O311 => ?_
           refine sg0 [.qs [22, 23, 24, 25], .o 27, .s 1 [2, 3, 10, 14], .qs [28, 29], .z] O311 fun w313 O314 => ?_
           exact gz _ fun a F => hM209 a _ (b298, mB308, md309) F (O314.sel [1, 0, 2, 3, 4, 5, 6, 7, 8, 9, 10, 11, 12, 13, 14, 15, 16, 17]) trivial
         · intro O315
           refine gx [.cell g1 (0 + (8 + k) * 1) (.int .i64 ((k : Int) + 23))] O315 ⟨(rowN_at (g := g1) (d := d1) (n := 14) (l := s200) O315 13 (by kernel_rfl) rfl (s200_8 hk5)), trivial⟩ fun O316 => ?_
           refine sg0 [.a (.r 0), .o 12] O316 fun w317 O318 => ?_
           refine gx [.cell g1 (0 + (8 + k) * 1) (.int .i64 ((k : Int) + 23)), .cell g1 (0 + (2 + k) * 1) (.int .i64 ((k : Int) + 17))] O318 ⟨(rowN_at (g := g1) (d := d1) (n := 14) (l := s200) O318 13 (by kernel_rfl) rfl (s200_8 hk5)), (rowN_at (g := g1) (d := d1) (n := 14) (l := s200) O318 13 (by kernel_rfl) rfl (s200_2 hk5)), trivial⟩ fun O319 => ?_
           refine sg0 [.a (.r 1), .o 21] O319 fun w320 O321 => ?_
           refine gc (writeOk (r := r) O321 11 (by kernel_rfl) 4 (by kernel_rfl) (hasShk_shk (pvx a0g c0g a1g c1g amg cmg p) p bkg dkg (14 :: K')) hfit (by decide) hright (.inr rfl) (hI.p7 hm).2 (by first | omega | (simp only [List.length_cons] at hkl ⊢; omega)) (hI.facts (by omega)).2.2.2.2.2.2.2 hw) ?_
           rintro e326 w324 ⟨mB322, md323, rfl, O325⟩
           refine gr (js := [2, 3, 10, 14]) O325.mconsS fun O325 => ?_
           refine sg0 [.qs [22, 23, 24, 25], .o 27, .s 1 [2, 3, 10, 14], .qs [28, 29], .z] O325 fun w327 O328 => ?_
           exact gz _ fun a F => hM209 a _ (b298, mB322, md323) F (O328.sel [1, 0, 2, 3, 4, 5, 6, 7, 8, 9, 10, 11, 12, 13, 14, 15, 16, 17]) trivial
     · rintro ⟨j206, j207, j208⟩ w329 O330 _
       rcases hno with ⟨rfl, rfl⟩ | ⟨rfl, rfl, rfl, rfl, hI'⟩
       · refine sg0 [.p 1, .a (.r 2), .p 2, .a (.r 3), .p 2] O330 fun w331 O332 => ?_
         refine gS (readBad (readOk (msg := msg) (mB := j207) (md := j208) (r := r) O332 12 (by kernel_rfl) 7 (by kernel_rfl) (hasShk_shk (pvx a0h c0h a1h c1h amh cmh p) p bkh dkh (x :: K')) hfit (by decide) hright (.inl rfl) (Int.natCast_nonneg _) (hI.p7 hm).1 (by first | omega | (simp only [List.length_cons] at hkl ⊢; omega)) (hI.facts (by omega)).2.2.2.2.2.2.1 hml (kept2_thing 1 (by kernel_rfl) (by decide) (by decide) (rowI_holds (B := j207) (d := j208) (l := msg))) hrd) (by decide)) fun w333 O334 => ?_
         refine sg1 [.p 4, .n [], .s 0 [], .p 11] O334 fun b336 w337 O338 => ?_
         refine gU (args := #[]) (awake12E O338 henv) fun w339 O340 => ?_
         refine sg0 [.p 2] O340 fun w342 O343 => ?_
         exact gret [] O343 (⟨rfl, O343.below⟩)
       · refine sg0 [.p 1, .a (.r 2), .p 2, .a (.r 3), .p 2] O330 fun w344 O345 => ?_
         refine gS (readOk (msg := msg) (mB := j207) (md := j208) (r := r) O345 12 (by kernel_rfl) 7 (by kernel_rfl) (hasShk_shk (pvx a0h c0h a1h c1h amh cmh p) p bkh dkh (x :: K')) hfit (by decide) hright (.inl rfl) (Int.natCast_nonneg _) (hI.p7 hm).1 (by first | omega | (simp only [List.length_cons] at hkl ⊢; omega)) (hI.facts (by omega)).2.2.2.2.2.2.1 hml (kept2_thing 1 (by kernel_rfl) (by decide) (by decide) (rowI_holds (B := j207) (d := j208) (l := msg))) hrd) fun w346 O347 => ?_
         refine sg1 [.p 4, .n [], .s 0 [], .p 8, .d [0, 1, 3], .qs [0], .q 1 (.r 2), .qs [2], .q 3 (.r 2), .qs [4], .q 5 (.r 1), .q 6 (.r 0), .qs [7], .o 8, .s 4 [0, 1, 3], .qs [9], .o 10, .s 4 [0, 1, 3], .z, .a (iW ((k : Int) + 1)), .p 1] O347 fun b349 w350 O351 => ?_
         exact gz _ fun a F => hM44 a _ (k + 1, A4, zx, zE, zR, zQ, zk, zh, zc, zb, zn, wE, wR, wQ, wk, wh, wc, wb, wn) F (O351.as 4) ⟨hk1, h29', hI'⟩ (show p.msgs.length - (k + 1) < p.msgs.length - k by omega)
 · have h45p : ¬ ((k : Int) < (p.msgs.length : Int)) := by simpa only [decide_eq_true_eq, decide_eq_false_iff_not] using h45
   have hlen : p.msgs.length = k := by have := h45p; omega
   refine sg0 [.a (bT h45), .p 2] O42 fun w352 O353 => ?_
   exact gret (v := .bool false) [] O353 ((hI.done hright hlen).elim)
end Go.Proofs.YtikimmgileffgaaGreatDoor
