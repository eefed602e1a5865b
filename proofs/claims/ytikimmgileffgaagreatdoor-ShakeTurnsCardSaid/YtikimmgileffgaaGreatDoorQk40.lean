/- Packed by packn.py: LawE. -/
import Derived.Test.YtikimmgileffgaaGreatDoorQk39
namespace Go.Proofs.YtikimmgileffgaaGreatDoor
open Go.RowKit
set_option warningAsError false in
set_option maxRecDepth 100000 in
set_option maxHeartbeats 8000000 in
theorem refPartsE {w : World} {ts : List Int} {A : Option Addr} {c : Nat} (hh : Holds w A (intsV ts)) (hl : ts.length ≤ 1000000) :
    Calls Tryz.prog 93 #[.slice A ts.length c] w fun e' w' => e' = .returned (.int .i64 (partsR ts)) ∧ Below w.heap.size w w' := by
 have O0 := Own.start w
 replace O0 : Own w w (List.map Ent.t []) := O0
 refine gent O0 Tryz.func93 ?_
 refine sg0 [.p 3] O0 fun w1 O2 => ?_
 refine gl (fun (zz : Nat × Int) => match zz with | (k, n) => [(0, .slice A ts.length c), (2, .int .i64 0), (3, .int .i64 n), (4, .int .i64 (k : Int))]) (fun (zz : Nat × Int) => match zz with | (k, n) => []) (fun (zz : Nat × Int) w => match zz with | (k, n) => k ≤ ts.length ∧ n - 1 + partsR (ts.drop k) = partsR ts ∧ (1 ≤ n ∧ n ≤ k + 1)) (fun (zz : Nat × Int) => match zz with | (k, n) => ts.length - k) (0, 1) (O2.as 0) ⟨(Nat.zero_le _), (by simp), (by omega)⟩ ?_
 rintro M5 ⟨k, n⟩ w3 hM6 O4 ⟨hk, hq, hn⟩
 refine sg0 [.p 3] O4 fun w7 O8 => ?_
 rcases Bool.eq_false_or_eq_true (decide ((k : Int) < (ts.length : Int))) with h9 | h9
 · have h9p : ((k : Int) < (ts.length : Int)) := by simpa only [decide_eq_true_eq, decide_eq_false_iff_not] using h9
   have hk : k + 1 ≤ ts.length := by have := h9p; omega
   obtain ⟨t, ht⟩ : ∃ t, ts[k]? = some t := ⟨_, List.getElem?_eq_getElem hk⟩
   obtain ⟨qb, q, hA, hcell⟩ := holdsI_at hh ht
   have hdrop := drop_at ht
   refine sg0 [.a (bT h9), .p 3, .a (.i _ qb q ts.length k hA hk)] O8 fun w10 O11 => ?_
   refine gx [.cell qb (q + k * 1) (.int .i64 t)] O11 ⟨(hcell _ O11.below), trivial⟩ fun O12 => ?_
   refine sg0 [.a (.r 0)] O12 fun w13 O14 => ?_
   rcases Bool.eq_false_or_eq_true (t == 1) with h15 | h15
   · have h15p : t = 1 := by simpa using h15
     refine sg0 [.a (bT h15), .p 9, .a (iW (n + 1)), .p 2, .a (iW ((k : Int) + 1)), .p 1] O14 fun w16 O17 => ?_
     exact gz _ fun a F => hM6 a _ (k + 1, n + 1) F (O17.as 0) ⟨hk, (by rw [hdrop] at hq; simp [partsR, h15p] at hq; omega), (by omega)⟩ (show ts.length - (k + 1) < ts.length - k by omega)
   · have h15p : ¬ t = 1 := by simpa using h15
     refine sg0 [.a (bT h15), .p 3, .a (.i _ qb q ts.length k hA hk), .a (.r 0)] O14 fun w18 O19 => ?_
     rcases Bool.eq_false_or_eq_true (t == 2) with h20 | h20
     · have h20p : t = 2 := by simpa using h20
       refine sg0 [.a (bT h20), .p 3, .a (iW (n + 1)), .p 2, .a (iW ((k : Int) + 1)), .p 1] O19 fun w21 O22 => ?_
       exact gz _ fun a F => hM6 a _ (k + 1, n + 1) F (O22.as 0) ⟨hk, (by rw [hdrop] at hq; simp [partsR, h20p] at hq; omega), (by omega)⟩ (show ts.length - (k + 1) < ts.length - k by omega)
     · have h20p : ¬ t = 2 := by simpa using h20
       refine sg0 [.a (bT h20), .p 3, .a (iW ((k : Int) + 1)), .p 1] O19 fun w23 O24 => ?_
       exact gz _ fun a F => hM6 a _ (k + 1, n) F (O24.as 0) ⟨hk, (by rw [hdrop] at hq; simp [partsR, h15p, h20p] at hq; omega), (by omega)⟩ (show ts.length - (k + 1) < ts.length - k by omega)
 · have h9p : ¬ ((k : Int) < (ts.length : Int)) := by simpa only [decide_eq_true_eq, decide_eq_false_iff_not] using h9
   have hq2 : partsR ts = n := by rw [List.drop_eq_nil_of_le (by have := h9p; omega)] at hq; simp only [partsR] at hq; omega
   refine sg0 [.a (bT h9), .p 3] O8 fun w25 O26 => ?_
   exact gret (v := .int .i64 n) [] O26 (⟨by rw [hq2], O26.below⟩)
set_option warningAsError false in
set_option maxRecDepth 100000 in
set_option maxHeartbeats 8000000 in
theorem turns_none {w : World} {a0 a1 am uB : Option Addr} {c0 c1 cm ud : Nat} {p : Pat} {us : List Int} {lim ams chg : Int} (henv : EnvB w) (hp : PatIn w (Old w) (pvx a0 c0 a1 c1 am cm p) p) (hfit : PatFits p) (hU : Holds w uB (u64V us)) (hus : ∀ u ∈ us, U64 u) {rf pt : Int} (hno : ¬ (fewP p = true ∧ us.length ≤ 10)) :
    Calls Tryz.prog 6 #[.agg #[.string (strO p.name), .slice a0 p.pre0.length c0, .slice a1 p.pre1.length c1, .slice am p.msgs.length cm, .slice uB us.length ud, .int .i64 lim, .int .u8 ams, .int .u8 chg], .int .i64 rf, .int .i64 pt] w (fun e' w' => e' = .returned (.bool true) ∧ Below w.heap.size w w') := by
 have O0 := Own.start w
 replace O0 : Own w w (List.map Ent.t []) := O0
 refine gent O0 Tryz.func6 ?_
 refine sg1 [.n [], .p 1, .a (.r 0)] O0 fun b1 w2 O3 => ?_
 refine gU (args := #[.agg #[.string (strO p.name), .slice a0 p.pre0.length c0, .slice a1 p.pre1.length c1, .slice am p.msgs.length cm, .slice uB us.length ud, .int .i64 lim, .int .u8 ams, .int .u8 chg]]) (arenasN O3 hp hfit hno hU hus) fun w4 O5 => ?_
 refine sg3 [.p 6, .n [], .n [], .n [], .p 1, .s 2 [], .s 1 [], .s 0 [], .p 10] O5 fun b7 b8 b9 w10 O11 => ?_
 refine gU (args := #[]) (awake12E O11 henv) fun w12 O13 => ?_
 refine sg0 [.p 1] O13 fun w15 O16 => ?_
 exact gret [] O16 (⟨rfl, O16.below⟩)
set_option warningAsError false in
set_option maxRecDepth 100000 in
set_option maxHeartbeats 8000000 in
theorem turns_anon {w : World} {a0 a1 am uB : Option Addr} {c0 c1 cm ud : Nat} {p : Pat} {us K : List Int} {lim ams chg : Int} {At : Ar} {rs0 re0 rs1 re1 : Int} (henv : EnvB w) (hp : PatIn w (Old w) (pvx a0 c0 a1 c1 am cm p) p) (hfit : PatFits p) (hU : Holds w uB (u64V us)) (hus : ∀ u ∈ us, U64 u) {rf pt : Int} (hfew : fewP p = true) (hul : us.length ≤ 10) (ht : twoC us = ⟨At, rs0, re0, K, rs1, re1, K⟩) (hname : (((strO p.name) : ByteArray).toList == (⟨#[]⟩ : ByteArray).toList) = true) :
    Calls Tryz.prog 6 #[.agg #[.string (strO p.name), .slice a0 p.pre0.length c0, .slice a1 p.pre1.length c1, .slice am p.msgs.length cm, .slice uB us.length ud, .int .i64 lim, .int .u8 ams, .int .u8 chg], .int .i64 rf, .int .i64 pt] w (fun e' w' => e' = .returned (.bool true) ∧ Below w.heap.size w w') := by
 have O0 := Own.start w
 replace O0 : Own w w (List.map Ent.t []) := O0
 refine gent O0 Tryz.func6 ?_
 refine sg1 [.n [], .p 1, .a (.r 0)] O0 fun b1 w2 O3 => ?_
 refine gc (args := #[.agg #[.string (strO p.name), .slice a0 p.pre0.length c0, .slice a1 p.pre1.length c1, .slice am p.msgs.length cm, .slice uB us.length ud, .int .i64 lim, .int .u8 ams, .int .u8 chg]]) (arenasY O3 hp hfit hfew hul hU hus ht) ?_
 rintro e6 w4 ⟨r, g0, d0, g1, d1, B0, e0, B1, e1, nB, nm, nd_, rfl, O5⟩
 refine gr (O5.frontE [.thing (arena r At), .thing (rowT 3 1 (.slice (some ⟨g0, 0, none⟩) 14 d0) 14 (intsV s100)), .thing (rowT 3 1 (.slice (some ⟨g1, 0, none⟩) 14 d1) 14 (intsV s200)), .thing (rowT 3 1 (.slice B0 K.length e0) K.length (intsV K)), .thing (rowT 3 1 (.slice B1 K.length e1) K.length (intsV K))]) fun O7 => ?_
 refine gL 1 (.row 3 1 g0 14 d0 [.int .i64 1, .int .i64 2, .int .i64 3, .int .i64 4, .int .i64 5, .int .i64 6, .int .i64 7, .int .i64 8, .int .i64 9, .int .i64 10, .int .i64 11, .int .i64 12, .int .i64 13, .int .i64 14]) O7 fun O8 => ?_
 refine gL 2 (.row 3 1 g1 14 d1 [.int .i64 15, .int .i64 16, .int .i64 17, .int .i64 18, .int .i64 19, .int .i64 20, .int .i64 21, .int .i64 22, .int .i64 23, .int .i64 24, .int .i64 25, .int .i64 26, .int .i64 27, .int .i64 28]) O8 fun O9 => ?_
 refine sg3 [.p 6, .n [], .n [], .n [], .p 1, .s 2 [], .s 1 [], .s 0 [], .p 6, .a (.r 8), .a (bT hname), .p 2] O9 fun b10 b11 b12 w13 O14 => ?_
 refine gU (args := #[]) (awake12E O14 henv) fun w15 O16 => ?_
 refine sg0 [.p 1] O16 fun w18 O19 => ?_
 exact gret [] O19 (⟨rfl, O19.below⟩)
set_option warningAsError false in
set_option maxRecDepth 100000 in
set_option maxHeartbeats 8000000 in
theorem turns_why {w : World} {a0 a1 am uB : Option Addr} {c0 c1 cm ud : Nat} {p : Pat} {us K : List Int} {lim ams chg : Int} {At : Ar} {rs0 re0 rs1 re1 : Int} (henv : EnvB w) (hp : PatIn w (Old w) (pvx a0 c0 a1 c1 am cm p) p) (hfit : PatFits p) (hU : Holds w uB (u64V us)) (hus : ∀ u ∈ us, U64 u) {rf pt : Int} (hfew : fewP p = true) (hul : us.length ≤ 10) (ht : twoC us = ⟨At, rs0, re0, K, rs1, re1, K⟩) (hname : (((strO p.name) : ByteArray).toList == (⟨#[]⟩ : ByteArray).toList) = false) (hkl : K.length * 8 ≤ 140737488355328) {W : Int} (hW : ¬ W = 0) (hs0 : startC At p 0 0 ⟨1, 2, rs0, re0, K⟩ = (At, Sy.zero, W)) (hs1 : startC At p 1 0 ⟨15, 16, rs1, re1, K⟩ = (At, Sy.zero, W)) :
    Calls Tryz.prog 6 #[.agg #[.string (strO p.name), .slice a0 p.pre0.length c0, .slice a1 p.pre1.length c1, .slice am p.msgs.length cm, .slice uB us.length ud, .int .i64 lim, .int .u8 ams, .int .u8 chg], .int .i64 rf, .int .i64 pt] w (fun e' w' => e' = .returned (.bool true) ∧ Below w.heap.size w w') := by
 have O0 := Own.start w
 replace O0 : Own w w (List.map Ent.t []) := O0
 refine gent O0 Tryz.func6 ?_
 refine sg1 [.n [], .p 1, .a (.r 0)] O0 fun b1 w2 O3 => ?_
 refine gc (args := #[.agg #[.string (strO p.name), .slice a0 p.pre0.length c0, .slice a1 p.pre1.length c1, .slice am p.msgs.length cm, .slice uB us.length ud, .int .i64 lim, .int .u8 ams, .int .u8 chg]]) (arenasY O3 hp hfit hfew hul hU hus ht) ?_
 rintro e6 w4 ⟨r, g0, d0, g1, d1, B0, e0, B1, e1, nB, nm, nd_, rfl, O5⟩
 refine gr (O5.frontE [.thing (arena r At), .thing (rowT 3 1 (.slice (some ⟨g0, 0, none⟩) 14 d0) 14 (intsV s100)), .thing (rowT 3 1 (.slice (some ⟨g1, 0, none⟩) 14 d1) 14 (intsV s200)), .thing (rowT 3 1 (.slice B0 K.length e0) K.length (intsV K)), .thing (rowT 3 1 (.slice B1 K.length e1) K.length (intsV K))]) fun O7 => ?_
 refine gL 1 (.row 3 1 g0 14 d0 [.int .i64 1, .int .i64 2, .int .i64 3, .int .i64 4, .int .i64 5, .int .i64 6, .int .i64 7, .int .i64 8, .int .i64 9, .int .i64 10, .int .i64 11, .int .i64 12, .int .i64 13, .int .i64 14]) O7 fun O8 => ?_
 refine gL 2 (.row 3 1 g1 14 d1 [.int .i64 15, .int .i64 16, .int .i64 17, .int .i64 18, .int .i64 19, .int .i64 20, .int .i64 21, .int .i64 22, .int .i64 23, .int .i64 24, .int .i64 25, .int .i64 26, .int .i64 27, .int .i64 28]) O8 fun O9 => ?_
 refine sg3 [.p 6, .n [], .n [], .n [], .p 1, .s 2 [], .s 1 [], .s 0 [], .p 6, .a (.r 8), .a (bT hname), .p 4, .a (.r 8), .p 1, .a (.r 0)] O9 fun b10 b11 b12 w13 O14 => ?_
 refine gS (args := #[.pointer (some ⟨r, 0, none⟩), .agg #[.string (strO p.name), .slice a0 p.pre0.length c0, .slice a1 p.pre1.length c1, .slice am p.msgs.length cm], .int .i64 0, .int .i64 0, .agg #[.int .i64 1, .int .i64 2, .int .i64 rs0, .int .i64 re0, .slice B0 K.length e0]]) (startN (.inl rfl) (psks := K) (B := B0) (dB := e0) (p := p) (A := At) O14 3 (by kernel_rfl) (kept_old fun _ hb => hp.below hb) hfit henv.str (kept_thing 6 _ (by kernel_rfl) (by decide) (rowI_holds (B := B0) (d := e0) (l := K))) hkl hW hs0) fun w15 O16 => ?_
 refine sg1 [.p 3, .n [], .s 0 [], .p 3, .a (.r 9), .p 1, .a (.r 1)] O16 fun b18 w19 O20 => ?_
 refine gS (args := #[.pointer (some ⟨r, 0, none⟩), .agg #[.string (strO p.name), .slice a0 p.pre0.length c0, .slice a1 p.pre1.length c1, .slice am p.msgs.length cm], .int .i64 1, .int .i64 0, .agg #[.int .i64 15, .int .i64 16, .int .i64 rs1, .int .i64 re1, .slice B1 K.length e1]]) (startN (.inr rfl) (psks := K) (B := B1) (dB := e1) (p := p) (A := At) O20 4 (by kernel_rfl) (kept_old fun _ hb => hp.below hb) hfit henv.str (kept_thing 8 _ (by kernel_rfl) (by decide) (rowI_holds (B := B1) (d := e1) (l := K))) hkl hW hs1) fun w21 O22 => ?_
 refine sg1 [.p 3, .n [], .s 0 [], .p 2, .a (bT (bne_t hW)), .p 5] O22 fun b24 w25 O26 => ?_
 refine gU (args := #[]) (awake12E O26 henv) fun w27 O28 => ?_
 refine sg0 [.p 1] O28 fun w30 O31 => ?_
 exact gret [] O31 (⟨rfl, O31.below⟩)
set_option warningAsError false in
set_option maxRecDepth 100000 in
set_option maxHeartbeats 8000000 in
theorem turns_all {w : World} {a0 a1 am uB : Option Addr} {c0 c1 cm ud : Nat} {p : Pat} {us K : List Int} {lim ams chg : Int} {At : Ar} {rs0 re0 rs1 re1 : Int} (henv : EnvB w) (hp : PatIn w (Old w) (pvx a0 c0 a1 c1 am cm p) p) (hfit : PatFits p) (hU : Holds w uB (u64V us)) (hus : ∀ u ∈ us, U64 u) {rf pt : Int} (hfew : fewP p = true) (hul : us.length ≤ 10) (ht : twoC us = ⟨At, rs0, re0, K, rs1, re1, K⟩) (hname : (((strO p.name) : ByteArray).toList == (⟨#[]⟩ : ByteArray).toList) = false) (hw : whyC p ⟨1, 2, rs0, re0, K⟩ = 0) :
    Calls Tryz.prog 6 #[.agg #[.string (strO p.name), .slice a0 p.pre0.length c0, .slice a1 p.pre1.length c1, .slice am p.msgs.length cm, .slice uB us.length ud, .int .i64 lim, .int .u8 ams, .int .u8 chg], .int .i64 rf, .int .i64 pt] w (fun e' w' => e' = .returned (.bool true) ∧ Below w.heap.size w w') := by
 have O0 := Own.start w
 replace O0 : Own w w (List.map Ent.t []) := O0
 obtain ⟨hright, hK, hKn, A1, S0, E0, R0, Q0, S1, E1, R1, Q1, ck, hh, cc, cb, cn, n1, n2, n3, n4, n5, n6, n7, n8, hs0, hs1, h29, hI⟩ := both_begin (fun u hu => (hus u hu).1) hul ht hw
 have hkl : K.length * 8 ≤ 140737488355328 := by omega
 obtain ⟨-, -, -, hm1, hm6, hwm⟩ := rightP_facts hright
 obtain ⟨m, hm⟩ : ∃ m, p.msgs[0]? = some m := ⟨_, List.getElem?_eq_getElem hm1⟩
 obtain ⟨mb, mq, D, d, hA, hD, hcell⟩ := msg_at hp.msgs hm
 have hpos : 0 < p.msgs.length := hm1
 obtain ⟨-, hmt, hmf⟩ := wrongM_facts (hwm m (List.mem_of_getElem? hm))
 have ht0 : toks p 0 = m.t := toks_at hm
 have hok := hI.facts (by decide)
 refine gent O0 Tryz.func6 ?_
 refine sg1 [.n [], .p 1, .a (.r 0)] O0 fun b1 w2 O3 => ?_
 refine gc (args := #[.agg #[.string (strO p.name), .slice a0 p.pre0.length c0, .slice a1 p.pre1.length c1, .slice am p.msgs.length cm, .slice uB us.length ud, .int .i64 lim, .int .u8 ams, .int .u8 chg]]) (arenasY O3 hp hfit hfew hul hU hus ht) ?_
 rintro e6 w4 ⟨r, g0, d0, g1, d1, B0, e0, B1, e1, nB, nm, nd_, rfl, O5⟩
 refine gr (O5.frontE [.thing (arena r At), .thing (rowT 3 1 (.slice (some ⟨g0, 0, none⟩) 14 d0) 14 (intsV s100)), .thing (rowT 3 1 (.slice (some ⟨g1, 0, none⟩) 14 d1) 14 (intsV s200)), .thing (rowT 3 1 (.slice B0 K.length e0) K.length (intsV K)), .thing (rowT 3 1 (.slice B1 K.length e1) K.length (intsV K))]) fun O7 => ?_
 refine gL 1 (.row 3 1 g0 14 d0 [.int .i64 1, .int .i64 2, .int .i64 3, .int .i64 4, .int .i64 5, .int .i64 6, .int .i64 7, .int .i64 8, .int .i64 9, .int .i64 10, .int .i64 11, .int .i64 12, .int .i64 13, .int .i64 14]) O7 fun O8 => ?_
 refine gL 2 (.row 3 1 g1 14 d1 [.int .i64 15, .int .i64 16, .int .i64 17, .int .i64 18, .int .i64 19, .int .i64 20, .int .i64 21, .int .i64 22, .int .i64 23, .int .i64 24, .int .i64 25, .int .i64 26, .int .i64 27, .int .i64 28]) O8 fun O9 => ?_
 refine sg3 [.p 6, .n [], .n [], .n [], .p 1, .s 2 [], .s 1 [], .s 0 [], .p 6, .a (.r 8), .a (bT hname), .p 4, .a (.r 8), .p 1, .a (.r 0)] O9 fun b10 b11 b12 w13 O14 => ?_
 refine gc (args := #[.pointer (some ⟨r, 0, none⟩), .agg #[.string (strO p.name), .slice a0 p.pre0.length c0, .slice a1 p.pre1.length c1, .slice am p.msgs.length cm], .int .i64 0, .int .i64 0, .agg #[.int .i64 1, .int .i64 2, .int .i64 rs0, .int .i64 re0, .slice B0 K.length e0]]) (startX (.inl rfl) (psks := K) (B := B0) (dB := e0) (p := p) (A := At) O14 3 (by kernel_rfl) (kept_old fun _ hb => hp.below hb) hfit henv.str (kept_thing 6 _ (by kernel_rfl) (by decide) (rowI_holds (B := B0) (d := e0) (l := K))) hkl n1 n2 n3 n4 hs0) ?_
 rintro e17 w15 ⟨a0h, c0h, a1h, c1h, amh, cmh, bkh, dkh, rfl, O16⟩
 refine gr O16.mconsS fun O16 => ?_
 refine sg1 [.p 3, .n [], .s 0 [], .p 3, .a (.r 10), .p 1, .a (.r 2)] O16 fun b18 w19 O20 => ?_
 refine gc (args := #[.pointer (some ⟨r, 0, none⟩), .agg #[.string (strO p.name), .slice a0 p.pre0.length c0, .slice a1 p.pre1.length c1, .slice am p.msgs.length cm], .int .i64 1, .int .i64 0, .agg #[.int .i64 15, .int .i64 16, .int .i64 rs1, .int .i64 re1, .slice B1 K.length e1]]) (startX (.inr rfl) (psks := K) (B := B1) (dB := e1) (p := p) (A := A1) O20 5 (by kernel_rfl) (kept_old fun _ hb => hp.below hb) hfit henv.str (kept_thing 9 _ (by kernel_rfl) (by decide) (rowI_holds (B := B1) (d := e1) (l := K))) hkl n5 n6 n7 n8 hs1) ?_
 rintro e23 w21 ⟨a0g, c0g, a1g, c1g, amg, cmg, bkg, dkg, rfl, O22⟩
 refine gr O22.mconsS fun O22 => ?_
 refine sg1 [.p 3, .n [], .s 0 [], .p 8] O22 fun b24 w25 O26 => ?_
 refine gj false 8 O26 (fun (zz : Nat × Nat) => match zz with | (j27, j28) => [(1, .int .i64 rf), (2, .int .i64 pt), (3, .pointer (some ⟨b1, 0, none⟩)), (6, .bool false), (7, .pointer (some ⟨r, 0, none⟩)), (9, .pointer (some ⟨b11, 0, none⟩)), (12, .pointer (some ⟨b18, 0, none⟩)), (14, .pointer (some ⟨b24, 0, none⟩)), (16, .pointer (some ⟨j27, 0, none⟩)), (17, .pointer (some ⟨j28, 0, none⟩))]) (fun (zz : Nat × Nat) => match zz with | (j27, j28) => [.blk j27 (.cells #[.int .i64 0, .int .i64 0, .int .i64 0, .string (strO p.name), .slice a0h p.pre0.length c0h, .slice a1h p.pre1.length c1h, .slice amh p.msgs.length cmh, .int .i64 S0, .int .i64 E0, .int .i64 R0, .int .i64 Q0, .slice bkh K.length dkh, .int .i64 ck, .int .i64 hh, .int .i64 cc, .bool cb, .int .u64 cn] 42), .blk j28 (.cells #[.int .i64 1, .int .i64 0, .int .i64 0, .string (strO p.name), .slice a0g p.pre0.length c0g, .slice a1g p.pre1.length c1g, .slice amg p.msgs.length cmg, .int .i64 S1, .int .i64 E1, .int .i64 R1, .int .i64 Q1, .slice bkg K.length dkg, .int .i64 ck, .int .i64 hh, .int .i64 cc, .bool cb, .int .u64 cn] 42), .blk b24 (.cells #[.int .i64 1, .int .i64 0, .int .i64 0, .string (strO p.name), .slice a0g p.pre0.length c0g, .slice a1g p.pre1.length c1g, .slice amg p.msgs.length cmg, .int .i64 S1, .int .i64 E1, .int .i64 R1, .int .i64 Q1, .slice bkg K.length dkg, .int .i64 ck, .int .i64 hh, .int .i64 cc, .bool cb, .int .u64 cn] 42), .thing (shkT (pvx a0g c0g a1g c1g amg cmg p) p (.slice bkg K.length dkg) K), .blk b18 (.cells #[.int .i64 0, .int .i64 0, .int .i64 0, .string (strO p.name), .slice a0h p.pre0.length c0h, .slice a1h p.pre1.length c1h, .slice amh p.msgs.length cmh, .int .i64 S0, .int .i64 E0, .int .i64 R0, .int .i64 Q0, .slice bkh K.length dkh, .int .i64 ck, .int .i64 hh, .int .i64 cc, .bool cb, .int .u64 cn] 42), .thing (shkT (pvx a0h c0h a1h c1h amh cmh p) p (.slice bkh K.length dkh) K), .blk b12 (.cells #[.int .i64 1, .int .i64 2, .int .i64 rs0, .int .i64 re0, .slice B0 K.length e0, .int .i64 15, .int .i64 16, .int .i64 rs1, .int .i64 re1, .slice B1 K.length e1] 56), .blk b11 (.cells #[.slice (some ⟨g0, 0, none⟩) 14 d0, .slice (some ⟨g1, 0, none⟩) 14 d1] 30), .blk b10 (.cells #[.int .i64 2000, .slice nB nm nd_] 55), .thing (arena r A1), .row 3 1 g0 14 d0 [.int .i64 1, .int .i64 2, .int .i64 3, .int .i64 4, .int .i64 5, .int .i64 6, .int .i64 7, .int .i64 8, .int .i64 9, .int .i64 10, .int .i64 11, .int .i64 12, .int .i64 13, .int .i64 14], .row 3 1 g1 14 d1 [.int .i64 15, .int .i64 16, .int .i64 17, .int .i64 18, .int .i64 19, .int .i64 20, .int .i64 21, .int .i64 22, .int .i64 23, .int .i64 24, .int .i64 25, .int .i64 26, .int .i64 27, .int .i64 28], .thing (rowT 3 1 (.slice B0 K.length e0) K.length (intsV K)), .thing (rowT 3 1 (.slice B1 K.length e1) K.length (intsV K)), .blk b1 (.cells #[.string (strO p.name), .slice a0 p.pre0.length c0, .slice a1 p.pre1.length c1, .slice am p.msgs.length cm, .slice uB us.length ud, .int .i64 lim, .int .u8 ams, .int .u8 chg] 52)]) (fun (zz : Nat × Nat) w => match zz with | (j27, j28) => True) ?_ ?_
 · intro _ hM29 O30
   refine sg0 [.d [0, 2], .q 0 (.r 1), .q 1 (.r 0)] O30 fun w31 O32 => ?_
   refine gA [2, 3] O32 ⟨?_, ?_, trivial⟩
   · intro O33
     refine sg2 [.n [1, 3], .o 3, .n [2, 4], .o 4, .s 1 [2, 4], .o 5, .s 0 [2, 4], .z] O33 fun b34 b35 w36 O37 => ?_
     exact gz _ fun a F => hM29 a _ (b34, b35) F (O37.sel [1, 0, 2, 3, 4, 5, 6, 7, 8, 9, 10, 11, 12, 13, 14]) trivial
   · intro O38
     refine sg2 [.n [1, 3], .o 2, .n [2, 4], .o 4, .s 0 [2, 4], .o 5, .s 1 [2, 4], .z] O38 fun b39 b40 w41 O42 => ?_
     exact gz _ fun a F => hM29 a _ (b40, b39) F (O42.sel [0, 1, 2, 3, 4, 5, 6, 7, 8, 9, 10, 11, 12, 13, 14]) trivial
 · rintro ⟨j27, j28⟩ w43 O44 _
   rcases (wrongM_facts (hwm m (List.mem_of_getElem? hm))).1 with hfr | hfr
   · have hsd0 : sendsP p 0 0 = true := by have h9 := sends_at hm 0; rw [hfr] at h9; exact h9
     have hsd1 : sendsP p 1 0 = false := by have h9 := sends_at hm 1; rw [hfr] at h9; exact h9
     have hwt : writeC A1 1 S1 K p ⟨0, 0, E1, R1, Q1, ⟨ck, hh, ⟨cc, cb, cn⟩⟩⟩ 3 9 = (A1, Hs.zero, [], 5) := writeC_turn hsd1
     have hrt : readC A1 0 S0 K p ⟨0, 0, E0, R0, Q0, ⟨ck, hh, ⟨cc, cb, cn⟩⟩⟩ [] = (A1, Hs.zero, 0, 5) := readC_turn hsd0
     have hct : ciphersC A1 0 0 p ⟨ck, hh, ⟨cc, cb, cn⟩⟩ = (A1, Ci.zero, Ci.zero, 5) := ciphersC_turn (by omega)
     have hwb0 : ∀ x, has A1.l x = false → writeC A1 0 S0 K p ⟨0, 0, E0, R0, Q0, ⟨ck, hh, ⟨cc, cb, cn⟩⟩⟩ 3 x = (A1, Hs.zero, [], 1) := fun x hx => writeC_arg hsd0 hx
     refine sg0 [.p 2, .a (.r 14), .a (.i _ mb mq p.msgs.length 0 hA hpos), .p 1] O44 fun w45 O46 => ?_
     refine gx [.cell mb (mq + 0 * 2) (.int .i64 0)] O46 ⟨((hcell _ O46.below).1.trans (by rw [hfr])), trivial⟩ fun O47 => ?_
     refine sg0 [.a (.r 0), .p 3] O47 fun w48 O49 => ?_
     refine gU (lenAE (r := r) O49 9 (by kernel_rfl) (A := A1)) fun w50 O51 => ?_
     refine sg0 [.p 1] O51 fun w53 O54 => ?_
     refine gj false 12 O54 (fun (j55 : Unit) => [(1, .int .i64 rf), (2, .int .i64 pt), (3, .pointer (some ⟨b1, 0, none⟩)), (6, .bool false), (7, .pointer (some ⟨r, 0, none⟩)), (9, .pointer (some ⟨b11, 0, none⟩)), (16, .pointer (some ⟨j27, 0, none⟩)), (17, .pointer (some ⟨j28, 0, none⟩)), (18, .int .i64 (A1.l.length : Int)), (20, .slice none 0 0), (21, .int .i64 5)]) (fun (j55 : Unit) => [.blk j27 (.cells #[.int .i64 0, .int .i64 0, .int .i64 0, .string (strO p.name), .slice a0h p.pre0.length c0h, .slice a1h p.pre1.length c1h, .slice amh p.msgs.length cmh, .int .i64 S0, .int .i64 E0, .int .i64 R0, .int .i64 Q0, .slice bkh K.length dkh, .int .i64 ck, .int .i64 hh, .int .i64 cc, .bool cb, .int .u64 cn] 42), .blk j28 (.cells #[.int .i64 1, .int .i64 0, .int .i64 0, .string (strO p.name), .slice a0g p.pre0.length c0g, .slice a1g p.pre1.length c1g, .slice amg p.msgs.length cmg, .int .i64 S1, .int .i64 E1, .int .i64 R1, .int .i64 Q1, .slice bkg K.length dkg, .int .i64 ck, .int .i64 hh, .int .i64 cc, .bool cb, .int .u64 cn] 42), .blk b24 (.cells #[.int .i64 1, .int .i64 0, .int .i64 0, .string (strO p.name), .slice a0g p.pre0.length c0g, .slice a1g p.pre1.length c1g, .slice amg p.msgs.length cmg, .int .i64 S1, .int .i64 E1, .int .i64 R1, .int .i64 Q1, .slice bkg K.length dkg, .int .i64 ck, .int .i64 hh, .int .i64 cc, .bool cb, .int .u64 cn] 42), .thing (shkT (pvx a0g c0g a1g c1g amg cmg p) p (.slice bkg K.length dkg) K), .blk b18 (.cells #[.int .i64 0, .int .i64 0, .int .i64 0, .string (strO p.name), .slice a0h p.pre0.length c0h, .slice a1h p.pre1.length c1h, .slice amh p.msgs.length cmh, .int .i64 S0, .int .i64 E0, .int .i64 R0, .int .i64 Q0, .slice bkh K.length dkh, .int .i64 ck, .int .i64 hh, .int .i64 cc, .bool cb, .int .u64 cn] 42), .thing (shkT (pvx a0h c0h a1h c1h amh cmh p) p (.slice bkh K.length dkh) K), .blk b12 (.cells #[.int .i64 1, .int .i64 2, .int .i64 rs0, .int .i64 re0, .slice B0 K.length e0, .int .i64 15, .int .i64 16, .int .i64 rs1, .int .i64 re1, .slice B1 K.length e1] 56), .blk b11 (.cells #[.slice (some ⟨g0, 0, none⟩) 14 d0, .slice (some ⟨g1, 0, none⟩) 14 d1] 30), .blk b10 (.cells #[.int .i64 2000, .slice nB nm nd_] 55), .thing (arena r A1), .row 3 1 g0 14 d0 [.int .i64 1, .int .i64 2, .int .i64 3, .int .i64 4, .int .i64 5, .int .i64 6, .int .i64 7, .int .i64 8, .int .i64 9, .int .i64 10, .int .i64 11, .int .i64 12, .int .i64 13, .int .i64 14], .row 3 1 g1 14 d1 [.int .i64 15, .int .i64 16, .int .i64 17, .int .i64 18, .int .i64 19, .int .i64 20, .int .i64 21, .int .i64 22, .int .i64 23, .int .i64 24, .int .i64 25, .int .i64 26, .int .i64 27, .int .i64 28], .thing (rowT 3 1 (.slice B0 K.length e0) K.length (intsV K)), .thing (rowT 3 1 (.slice B1 K.length e1) K.length (intsV K)), .blk b1 (.cells #[.string (strO p.name), .slice a0 p.pre0.length c0, .slice a1 p.pre1.length c1, .slice am p.msgs.length cm, .slice uB us.length ud, .int .i64 lim, .int .u8 ams, .int .u8 chg] 52)]) (fun (j55 : Unit) w => True) ?_ ?_
     · intro _ hM56 O57
       refine sg0 [.d [1, 7, 10], .q 0 (.r 0), .qs [1, 2], .q 3 (.r 1), .qs [4], .q 5 (.r 2), .qs [6], .q 7 (.r 1), .qs [8], .q 9 (.r 2)] O57 fun w58 O59 => ?_
       refine gA [10, 15] O59 ⟨?_, ?_, trivial⟩
       · intro O60
         refine gS (js := [1, 7, 10]) (writeNo (r := r) O60 9 (by kernel_rfl) 3 (by kernel_rfl) (hasShk_shk (pvx a0g c0g a1g c1g amg cmg p) p bkg dkg K) hfit (by decide) hright (.inr rfl) (hI.p7 hm) hkl (hI.u64 (by decide)) (by decide) hwt) fun w61 O62 => ?_
         refine sg1 [.qs [11, 12, 13, 14], .o 15, .n [2, 8, 11], .o 16, .s 0 [2, 8, 11], .qs [17, 18], .z] O62 fun b64 w65 O66 => ?_
         exact gz _ fun a F => hM56 a _ () F (O66.sel [1, 2, 3, 4, 5, 6, 7, 8, 9, 10, 11, 12, 13, 14, 15]) trivial
       · intro O67
         refine sg1 [.n [2, 8, 11], .o 10] O67 fun b68 w69 O70 => ?_
         refine gS (js := [2, 8, 11]) (writeNo (r := r) O70 10 (by kernel_rfl) 4 (by kernel_rfl) (hasShk_shk (pvx a0g c0g a1g c1g amg cmg p) p bkg dkg K) hfit (by decide) hright (.inr rfl) (hI.p7 hm) hkl (hI.u64 (by decide)) (by decide) hwt) fun w71 O72 => ?_
         refine sg0 [.qs [11, 12, 13, 14], .o 16, .s 0 [2, 8, 11], .qs [17, 18], .z] O72 fun w74 O75 => ?_
         exact gz _ fun a F => hM56 a _ () F (O75.sel [1, 2, 3, 4, 5, 6, 7, 8, 9, 10, 11, 12, 13, 14, 15]) trivial
     · rintro j55 w76 O77 _
       refine sg0 [.a (.r 0), .p 1] O77 fun w78 O79 => ?_
       refine gS (readBad (readOk (msg := []) (mB := none) (md := 0) (r := r) O79 9 (by kernel_rfl) 5 (by kernel_rfl) (hasShk_shk (pvx a0h c0h a1h c1h amh cmh p) p bkh dkh K) hfit (by decide) hright (.inl rfl) (Int.le_refl _) (hI.p7 hm) hkl (hI.u64 (by decide)) (by decide) (kept2_old fun _ _ => .inl rfl) hrt) (by decide)) fun w80 O81 => ?_
       refine sg1 [.p 4, .n [], .s 0 [], .p 2, .a (.r 1), .p 1] O81 fun b83 w84 O85 => ?_
       refine gS (args := #[.agg #[.int .i64 0, .int .i64 0, .int .i64 0, .string (strO p.name), .slice a0h p.pre0.length c0h, .slice a1h p.pre1.length c1h, .slice amh p.msgs.length cmh, .int .i64 S0, .int .i64 E0, .int .i64 R0, .int .i64 Q0, .slice bkh K.length dkh, .int .i64 ck, .int .i64 hh, .int .i64 cc, .bool cb, .int .u64 cn], .pointer (some ⟨r, 0, none⟩)]) (ciphersE (r := r) (psks := K) O85 10 (by kernel_rfl) hct) fun w86 O87 => ?_
       refine sg2 [.p 4, .n [], .n [], .s 1 [], .s 0 [], .p 18] O87 fun b89 b90 w91 O92 => ?_
       refine gU (lenAE (r := r) O92 12 (by kernel_rfl) (A := A1)) fun w93 O94 => ?_
       refine sg0 [.p 1, .a (bT (bne_self_eq_false ((A1.l.length : Int) : Int))), .p 4] O94 fun w96 O97 => ?_
       rcases Bool.eq_false_or_eq_true (decide (rf < 0)) with h98 | h98
       · have h98p : (rf < 0) := by simpa only [decide_eq_true_eq, decide_eq_false_iff_not] using h98
         refine sg0 [.a (bT h98), .p 8] O97 fun w99 O100 => ?_
         refine gc (args := #[.pointer (some ⟨r, 0, none⟩)]) (copyE (r := r) O100 12 (by kernel_rfl) (A := A1)) ?_
         rintro e103 w101 ⟨r2, rfl, O102⟩
         refine gr O102.mcons fun O102 => ?_
         have hwb := hwb0 rf (Bool.eq_false_iff.2 fun hx => by have := has_iff.1 hx; omega)
         refine sg0 [.p 4] O102 fun w104 O105 => ?_
         refine gj false 23 O105 (fun (j106 : Unit) => [(2, .int .i64 pt), (3, .pointer (some ⟨b1, 0, none⟩)), (6, .bool false), (17, .pointer (some ⟨j28, 0, none⟩)), (28, .int .i64 1), (29, .pointer (some ⟨r2, 0, none⟩)), (32, .int .i64 1)]) (fun (j106 : Unit) => [.thing (arena r2 A1), .blk b90 (.cells #[.int .i64 0, .bool false, .int .u64 0] 24), .blk b89 (.cells #[.int .i64 0, .bool false, .int .u64 0] 24), .blk b83 (.cells #[.int .i64 0, .int .i64 0, .int .i64 0, .string ⟨#[]⟩, .slice none 0 0, .slice none 0 0, .slice none 0 0, .int .i64 0, .int .i64 0, .int .i64 0, .int .i64 0, .slice none 0 0, .int .i64 0, .int .i64 0, .int .i64 0, .bool false, .int .u64 0] 42), .blk j27 (.cells #[.int .i64 0, .int .i64 0, .int .i64 0, .string (strO p.name), .slice a0h p.pre0.length c0h, .slice a1h p.pre1.length c1h, .slice amh p.msgs.length cmh, .int .i64 S0, .int .i64 E0, .int .i64 R0, .int .i64 Q0, .slice bkh K.length dkh, .int .i64 ck, .int .i64 hh, .int .i64 cc, .bool cb, .int .u64 cn] 42), .blk j28 (.cells #[.int .i64 1, .int .i64 0, .int .i64 0, .string (strO p.name), .slice a0g p.pre0.length c0g, .slice a1g p.pre1.length c1g, .slice amg p.msgs.length cmg, .int .i64 S1, .int .i64 E1, .int .i64 R1, .int .i64 Q1, .slice bkg K.length dkg, .int .i64 ck, .int .i64 hh, .int .i64 cc, .bool cb, .int .u64 cn] 42), .blk b24 (.cells #[.int .i64 1, .int .i64 0, .int .i64 0, .string (strO p.name), .slice a0g p.pre0.length c0g, .slice a1g p.pre1.length c1g, .slice amg p.msgs.length cmg, .int .i64 S1, .int .i64 E1, .int .i64 R1, .int .i64 Q1, .slice bkg K.length dkg, .int .i64 ck, .int .i64 hh, .int .i64 cc, .bool cb, .int .u64 cn] 42), .thing (shkT (pvx a0g c0g a1g c1g amg cmg p) p (.slice bkg K.length dkg) K), .blk b18 (.cells #[.int .i64 0, .int .i64 0, .int .i64 0, .string (strO p.name), .slice a0h p.pre0.length c0h, .slice a1h p.pre1.length c1h, .slice amh p.msgs.length cmh, .int .i64 S0, .int .i64 E0, .int .i64 R0, .int .i64 Q0, .slice bkh K.length dkh, .int .i64 ck, .int .i64 hh, .int .i64 cc, .bool cb, .int .u64 cn] 42), .thing (shkT (pvx a0h c0h a1h c1h amh cmh p) p (.slice bkh K.length dkh) K), .blk b12 (.cells #[.int .i64 1, .int .i64 2, .int .i64 rs0, .int .i64 re0, .slice B0 K.length e0, .int .i64 15, .int .i64 16, .int .i64 rs1, .int .i64 re1, .slice B1 K.length e1] 56), .blk b11 (.cells #[.slice (some ⟨g0, 0, none⟩) 14 d0, .slice (some ⟨g1, 0, none⟩) 14 d1] 30), .blk b10 (.cells #[.int .i64 2000, .slice nB nm nd_] 55), .thing (arena r A1), .row 3 1 g0 14 d0 [.int .i64 1, .int .i64 2, .int .i64 3, .int .i64 4, .int .i64 5, .int .i64 6, .int .i64 7, .int .i64 8, .int .i64 9, .int .i64 10, .int .i64 11, .int .i64 12, .int .i64 13, .int .i64 14], .row 3 1 g1 14 d1 [.int .i64 15, .int .i64 16, .int .i64 17, .int .i64 18, .int .i64 19, .int .i64 20, .int .i64 21, .int .i64 22, .int .i64 23, .int .i64 24, .int .i64 25, .int .i64 26, .int .i64 27, .int .i64 28], .thing (rowT 3 1 (.slice B0 K.length e0) K.length (intsV K)), .thing (rowT 3 1 (.slice B1 K.length e1) K.length (intsV K)), .blk b1 (.cells #[.string (strO p.name), .slice a0 p.pre0.length c0, .slice a1 p.pre1.length c1, .slice am p.msgs.length cm, .slice uB us.length ud, .int .i64 lim, .int .u8 ams, .int .u8 chg] 52)]) (fun (j106 : Unit) w => True) ?_ ?_
         · intro _ hM107 O108
           refine sg0 [.d [4, 11, 14], .q 0 (.r 0), .qs [1, 2], .q 3 (.r 1), .qs [4], .q 5 (.r 2), .qs [6]] O108 fun w109 O110 => ?_
           refine gA [7, 12] O110 ⟨?_, ?_, trivial⟩
           · intro O111
             refine gS (js := [4, 11, 14]) (writeNo (r := r2) O111 0 (by kernel_rfl) 9 (by kernel_rfl) (hasShk_shk (pvx a0h c0h a1h c1h amh cmh p) p bkh dkh K) hfit (by decide) hright (.inl rfl) (hI.p7 hm) hkl (hI.u64 (by decide)) (by decide) hwb) fun w112 O113 => ?_
             refine sg1 [.qs [8, 9, 10, 11], .o 12, .n [5, 12, 15], .o 13, .s 0 [5, 12, 15], .qs [14, 15], .z] O113 fun b115 w116 O117 => ?_
             exact gz _ fun a F => hM107 a _ () F (O117.sel [1, 2, 3, 4, 5, 6, 7, 8, 9, 10, 11, 12, 13, 14, 15, 16, 17, 18, 19]) trivial
           · intro O118
             refine sg1 [.n [5, 12, 15], .o 7] O118 fun b119 w120 O121 => ?_
             refine gS (js := [5, 12, 15]) (writeNo (r := r2) O121 1 (by kernel_rfl) 10 (by kernel_rfl) (hasShk_shk (pvx a0h c0h a1h c1h amh cmh p) p bkh dkh K) hfit (by decide) hright (.inl rfl) (hI.p7 hm) hkl (hI.u64 (by decide)) (by decide) hwb) fun w122 O123 => ?_
             refine sg0 [.qs [8, 9, 10, 11], .o 13, .s 0 [5, 12, 15], .qs [14, 15], .z] O123 fun w125 O126 => ?_
             exact gz _ fun a F => hM107 a _ () F (O126.sel [1, 2, 3, 4, 5, 6, 7, 8, 9, 10, 11, 12, 13, 14, 15, 16, 17, 18, 19]) trivial
         · rintro j106 w127 O128 _
           refine sg0 [.p 4] O128 fun w129 O130 => ?_
           obtain ⟨mx, hmx⟩ : ∃ x : Int, (if (0 : Int) > pt then 0 else pt) = x := ⟨_, rfl⟩
           have hmx0 : 0 ≤ mx := by rw [← hmx]; split <;> omega
           obtain ⟨mm, hmm, hm20⟩ : ∃ n : Nat, (if (20 : Int) < mx then 20 else mx) = (n : Int) ∧ n ≤ 20 := ⟨(if (20 : Int) < mx then 20 else mx).toNat, by split <;> omega, by split <;> omega⟩
           rcases Decidable.em ((mm : Int) = partsC m.t) with heq | hneq
           · have hlen4 : (((List.replicate mm (0 : Int)).length : Int) = partsR m.t) := by rw [List.length_replicate, partsR_eq _ hmf]; exact heq
             refine sg0 [.p 1, .a (.v (.int .i64 (if (0 : Int) > pt then 0 else pt)) (.int .i64 mx) (congrArg (Value.int .i64) hmx)), .a (.v (.int .i64 (if (20 : Int) < mx then 20 else mx)) (.int .i64 (mm : Int)) (congrArg (Value.int .i64) hmm))] O130 fun w131 O132 => ?_
             refine gMake (.tmp 170) (.tmp 170) 29 O132 3 mm (by omega) fun b133 w134 O135 => ?_
             refine sg0 [.p 1, .a (.r 6), .p 2] O135 fun w136 O137 => ?_
             obtain ⟨A4, h4, x4, no4, hr4⟩ : ∃ A' h' y no, readC A1 1 S1 K p ⟨0, 0, E1, R1, Q1, ⟨ck, hh, ⟨cc, cb, cn⟩⟩⟩ (List.replicate mm 0) = (A', h', y, no) := ⟨_, _, _, _, rfl⟩
             rcases Decidable.em (no4 = 0) with h138 | h138
             · subst h138
               refine gS (readOk (msg := (List.replicate mm (0 : Int))) (mB := (some ⟨b133, 0, none⟩)) (md := mm) (r := r2) O137 1 (by kernel_rfl) 8 (by kernel_rfl) (hasShk_shk (pvx a0g c0g a1g c1g amg cmg p) p bkg dkg K) hfit (by decide) hright (.inr rfl) (Int.le_refl _) (hI.p7 hm) hkl (hI.u64 (by decide)) (by simp; omega) (kept2_thing 0 (by kernel_rfl) (by decide) (by decide) (rowI_holds (B := (some ⟨b133, 0, none⟩)) (d := mm) (l := (List.replicate mm (0 : Int))))) hr4) fun w139 O140 => ?_
               refine sg1 [.p 4, .n [], .s 0 [], .p 5, .a (.r 20)] O140 fun b142 w143 O144 => ?_
               refine gi (args := #[.agg #[.string (strO p.name), .slice a0 p.pre0.length c0, .slice a1 p.pre1.length c1, .slice am p.msgs.length cm]]) Tryz.func28 O144 fun O144i => ?_
               refine sg1 [.n [], .p 2, .a (.r 0), .a (.i _ mb mq p.msgs.length 0 hA hpos), .p 1] O144i fun b145 w146 O147 => ?_
               refine gx [.cell mb (mq + 0 * 2 + 1) (.slice D m.t.length d)] O147 ⟨(hcell _ O147.below).2, trivial⟩ fun O148 => ?_
               refine sg0 [.a (.r 0)] O148 fun w149 O150 => ?_
               refine gi (args := #[.slice D m.t.length d]) Tryz.func44 O150 fun O150i => ?_
               refine sg0 [.p 2] O150i fun w151 O152 => ?_
               refine gB O152 (refPartsE (c := d) (hD.below O152.below) (by omega)) fun w153 O154 => ?_
               refine sg0 [.p 1] O154 fun w156 O157 => ?_
               refine gir [] O157 fun O158 => ?_
               refine sg0 [.p 1] O158 fun w159 O160 => ?_
               refine gir [] O160 fun O161 => ?_
               refine sg0 [.a (bT (bne_f hlen4)), .p 5] O161 fun w162 O163 => ?_
               refine gU (args := #[]) (awake12E O163 henv) fun w164 O165 => ?_
               refine sg0 [.p 1] O165 fun w167 O168 => ?_
               exact gret [] O168 (⟨rfl, O168.below⟩)
             · refine gS (readBad (readOk (msg := (List.replicate mm (0 : Int))) (mB := (some ⟨b133, 0, none⟩)) (md := mm) (r := r2) O137 1 (by kernel_rfl) 8 (by kernel_rfl) (hasShk_shk (pvx a0g c0g a1g c1g amg cmg p) p bkg dkg K) hfit (by decide) hright (.inr rfl) (Int.le_refl _) (hI.p7 hm) hkl (hI.u64 (by decide)) (by simp; omega) (kept2_thing 0 (by kernel_rfl) (by decide) (by decide) (rowI_holds (B := (some ⟨b133, 0, none⟩)) (d := mm) (l := (List.replicate mm (0 : Int))))) hr4) h138) fun w169 O170 => ?_
               refine sg1 [.p 4, .n [], .s 0 [], .p 5, .a (.r 20)] O170 fun b172 w173 O174 => ?_
               refine gi (args := #[.agg #[.string (strO p.name), .slice a0 p.pre0.length c0, .slice a1 p.pre1.length c1, .slice am p.msgs.length cm]]) Tryz.func28 O174 fun O174i => ?_
               refine sg1 [.n [], .p 2, .a (.r 0), .a (.i _ mb mq p.msgs.length 0 hA hpos), .p 1] O174i fun b175 w176 O177 => ?_
               refine gx [.cell mb (mq + 0 * 2 + 1) (.slice D m.t.length d)] O177 ⟨(hcell _ O177.below).2, trivial⟩ fun O178 => ?_
               refine sg0 [.a (.r 0)] O178 fun w179 O180 => ?_
               refine gi (args := #[.slice D m.t.length d]) Tryz.func44 O180 fun O180i => ?_
               refine sg0 [.p 2] O180i fun w181 O182 => ?_
               refine gB O182 (refPartsE (c := d) (hD.below O182.below) (by omega)) fun w183 O184 => ?_
               refine sg0 [.p 1] O184 fun w186 O187 => ?_
               refine gir [] O187 fun O188 => ?_
               refine sg0 [.p 1] O188 fun w189 O190 => ?_
               refine gir [] O190 fun O191 => ?_
               refine sg0 [.a (bT (bne_f hlen4)), .p 5] O191 fun w192 O193 => ?_
               refine gU (args := #[]) (awake12E O193 henv) fun w194 O195 => ?_
               refine sg0 [.p 1] O195 fun w197 O198 => ?_
               exact gret [] O198 (⟨rfl, O198.below⟩)
           · have hlen4 : ¬ (((List.replicate mm (0 : Int)).length : Int) = partsR m.t) := by rw [List.length_replicate, partsR_eq _ hmf]; exact hneq
             refine sg0 [.p 1, .a (.v (.int .i64 (if (0 : Int) > pt then 0 else pt)) (.int .i64 mx) (congrArg (Value.int .i64) hmx)), .a (.v (.int .i64 (if (20 : Int) < mx then 20 else mx)) (.int .i64 (mm : Int)) (congrArg (Value.int .i64) hmm))] O130 fun w199 O200 => ?_
             refine gMake (.tmp 170) (.tmp 170) 29 O200 3 mm (by omega) fun b201 w202 O203 => ?_
             refine sg0 [.p 1, .a (.r 6), .p 2] O203 fun w204 O205 => ?_
             obtain ⟨A4, h4, x4, no4, hr4⟩ : ∃ A' h' y no, readC A1 1 S1 K p ⟨0, 0, E1, R1, Q1, ⟨ck, hh, ⟨cc, cb, cn⟩⟩⟩ (List.replicate mm 0) = (A', h', y, no) := ⟨_, _, _, _, rfl⟩
             obtain rfl : no4 = 7 := readC_parts (has_first hok.1) (by show ¬ (p.msgs.length : Int) ≤ 0; omega) hsd1 hr4 (by show (mm : Int) ≠ partsC (toks p 0); rw [ht0]; exact hneq)
             refine gS (readBad (readOk (msg := (List.replicate mm (0 : Int))) (mB := (some ⟨b201, 0, none⟩)) (md := mm) (r := r2) O205 1 (by kernel_rfl) 8 (by kernel_rfl) (hasShk_shk (pvx a0g c0g a1g c1g amg cmg p) p bkg dkg K) hfit (by decide) hright (.inr rfl) (Int.le_refl _) (hI.p7 hm) hkl (hI.u64 (by decide)) (by simp; omega) (kept2_thing 0 (by kernel_rfl) (by decide) (by decide) (rowI_holds (B := (some ⟨b201, 0, none⟩)) (d := mm) (l := (List.replicate mm (0 : Int))))) hr4) (by decide)) fun w206 O207 => ?_
             refine sg1 [.p 4, .n [], .s 0 [], .p 5, .a (.r 20)] O207 fun b209 w210 O211 => ?_
             refine gi (args := #[.agg #[.string (strO p.name), .slice a0 p.pre0.length c0, .slice a1 p.pre1.length c1, .slice am p.msgs.length cm]]) Tryz.func28 O211 fun O211i => ?_
             refine sg1 [.n [], .p 2, .a (.r 0), .a (.i _ mb mq p.msgs.length 0 hA hpos), .p 1] O211i fun b212 w213 O214 => ?_
             refine gx [.cell mb (mq + 0 * 2 + 1) (.slice D m.t.length d)] O214 ⟨(hcell _ O214.below).2, trivial⟩ fun O215 => ?_
             refine sg0 [.a (.r 0)] O215 fun w216 O217 => ?_
             refine gi (args := #[.slice D m.t.length d]) Tryz.func44 O217 fun O217i => ?_
             refine sg0 [.p 2] O217i fun w218 O219 => ?_
             refine gB O219 (refPartsE (c := d) (hD.below O219.below) (by omega)) fun w220 O221 => ?_
             refine sg0 [.p 1] O221 fun w223 O224 => ?_
             refine gir [] O224 fun O225 => ?_
             refine sg0 [.p 1] O225 fun w226 O227 => ?_
             refine gir [] O227 fun O228 => ?_
             refine sg0 [.a (bT (bne_t hlen4)), .p 5] O228 fun w229 O230 => ?_
             refine gU (args := #[]) (awake12E O230 henv) fun w231 O232 => ?_
             refine sg0 [.p 1] O232 fun w234 O235 => ?_
             exact gret [] O235 (⟨rfl, O235.below⟩)
       · have h98p : ¬ (rf < 0) := by simpa only [decide_eq_true_eq, decide_eq_false_iff_not] using h98
         refine sg0 [.a (bT h98), .p 3] O97 fun w236 O237 => ?_
         rcases Bool.eq_false_or_eq_true (decide (rf ≥ (A1.l.length : Int))) with h238 | h238
         · have h238p : ((A1.l.length : Int) ≤ rf) := by simpa only [decide_eq_true_eq, decide_eq_false_iff_not] using h238
           refine sg0 [.a (bT h238), .p 4] O237 fun w239 O240 => ?_
           refine gc (args := #[.pointer (some ⟨r, 0, none⟩)]) (copyE (r := r) O240 12 (by kernel_rfl) (A := A1)) ?_
           rintro e243 w241 ⟨r2, rfl, O242⟩
           refine gr O242.mcons fun O242 => ?_
           have hwb := hwb0 rf (Bool.eq_false_iff.2 fun hx => by have := has_iff.1 hx; omega)
           refine sg0 [.p 4] O242 fun w244 O245 => ?_
           refine gj false 23 O245 (fun (j246 : Unit) => [(2, .int .i64 pt), (3, .pointer (some ⟨b1, 0, none⟩)), (6, .bool false), (17, .pointer (some ⟨j28, 0, none⟩)), (28, .int .i64 1), (29, .pointer (some ⟨r2, 0, none⟩)), (32, .int .i64 1)]) (fun (j246 : Unit) => [.thing (arena r2 A1), .blk b90 (.cells #[.int .i64 0, .bool false, .int .u64 0] 24), .blk b89 (.cells #[.int .i64 0, .bool false, .int .u64 0] 24), .blk b83 (.cells #[.int .i64 0, .int .i64 0, .int .i64 0, .string ⟨#[]⟩, .slice none 0 0, .slice none 0 0, .slice none 0 0, .int .i64 0, .int .i64 0, .int .i64 0, .int .i64 0, .slice none 0 0, .int .i64 0, .int .i64 0, .int .i64 0, .bool false, .int .u64 0] 42), .blk j27 (.cells #[.int .i64 0, .int .i64 0, .int .i64 0, .string (strO p.name), .slice a0h p.pre0.length c0h, .slice a1h p.pre1.length c1h, .slice amh p.msgs.length cmh, .int .i64 S0, .int .i64 E0, .int .i64 R0, .int .i64 Q0, .slice bkh K.length dkh, .int .i64 ck, .int .i64 hh, .int .i64 cc, .bool cb, .int .u64 cn] 42), .blk j28 (.cells #[.int .i64 1, .int .i64 0, .int .i64 0, .string (strO p.name), .slice a0g p.pre0.length c0g, .slice a1g p.pre1.length c1g, .slice amg p.msgs.length cmg, .int .i64 S1, .int .i64 E1, .int .i64 R1, .int .i64 Q1, .slice bkg K.length dkg, .int .i64 ck, .int .i64 hh, .int .i64 cc, .bool cb, .int .u64 cn] 42), .blk b24 (.cells #[.int .i64 1, .int .i64 0, .int .i64 0, .string (strO p.name), .slice a0g p.pre0.length c0g, .slice a1g p.pre1.length c1g, .slice amg p.msgs.length cmg, .int .i64 S1, .int .i64 E1, .int .i64 R1, .int .i64 Q1, .slice bkg K.length dkg, .int .i64 ck, .int .i64 hh, .int .i64 cc, .bool cb, .int .u64 cn] 42), .thing (shkT (pvx a0g c0g a1g c1g amg cmg p) p (.slice bkg K.length dkg) K), .blk b18 (.cells #[.int .i64 0, .int .i64 0, .int .i64 0, .string (strO p.name), .slice a0h p.pre0.length c0h, .slice a1h p.pre1.length c1h, .slice amh p.msgs.length cmh, .int .i64 S0, .int .i64 E0, .int .i64 R0, .int .i64 Q0, .slice bkh K.length dkh, .int .i64 ck, .int .i64 hh, .int .i64 cc, .bool cb, .int .u64 cn] 42), .thing (shkT (pvx a0h c0h a1h c1h amh cmh p) p (.slice bkh K.length dkh) K), .blk b12 (.cells #[.int .i64 1, .int .i64 2, .int .i64 rs0, .int .i64 re0, .slice B0 K.length e0, .int .i64 15, .int .i64 16, .int .i64 rs1, .int .i64 re1, .slice B1 K.length e1] 56), .blk b11 (.cells #[.slice (some ⟨g0, 0, none⟩) 14 d0, .slice (some ⟨g1, 0, none⟩) 14 d1] 30), .blk b10 (.cells #[.int .i64 2000, .slice nB nm nd_] 55), .thing (arena r A1), .row 3 1 g0 14 d0 [.int .i64 1, .int .i64 2, .int .i64 3, .int .i64 4, .int .i64 5, .int .i64 6, .int .i64 7, .int .i64 8, .int .i64 9, .int .i64 10, .int .i64 11, .int .i64 12, .int .i64 13, .int .i64 14], .row 3 1 g1 14 d1 [.int .i64 15, .int .i64 16, .int .i64 17, .int .i64 18, .int .i64 19, .int .i64 20, .int .i64 21, .int .i64 22, .int .i64 23, .int .i64 24, .int .i64 25, .int .i64 26, .int .i64 27, .int .i64 28], .thing (rowT 3 1 (.slice B0 K.length e0) K.length (intsV K)), .thing (rowT 3 1 (.slice B1 K.length e1) K.length (intsV K)), .blk b1 (.cells #[.string (strO p.name), .slice a0 p.pre0.length c0, .slice a1 p.pre1.length c1, .slice am p.msgs.length cm, .slice uB us.length ud, .int .i64 lim, .int .u8 ams, .int .u8 chg] 52)]) (fun (j246 : Unit) w => True) ?_ ?_
           · intro _ hM247 O248
             refine sg0 [.d [4, 11, 14], .q 0 (.r 0), .qs [1, 2], .q 3 (.r 1), .qs [4], .q 5 (.r 2), .qs [6]] O248 fun w249 O250 => ?_
             refine gA [7, 12] O250 ⟨?_, ?_, trivial⟩
             · intro O251
               refine gS (js := [4, 11, 14]) (writeNo (r := r2) O251 0 (by kernel_rfl) 9 (by kernel_rfl) (hasShk_shk (pvx a0h c0h a1h c1h amh cmh p) p bkh dkh K) hfit (by decide) hright (.inl rfl) (hI.p7 hm) hkl (hI.u64 (by decide)) (by decide) hwb) fun w252 O253 => ?_
               refine sg1 [.qs [8, 9, 10, 11], .o 12, .n [5, 12, 15], .o 13, .s 0 [5, 12, 15], .qs [14, 15], .z] O253 fun b255 w256 O257 => ?_
               exact gz _ fun a F => hM247 a _ () F (O257.sel [1, 2, 3, 4, 5, 6, 7, 8, 9, 10, 11, 12, 13, 14, 15, 16, 17, 18, 19]) trivial
             · intro O258
               refine sg1 [.n [5, 12, 15], .o 7] O258 fun b259 w260 O261 => ?_
               refine gS (js := [5, 12, 15]) (writeNo (r := r2) O261 1 (by kernel_rfl) 10 (by kernel_rfl) (hasShk_shk (pvx a0h c0h a1h c1h amh cmh p) p bkh dkh K) hfit (by decide) hright (.inl rfl) (hI.p7 hm) hkl (hI.u64 (by decide)) (by decide) hwb) fun w262 O263 => ?_
               refine sg0 [.qs [8, 9, 10, 11], .o 13, .s 0 [5, 12, 15], .qs [14, 15], .z] O263 fun w265 O266 => ?_
               exact gz _ fun a F => hM247 a _ () F (O266.sel [1, 2, 3, 4, 5, 6, 7, 8, 9, 10, 11, 12, 13, 14, 15, 16, 17, 18, 19]) trivial
           · rintro j246 w267 O268 _
             refine sg0 [.p 4] O268 fun w269 O270 => ?_
             obtain ⟨mx, hmx⟩ : ∃ x : Int, (if (0 : Int) > pt then 0 else pt) = x := ⟨_, rfl⟩
             have hmx0 : 0 ≤ mx := by rw [← hmx]; split <;> omega
             obtain ⟨mm, hmm, hm20⟩ : ∃ n : Nat, (if (20 : Int) < mx then 20 else mx) = (n : Int) ∧ n ≤ 20 := ⟨(if (20 : Int) < mx then 20 else mx).toNat, by split <;> omega, by split <;> omega⟩
             rcases Decidable.em ((mm : Int) = partsC m.t) with heq | hneq
             · have hlen4 : (((List.replicate mm (0 : Int)).length : Int) = partsR m.t) := by rw [List.length_replicate, partsR_eq _ hmf]; exact heq
               refine sg0 [.p 1, .a (.v (.int .i64 (if (0 : Int) > pt then 0 else pt)) (.int .i64 mx) (congrArg (Value.int .i64) hmx)), .a (.v (.int .i64 (if (20 : Int) < mx then 20 else mx)) (.int .i64 (mm : Int)) (congrArg (Value.int .i64) hmm))] O270 fun w271 O272 => ?_
               refine gMake (.tmp 170) (.tmp 170) 29 O272 3 mm (by omega) fun b273 w274 O275 => ?_
               refine sg0 [.p 1, .a (.r 6), .p 2] O275 fun w276 O277 => ?_
               obtain ⟨A4, h4, x4, no4, hr4⟩ : ∃ A' h' y no, readC A1 1 S1 K p ⟨0, 0, E1, R1, Q1, ⟨ck, hh, ⟨cc, cb, cn⟩⟩⟩ (List.replicate mm 0) = (A', h', y, no) := ⟨_, _, _, _, rfl⟩
               rcases Decidable.em (no4 = 0) with h278 | h278
               · subst h278
                 refine gS (readOk (msg := (List.replicate mm (0 : Int))) (mB := (some ⟨b273, 0, none⟩)) (md := mm) (r := r2) O277 1 (by kernel_rfl) 8 (by kernel_rfl) (hasShk_shk (pvx a0g c0g a1g c1g amg cmg p) p bkg dkg K) hfit (by decide) hright (.inr rfl) (Int.le_refl _) (hI.p7 hm) hkl (hI.u64 (by decide)) (by simp; omega) (kept2_thing 0 (by kernel_rfl) (by decide) (by decide) (rowI_holds (B := (some ⟨b273, 0, none⟩)) (d := mm) (l := (List.replicate mm (0 : Int))))) hr4) fun w279 O280 => ?_
                 refine sg1 [.p 4, .n [], .s 0 [], .p 5, .a (.r 20)] O280 fun b282 w283 O284 => ?_
                 refine gi (args := #[.agg #[.string (strO p.name), .slice a0 p.pre0.length c0, .slice a1 p.pre1.length c1, .slice am p.msgs.length cm]]) Tryz.func28 O284 fun O284i => ?_
                 refine sg1 [.n [], .p 2, .a (.r 0), .a (.i _ mb mq p.msgs.length 0 hA hpos), .p 1] O284i fun b285 w286 O287 => ?_
                 refine gx [.cell mb (mq + 0 * 2 + 1) (.slice D m.t.length d)] O287 ⟨(hcell _ O287.below).2, trivial⟩ fun O288 => ?_
                 refine sg0 [.a (.r 0)] O288 fun w289 O290 => ?_
                 refine gi (args := #[.slice D m.t.length d]) Tryz.func44 O290 fun O290i => ?_
                 refine sg0 [.p 2] O290i fun w291 O292 => ?_
                 refine gB O292 (refPartsE (c := d) (hD.below O292.below) (by omega)) fun w293 O294 => ?_
                 refine sg0 [.p 1] O294 fun w296 O297 => ?_
                 refine gir [] O297 fun O298 => ?_
                 refine sg0 [.p 1] O298 fun w299 O300 => ?_
                 refine gir [] O300 fun O301 => ?_
                 refine sg0 [.a (bT (bne_f hlen4)), .p 5] O301 fun w302 O303 => ?_
                 refine gU (args := #[]) (awake12E O303 henv) fun w304 O305 => ?_
                 refine sg0 [.p 1] O305 fun w307 O308 => ?_
                 exact gret [] O308 (⟨rfl, O308.below⟩)
               · refine gS (readBad (readOk (msg := (List.replicate mm (0 : Int))) (mB := (some ⟨b273, 0, none⟩)) (md := mm) (r := r2) O277 1 (by kernel_rfl) 8 (by kernel_rfl) (hasShk_shk (pvx a0g c0g a1g c1g amg cmg p) p bkg dkg K) hfit (by decide) hright (.inr rfl) (Int.le_refl _) (hI.p7 hm) hkl (hI.u64 (by decide)) (by simp; omega) (kept2_thing 0 (by kernel_rfl) (by decide) (by decide) (rowI_holds (B := (some ⟨b273, 0, none⟩)) (d := mm) (l := (List.replicate mm (0 : Int))))) hr4) h278) fun w309 O310 => ?_
                 refine sg1 [.p 4, .n [], .s 0 [], .p 5, .a (.r 20)] O310 fun b312 w313 O314 => ?_
                 refine gi (args := #[.agg #[.string (strO p.name), .slice a0 p.pre0.length c0, .slice a1 p.pre1.length c1, .slice am p.msgs.length cm]]) Tryz.func28 O314 fun O314i => ?_
                 refine sg1 [.n [], .p 2, .a (.r 0), .a (.i _ mb mq p.msgs.length 0 hA hpos), .p 1] O314i fun b315 w316 O317 => ?_
                 refine gx [.cell mb (mq + 0 * 2 + 1) (.slice D m.t.length d)] O317 ⟨(hcell _ O317.below).2, trivial⟩ fun O318 => ?_
                 refine sg0 [.a (.r 0)] O318 fun w319 O320 => ?_
                 refine gi (args := #[.slice D m.t.length d]) Tryz.func44 O320 fun O320i => ?_
                 refine sg0 [.p 2] O320i fun w321 O322 => ?_
                 refine gB O322 (refPartsE (c := d) (hD.below O322.below) (by omega)) fun w323 O324 => ?_
                 refine sg0 [.p 1] O324 fun w326 O327 => ?_
                 refine gir [] O327 fun O328 => ?_
                 refine sg0 [.p 1] O328 fun w329 O330 => ?_
                 refine gir [] O330 fun O331 => ?_
                 refine sg0 [.a (bT (bne_f hlen4)), .p 5] O331 fun w332 O333 => ?_
                 refine gU (args := #[]) (awake12E O333 henv) fun w334 O335 => ?_
                 refine sg0 [.p 1] O335 fun w337 O338 => ?_
                 exact gret [] O338 (⟨rfl, O338.below⟩)
             · have hlen4 : ¬ (((List.replicate mm (0 : Int)).length : Int) = partsR m.t) := by rw [List.length_replicate, partsR_eq _ hmf]; exact hneq
               refine sg0 [.p 1, .a (.v (.int .i64 (if (0 : Int) > pt then 0 else pt)) (.int .i64 mx) (congrArg (Value.int .i64) hmx)), .a (.v (.int .i64 (if (20 : Int) < mx then 20 else mx)) (.int .i64 (mm : Int)) (congrArg (Value.int .i64) hmm))] O270 fun w339 O340 => ?_
               refine gMake (.tmp 170) (.tmp 170) 29 O340 3 mm (by omega) fun b341 w342 O343 => ?_
               refine sg0 [.p 1, .a (.r 6), .p 2] O343 fun w344 O345 => ?_
               obtain ⟨A4, h4, x4, no4, hr4⟩ : ∃ A' h' y no, readC A1 1 S1 K p ⟨0, 0, E1, R1, Q1, ⟨ck, hh, ⟨cc, cb, cn⟩⟩⟩ (List.replicate mm 0) = (A', h', y, no) := ⟨_, _, _, _, rfl⟩
               obtain rfl : no4 = 7 := readC_parts (has_first hok.1) (by show ¬ (p.msgs.length : Int) ≤ 0; omega) hsd1 hr4 (by show (mm : Int) ≠ partsC (toks p 0); rw [ht0]; exact hneq)
               refine gS (readBad (readOk (msg := (List.replicate mm (0 : Int))) (mB := (some ⟨b341, 0, none⟩)) (md := mm) (r := r2) O345 1 (by kernel_rfl) 8 (by kernel_rfl) (hasShk_shk (pvx a0g c0g a1g c1g amg cmg p) p bkg dkg K) hfit (by decide) hright (.inr rfl) (Int.le_refl _) (hI.p7 hm) hkl (hI.u64 (by decide)) (by simp; omega) (kept2_thing 0 (by kernel_rfl) (by decide) (by decide) (rowI_holds (B := (some ⟨b341, 0, none⟩)) (d := mm) (l := (List.replicate mm (0 : Int))))) hr4) (by decide)) fun w346 O347 => ?_
               refine sg1 [.p 4, .n [], .s 0 [], .p 5, .a (.r 20)] O347 fun b349 w350 O351 => ?_
               refine gi (args := #[.agg #[.string (strO p.name), .slice a0 p.pre0.length c0, .slice a1 p.pre1.length c1, .slice am p.msgs.length cm]]) Tryz.func28 O351 fun O351i => ?_
               refine sg1 [.n [], .p 2, .a (.r 0), .a (.i _ mb mq p.msgs.length 0 hA hpos), .p 1] O351i fun b352 w353 O354 => ?_
               refine gx [.cell mb (mq + 0 * 2 + 1) (.slice D m.t.length d)] O354 ⟨(hcell _ O354.below).2, trivial⟩ fun O355 => ?_
               refine sg0 [.a (.r 0)] O355 fun w356 O357 => ?_
               refine gi (args := #[.slice D m.t.length d]) Tryz.func44 O357 fun O357i => ?_
               refine sg0 [.p 2] O357i fun w358 O359 => ?_
               refine gB O359 (refPartsE (c := d) (hD.below O359.below) (by omega)) fun w360 O361 => ?_
               refine sg0 [.p 1] O361 fun w363 O364 => ?_
               refine gir [] O364 fun O365 => ?_
               refine sg0 [.p 1] O365 fun w366 O367 => ?_
               refine gir [] O367 fun O368 => ?_
               refine sg0 [.a (bT (bne_t hlen4)), .p 5] O368 fun w369 O370 => ?_
               refine gU (args := #[]) (awake12E O370 henv) fun w371 O372 => ?_
               refine sg0 [.p 1] O372 fun w374 O375 => ?_
               exact gret [] O375 (⟨rfl, O375.below⟩)
         · have h238p : ¬ ((A1.l.length : Int) ≤ rf) := by simpa only [decide_eq_true_eq, decide_eq_false_iff_not] using h238
           refine sg0 [.a (bT h238), .p 3] O237 fun w376 O377 => ?_
           refine gc (args := #[.pointer (some ⟨r, 0, none⟩)]) (copyE (r := r) O377 12 (by kernel_rfl) (A := A1)) ?_
           rintro e380 w378 ⟨r2, rfl, O379⟩
           refine gr O379.mcons fun O379 => ?_
           obtain ⟨A3, h3, msg3, hw3, ok3⟩ := (turns_write (pay := rf) hI hright hm h29 (has_iff.2 ⟨by omega, by omega⟩)).1 hfr
           refine sg0 [.p 4] O379 fun w381 O382 => ?_
           refine gj false 23 O382 (fun (j383 : Unit) => [(2, .int .i64 pt), (3, .pointer (some ⟨b1, 0, none⟩)), (6, .bool false), (17, .pointer (some ⟨j28, 0, none⟩)), (28, .int .i64 0), (29, .pointer (some ⟨r2, 0, none⟩)), (32, .int .i64 0)]) (fun (j383 : Unit) => [.thing (arena r2 A3), .blk b90 (.cells #[.int .i64 0, .bool false, .int .u64 0] 24), .blk b89 (.cells #[.int .i64 0, .bool false, .int .u64 0] 24), .blk b83 (.cells #[.int .i64 0, .int .i64 0, .int .i64 0, .string ⟨#[]⟩, .slice none 0 0, .slice none 0 0, .slice none 0 0, .int .i64 0, .int .i64 0, .int .i64 0, .int .i64 0, .slice none 0 0, .int .i64 0, .int .i64 0, .int .i64 0, .bool false, .int .u64 0] 42), .blk j27 (.cells #[.int .i64 0, .int .i64 0, .int .i64 0, .string (strO p.name), .slice a0h p.pre0.length c0h, .slice a1h p.pre1.length c1h, .slice amh p.msgs.length cmh, .int .i64 S0, .int .i64 E0, .int .i64 R0, .int .i64 Q0, .slice bkh K.length dkh, .int .i64 ck, .int .i64 hh, .int .i64 cc, .bool cb, .int .u64 cn] 42), .blk j28 (.cells #[.int .i64 1, .int .i64 0, .int .i64 0, .string (strO p.name), .slice a0g p.pre0.length c0g, .slice a1g p.pre1.length c1g, .slice amg p.msgs.length cmg, .int .i64 S1, .int .i64 E1, .int .i64 R1, .int .i64 Q1, .slice bkg K.length dkg, .int .i64 ck, .int .i64 hh, .int .i64 cc, .bool cb, .int .u64 cn] 42), .blk b24 (.cells #[.int .i64 1, .int .i64 0, .int .i64 0, .string (strO p.name), .slice a0g p.pre0.length c0g, .slice a1g p.pre1.length c1g, .slice amg p.msgs.length cmg, .int .i64 S1, .int .i64 E1, .int .i64 R1, .int .i64 Q1, .slice bkg K.length dkg, .int .i64 ck, .int .i64 hh, .int .i64 cc, .bool cb, .int .u64 cn] 42), .thing (shkT (pvx a0g c0g a1g c1g amg cmg p) p (.slice bkg K.length dkg) K), .blk b18 (.cells #[.int .i64 0, .int .i64 0, .int .i64 0, .string (strO p.name), .slice a0h p.pre0.length c0h, .slice a1h p.pre1.length c1h, .slice amh p.msgs.length cmh, .int .i64 S0, .int .i64 E0, .int .i64 R0, .int .i64 Q0, .slice bkh K.length dkh, .int .i64 ck, .int .i64 hh, .int .i64 cc, .bool cb, .int .u64 cn] 42), .thing (shkT (pvx a0h c0h a1h c1h amh cmh p) p (.slice bkh K.length dkh) K), .blk b12 (.cells #[.int .i64 1, .int .i64 2, .int .i64 rs0, .int .i64 re0, .slice B0 K.length e0, .int .i64 15, .int .i64 16, .int .i64 rs1, .int .i64 re1, .slice B1 K.length e1] 56), .blk b11 (.cells #[.slice (some ⟨g0, 0, none⟩) 14 d0, .slice (some ⟨g1, 0, none⟩) 14 d1] 30), .blk b10 (.cells #[.int .i64 2000, .slice nB nm nd_] 55), .thing (arena r A1), .row 3 1 g0 14 d0 [.int .i64 1, .int .i64 2, .int .i64 3, .int .i64 4, .int .i64 5, .int .i64 6, .int .i64 7, .int .i64 8, .int .i64 9, .int .i64 10, .int .i64 11, .int .i64 12, .int .i64 13, .int .i64 14], .row 3 1 g1 14 d1 [.int .i64 15, .int .i64 16, .int .i64 17, .int .i64 18, .int .i64 19, .int .i64 20, .int .i64 21, .int .i64 22, .int .i64 23, .int .i64 24, .int .i64 25, .int .i64 26, .int .i64 27, .int .i64 28], .thing (rowT 3 1 (.slice B0 K.length e0) K.length (intsV K)), .thing (rowT 3 1 (.slice B1 K.length e1) K.length (intsV K)), .blk b1 (.cells #[.string (strO p.name), .slice a0 p.pre0.length c0, .slice a1 p.pre1.length c1, .slice am p.msgs.length cm, .slice uB us.length ud, .int .i64 lim, .int .u8 ams, .int .u8 chg] 52)]) (fun (j383 : Unit) w => True) ?_ ?_
           · intro _ hM384 O385
             refine sg0 [.d [4, 11, 14], .q 0 (.r 0), .qs [1, 2], .q 3 (.r 1), .qs [4], .q 5 (.r 2), .qs [6]] O385 fun w386 O387 => ?_
             refine gA [7, 12] O387 ⟨?_, ?_, trivial⟩
             · intro O388
               refine gc (writeOk (r := r2) O388 0 (by kernel_rfl) 9 (by kernel_rfl) (hasShk_shk (pvx a0h c0h a1h c1h amh cmh p) p bkh dkh K) hfit (by decide) hright (.inl rfl) (hI.p7 hm) hkl (hI.u64 (by decide)) hw3) ?_
               rintro e393 w391 ⟨mB389, md390, rfl, O392⟩
               refine gr (js := [5, 12, 15]) O392.mconsS fun O392 => ?_
               refine sg1 [.qs [8, 9, 10, 11], .o 12, .n [6, 13, 16], .o 13, .s 0 [6, 13, 16], .qs [14, 15], .z] O392 fun b394 w395 O396 => ?_
               exact gz _ fun a F => hM384 a _ () F (O396.sel [2, 3, 4, 5, 6, 7, 8, 9, 10, 11, 12, 13, 14, 15, 16, 17, 18, 19, 20]) trivial
             · intro O397
               refine sg1 [.n [5, 12, 15], .o 7] O397 fun b398 w399 O400 => ?_
               refine gc (writeOk (r := r2) O400 1 (by kernel_rfl) 10 (by kernel_rfl) (hasShk_shk (pvx a0h c0h a1h c1h amh cmh p) p bkh dkh K) hfit (by decide) hright (.inl rfl) (hI.p7 hm) hkl (hI.u64 (by decide)) hw3) ?_
               rintro e405 w403 ⟨mB401, md402, rfl, O404⟩
               refine gr (js := [6, 13, 16]) O404.mconsS fun O404 => ?_
               refine sg0 [.qs [8, 9, 10, 11], .o 13, .s 1 [6, 13, 16], .qs [14, 15], .z] O404 fun w406 O407 => ?_
               exact gz _ fun a F => hM384 a _ () F (O407.sel [2, 3, 4, 5, 6, 7, 8, 9, 10, 11, 12, 13, 14, 15, 16, 17, 18, 19, 20]) trivial
           · rintro j383 w408 O409 _
             refine sg0 [.p 4] O409 fun w410 O411 => ?_
             obtain ⟨mx, hmx⟩ : ∃ x : Int, (if (0 : Int) > pt then 0 else pt) = x := ⟨_, rfl⟩
             have hmx0 : 0 ≤ mx := by rw [← hmx]; split <;> omega
             obtain ⟨mm, hmm, hm20⟩ : ∃ n : Nat, (if (20 : Int) < mx then 20 else mx) = (n : Int) ∧ n ≤ 20 := ⟨(if (20 : Int) < mx then 20 else mx).toNat, by split <;> omega, by split <;> omega⟩
             rcases Decidable.em ((mm : Int) = partsC m.t) with heq | hneq
             · have hlen4 : (((List.replicate mm (0 : Int)).length : Int) = partsR m.t) := by rw [List.length_replicate, partsR_eq _ hmf]; exact heq
               refine sg0 [.p 1, .a (.v (.int .i64 (if (0 : Int) > pt then 0 else pt)) (.int .i64 mx) (congrArg (Value.int .i64) hmx)), .a (.v (.int .i64 (if (20 : Int) < mx then 20 else mx)) (.int .i64 (mm : Int)) (congrArg (Value.int .i64) hmm))] O411 fun w412 O413 => ?_
               refine gMake (.tmp 170) (.tmp 170) 29 O413 3 mm (by omega) fun b414 w415 O416 => ?_
               refine sg0 [.p 1, .a (.r 6), .p 2] O416 fun w417 O418 => ?_
               obtain ⟨A4, h4, x4, no4, hr4⟩ : ∃ A' h' y no, readC A3 1 S1 K p ⟨0, 0, E1, R1, Q1, ⟨ck, hh, ⟨cc, cb, cn⟩⟩⟩ (List.replicate mm 0) = (A', h', y, no) := ⟨_, _, _, _, rfl⟩
               rcases Decidable.em (no4 = 0) with h419 | h419
               · subst h419
                 refine gS (readOk (msg := (List.replicate mm (0 : Int))) (mB := (some ⟨b414, 0, none⟩)) (md := mm) (r := r2) O418 1 (by kernel_rfl) 8 (by kernel_rfl) (hasShk_shk (pvx a0g c0g a1g c1g amg cmg p) p bkg dkg K) hfit (by decide) hright (.inr rfl) (Int.le_refl _) (hI.p7 hm) hkl (hI.u64 (by decide)) (by simp; omega) (kept2_thing 0 (by kernel_rfl) (by decide) (by decide) (rowI_holds (B := (some ⟨b414, 0, none⟩)) (d := mm) (l := (List.replicate mm (0 : Int))))) hr4) fun w420 O421 => ?_
                 refine sg1 [.p 4, .n [], .s 0 [], .p 5, .a (.r 20)] O421 fun b423 w424 O425 => ?_
                 refine gi (args := #[.agg #[.string (strO p.name), .slice a0 p.pre0.length c0, .slice a1 p.pre1.length c1, .slice am p.msgs.length cm]]) Tryz.func28 O425 fun O425i => ?_
                 refine sg1 [.n [], .p 2, .a (.r 0), .a (.i _ mb mq p.msgs.length 0 hA hpos), .p 1] O425i fun b426 w427 O428 => ?_
                 refine gx [.cell mb (mq + 0 * 2 + 1) (.slice D m.t.length d)] O428 ⟨(hcell _ O428.below).2, trivial⟩ fun O429 => ?_
                 refine sg0 [.a (.r 0)] O429 fun w430 O431 => ?_
                 refine gi (args := #[.slice D m.t.length d]) Tryz.func44 O431 fun O431i => ?_
                 refine sg0 [.p 2] O431i fun w432 O433 => ?_
                 refine gB O433 (refPartsE (c := d) (hD.below O433.below) (by omega)) fun w434 O435 => ?_
                 refine sg0 [.p 1] O435 fun w437 O438 => ?_
                 refine gir [] O438 fun O439 => ?_
                 refine sg0 [.p 1] O439 fun w440 O441 => ?_
                 refine gir [] O441 fun O442 => ?_
                 refine sg0 [.a (bT (bne_f hlen4)), .p 5] O442 fun w443 O444 => ?_
                 refine gU (args := #[]) (awake12E O444 henv) fun w445 O446 => ?_
                 refine sg0 [.p 1] O446 fun w448 O449 => ?_
                 exact gret [] O449 (⟨rfl, O449.below⟩)
               · refine gS (readBad (readOk (msg := (List.replicate mm (0 : Int))) (mB := (some ⟨b414, 0, none⟩)) (md := mm) (r := r2) O418 1 (by kernel_rfl) 8 (by kernel_rfl) (hasShk_shk (pvx a0g c0g a1g c1g amg cmg p) p bkg dkg K) hfit (by decide) hright (.inr rfl) (Int.le_refl _) (hI.p7 hm) hkl (hI.u64 (by decide)) (by simp; omega) (kept2_thing 0 (by kernel_rfl) (by decide) (by decide) (rowI_holds (B := (some ⟨b414, 0, none⟩)) (d := mm) (l := (List.replicate mm (0 : Int))))) hr4) h419) fun w450 O451 => ?_
                 refine sg1 [.p 4, .n [], .s 0 [], .p 5, .a (.r 20)] O451 fun b453 w454 O455 => ?_
                 refine gi (args := #[.agg #[.string (strO p.name), .slice a0 p.pre0.length c0, .slice a1 p.pre1.length c1, .slice am p.msgs.length cm]]) Tryz.func28 O455 fun O455i => ?_
                 refine sg1 [.n [], .p 2, .a (.r 0), .a (.i _ mb mq p.msgs.length 0 hA hpos), .p 1] O455i fun b456 w457 O458 => ?_
                 refine gx [.cell mb (mq + 0 * 2 + 1) (.slice D m.t.length d)] O458 ⟨(hcell _ O458.below).2, trivial⟩ fun O459 => ?_
                 refine sg0 [.a (.r 0)] O459 fun w460 O461 => ?_
                 refine gi (args := #[.slice D m.t.length d]) Tryz.func44 O461 fun O461i => ?_
                 refine sg0 [.p 2] O461i fun w462 O463 => ?_
                 refine gB O463 (refPartsE (c := d) (hD.below O463.below) (by omega)) fun w464 O465 => ?_
                 refine sg0 [.p 1] O465 fun w467 O468 => ?_
                 refine gir [] O468 fun O469 => ?_
                 refine sg0 [.p 1] O469 fun w470 O471 => ?_
                 refine gir [] O471 fun O472 => ?_
                 refine sg0 [.a (bT (bne_f hlen4)), .p 5] O472 fun w473 O474 => ?_
                 refine gU (args := #[]) (awake12E O474 henv) fun w475 O476 => ?_
                 refine sg0 [.p 1] O476 fun w478 O479 => ?_
                 exact gret [] O479 (⟨rfl, O479.below⟩)
             · have hlen4 : ¬ (((List.replicate mm (0 : Int)).length : Int) = partsR m.t) := by rw [List.length_replicate, partsR_eq _ hmf]; exact hneq
               refine sg0 [.p 1, .a (.v (.int .i64 (if (0 : Int) > pt then 0 else pt)) (.int .i64 mx) (congrArg (Value.int .i64) hmx)), .a (.v (.int .i64 (if (20 : Int) < mx then 20 else mx)) (.int .i64 (mm : Int)) (congrArg (Value.int .i64) hmm))] O411 fun w480 O481 => ?_
               refine gMake (.tmp 170) (.tmp 170) 29 O481 3 mm (by omega) fun b482 w483 O484 => ?_
               refine sg0 [.p 1, .a (.r 6), .p 2] O484 fun w485 O486 => ?_
               obtain ⟨A4, h4, x4, no4, hr4⟩ : ∃ A' h' y no, readC A3 1 S1 K p ⟨0, 0, E1, R1, Q1, ⟨ck, hh, ⟨cc, cb, cn⟩⟩⟩ (List.replicate mm 0) = (A', h', y, no) := ⟨_, _, _, _, rfl⟩
               obtain rfl : no4 = 7 := readC_parts (has_first ok3) (by show ¬ (p.msgs.length : Int) ≤ 0; omega) hsd1 hr4 (by show (mm : Int) ≠ partsC (toks p 0); rw [ht0]; exact hneq)
               refine gS (readBad (readOk (msg := (List.replicate mm (0 : Int))) (mB := (some ⟨b482, 0, none⟩)) (md := mm) (r := r2) O486 1 (by kernel_rfl) 8 (by kernel_rfl) (hasShk_shk (pvx a0g c0g a1g c1g amg cmg p) p bkg dkg K) hfit (by decide) hright (.inr rfl) (Int.le_refl _) (hI.p7 hm) hkl (hI.u64 (by decide)) (by simp; omega) (kept2_thing 0 (by kernel_rfl) (by decide) (by decide) (rowI_holds (B := (some ⟨b482, 0, none⟩)) (d := mm) (l := (List.replicate mm (0 : Int))))) hr4) (by decide)) fun w487 O488 => ?_
               refine sg1 [.p 4, .n [], .s 0 [], .p 5, .a (.r 20)] O488 fun b490 w491 O492 => ?_
               refine gi (args := #[.agg #[.string (strO p.name), .slice a0 p.pre0.length c0, .slice a1 p.pre1.length c1, .slice am p.msgs.length cm]]) Tryz.func28 O492 fun O492i => ?_
               refine sg1 [.n [], .p 2, .a (.r 0), .a (.i _ mb mq p.msgs.length 0 hA hpos), .p 1] O492i fun b493 w494 O495 => ?_
               refine gx [.cell mb (mq + 0 * 2 + 1) (.slice D m.t.length d)] O495 ⟨(hcell _ O495.below).2, trivial⟩ fun O496 => ?_
               refine sg0 [.a (.r 0)] O496 fun w497 O498 => ?_
               refine gi (args := #[.slice D m.t.length d]) Tryz.func44 O498 fun O498i => ?_
               refine sg0 [.p 2] O498i fun w499 O500 => ?_
               refine gB O500 (refPartsE (c := d) (hD.below O500.below) (by omega)) fun w501 O502 => ?_
               refine sg0 [.p 1] O502 fun w504 O505 => ?_
               refine gir [] O505 fun O506 => ?_
               refine sg0 [.p 1] O506 fun w507 O508 => ?_
               refine gir [] O508 fun O509 => ?_
               refine sg0 [.a (bT (bne_t hlen4)), .p 5] O509 fun w510 O511 => ?_
               refine gU (args := #[]) (awake12E O511 henv) fun w512 O513 => ?_
               refine sg0 [.p 1] O513 fun w515 O516 => ?_
               exact gret [] O516 (⟨rfl, O516.below⟩)
   · have hsd0 : sendsP p 0 0 = false := by have h9 := sends_at hm 0; rw [hfr] at h9; exact h9
     have hsd1 : sendsP p 1 0 = true := by have h9 := sends_at hm 1; rw [hfr] at h9; exact h9
     have hwt : writeC A1 0 S0 K p ⟨0, 0, E0, R0, Q0, ⟨ck, hh, ⟨cc, cb, cn⟩⟩⟩ 3 9 = (A1, Hs.zero, [], 5) := writeC_turn hsd0
     have hrt : readC A1 1 S1 K p ⟨0, 0, E1, R1, Q1, ⟨ck, hh, ⟨cc, cb, cn⟩⟩⟩ [] = (A1, Hs.zero, 0, 5) := readC_turn hsd1
     have hct : ciphersC A1 1 0 p ⟨ck, hh, ⟨cc, cb, cn⟩⟩ = (A1, Ci.zero, Ci.zero, 5) := ciphersC_turn (by omega)
     have hwb0 : ∀ x, has A1.l x = false → writeC A1 1 S1 K p ⟨0, 0, E1, R1, Q1, ⟨ck, hh, ⟨cc, cb, cn⟩⟩⟩ 3 x = (A1, Hs.zero, [], 1) := fun x hx => writeC_arg hsd1 hx
     refine sg0 [.p 2, .a (.r 14), .a (.i _ mb mq p.msgs.length 0 hA hpos), .p 1] O44 fun w517 O518 => ?_
     refine gx [.cell mb (mq + 0 * 2) (.int .i64 1)] O518 ⟨((hcell _ O518.below).1.trans (by rw [hfr])), trivial⟩ fun O519 => ?_
     refine sg0 [.a (.r 0), .p 2] O519 fun w520 O521 => ?_
     refine gx [] O521 trivial fun O522 => ?_
     refine sg0 [.d [2, 4], .q 0 (.r 0), .q 1 (.r 1), .o 2, .s 0 [2, 4], .o 3, .s 1 [2, 4], .z, .p 1] O522 fun w523 O524 => ?_
     refine gU (lenAE (r := r) O524 9 (by kernel_rfl) (A := A1)) fun w525 O526 => ?_
     refine sg0 [.p 1] O526 fun w528 O529 => ?_
     refine gj false 12 O529 (fun (j530 : Unit) => [(1, .int .i64 rf), (2, .int .i64 pt), (3, .pointer (some ⟨b1, 0, none⟩)), (6, .bool false), (7, .pointer (some ⟨r, 0, none⟩)), (9, .pointer (some ⟨b11, 0, none⟩)), (16, .pointer (some ⟨j27, 0, none⟩)), (17, .pointer (some ⟨j28, 0, none⟩)), (18, .int .i64 (A1.l.length : Int)), (20, .slice none 0 0), (21, .int .i64 5)]) (fun (j530 : Unit) => [.blk j27 (.cells #[.int .i64 1, .int .i64 0, .int .i64 0, .string (strO p.name), .slice a0g p.pre0.length c0g, .slice a1g p.pre1.length c1g, .slice amg p.msgs.length cmg, .int .i64 S1, .int .i64 E1, .int .i64 R1, .int .i64 Q1, .slice bkg K.length dkg, .int .i64 ck, .int .i64 hh, .int .i64 cc, .bool cb, .int .u64 cn] 42), .blk j28 (.cells #[.int .i64 0, .int .i64 0, .int .i64 0, .string (strO p.name), .slice a0h p.pre0.length c0h, .slice a1h p.pre1.length c1h, .slice amh p.msgs.length cmh, .int .i64 S0, .int .i64 E0, .int .i64 R0, .int .i64 Q0, .slice bkh K.length dkh, .int .i64 ck, .int .i64 hh, .int .i64 cc, .bool cb, .int .u64 cn] 42), .blk b24 (.cells #[.int .i64 1, .int .i64 0, .int .i64 0, .string (strO p.name), .slice a0g p.pre0.length c0g, .slice a1g p.pre1.length c1g, .slice amg p.msgs.length cmg, .int .i64 S1, .int .i64 E1, .int .i64 R1, .int .i64 Q1, .slice bkg K.length dkg, .int .i64 ck, .int .i64 hh, .int .i64 cc, .bool cb, .int .u64 cn] 42), .thing (shkT (pvx a0g c0g a1g c1g amg cmg p) p (.slice bkg K.length dkg) K), .blk b18 (.cells #[.int .i64 0, .int .i64 0, .int .i64 0, .string (strO p.name), .slice a0h p.pre0.length c0h, .slice a1h p.pre1.length c1h, .slice amh p.msgs.length cmh, .int .i64 S0, .int .i64 E0, .int .i64 R0, .int .i64 Q0, .slice bkh K.length dkh, .int .i64 ck, .int .i64 hh, .int .i64 cc, .bool cb, .int .u64 cn] 42), .thing (shkT (pvx a0h c0h a1h c1h amh cmh p) p (.slice bkh K.length dkh) K), .blk b12 (.cells #[.int .i64 1, .int .i64 2, .int .i64 rs0, .int .i64 re0, .slice B0 K.length e0, .int .i64 15, .int .i64 16, .int .i64 rs1, .int .i64 re1, .slice B1 K.length e1] 56), .blk b11 (.cells #[.slice (some ⟨g0, 0, none⟩) 14 d0, .slice (some ⟨g1, 0, none⟩) 14 d1] 30), .blk b10 (.cells #[.int .i64 2000, .slice nB nm nd_] 55), .thing (arena r A1), .row 3 1 g0 14 d0 [.int .i64 1, .int .i64 2, .int .i64 3, .int .i64 4, .int .i64 5, .int .i64 6, .int .i64 7, .int .i64 8, .int .i64 9, .int .i64 10, .int .i64 11, .int .i64 12, .int .i64 13, .int .i64 14], .row 3 1 g1 14 d1 [.int .i64 15, .int .i64 16, .int .i64 17, .int .i64 18, .int .i64 19, .int .i64 20, .int .i64 21, .int .i64 22, .int .i64 23, .int .i64 24, .int .i64 25, .int .i64 26, .int .i64 27, .int .i64 28], .thing (rowT 3 1 (.slice B0 K.length e0) K.length (intsV K)), .thing (rowT 3 1 (.slice B1 K.length e1) K.length (intsV K)), .blk b1 (.cells #[.string (strO p.name), .slice a0 p.pre0.length c0, .slice a1 p.pre1.length c1, .slice am p.msgs.length cm, .slice uB us.length ud, .int .i64 lim, .int .u8 ams, .int .u8 chg] 52)]) (fun (j530 : Unit) w => True) ?_ ?_
     · intro _ hM531 O532
       refine sg0 [.d [1, 7, 10], .q 0 (.r 0), .qs [1, 2], .q 3 (.r 1), .qs [4], .q 5 (.r 2), .qs [6], .q 7 (.r 1), .qs [8], .q 9 (.r 2)] O532 fun w533 O534 => ?_
       refine gA [10, 15] O534 ⟨?_, ?_, trivial⟩
       · intro O535
         refine gS (js := [1, 7, 10]) (writeNo (r := r) O535 9 (by kernel_rfl) 5 (by kernel_rfl) (hasShk_shk (pvx a0h c0h a1h c1h amh cmh p) p bkh dkh K) hfit (by decide) hright (.inl rfl) (hI.p7 hm) hkl (hI.u64 (by decide)) (by decide) hwt) fun w536 O537 => ?_
         refine sg1 [.qs [11, 12, 13, 14], .o 15, .n [2, 8, 11], .o 16, .s 0 [2, 8, 11], .qs [17, 18], .z] O537 fun b539 w540 O541 => ?_
         exact gz _ fun a F => hM531 a _ () F (O541.sel [1, 2, 3, 4, 5, 6, 7, 8, 9, 10, 11, 12, 13, 14, 15]) trivial
       · intro O542
         refine sg1 [.n [2, 8, 11], .o 10] O542 fun b543 w544 O545 => ?_
         refine gS (js := [2, 8, 11]) (writeNo (r := r) O545 10 (by kernel_rfl) 6 (by kernel_rfl) (hasShk_shk (pvx a0h c0h a1h c1h amh cmh p) p bkh dkh K) hfit (by decide) hright (.inl rfl) (hI.p7 hm) hkl (hI.u64 (by decide)) (by decide) hwt) fun w546 O547 => ?_
         refine sg0 [.qs [11, 12, 13, 14], .o 16, .s 0 [2, 8, 11], .qs [17, 18], .z] O547 fun w549 O550 => ?_
         exact gz _ fun a F => hM531 a _ () F (O550.sel [1, 2, 3, 4, 5, 6, 7, 8, 9, 10, 11, 12, 13, 14, 15]) trivial
     · rintro j530 w551 O552 _
       refine sg0 [.a (.r 0), .p 1] O552 fun w553 O554 => ?_
       refine gS (readBad (readOk (msg := []) (mB := none) (md := 0) (r := r) O554 9 (by kernel_rfl) 3 (by kernel_rfl) (hasShk_shk (pvx a0g c0g a1g c1g amg cmg p) p bkg dkg K) hfit (by decide) hright (.inr rfl) (Int.le_refl _) (hI.p7 hm) hkl (hI.u64 (by decide)) (by decide) (kept2_old fun _ _ => .inl rfl) hrt) (by decide)) fun w555 O556 => ?_
       refine sg1 [.p 4, .n [], .s 0 [], .p 2, .a (.r 1), .p 1] O556 fun b558 w559 O560 => ?_
       refine gS (args := #[.agg #[.int .i64 1, .int .i64 0, .int .i64 0, .string (strO p.name), .slice a0g p.pre0.length c0g, .slice a1g p.pre1.length c1g, .slice amg p.msgs.length cmg, .int .i64 S1, .int .i64 E1, .int .i64 R1, .int .i64 Q1, .slice bkg K.length dkg, .int .i64 ck, .int .i64 hh, .int .i64 cc, .bool cb, .int .u64 cn], .pointer (some ⟨r, 0, none⟩)]) (ciphersE (r := r) (psks := K) O560 10 (by kernel_rfl) hct) fun w561 O562 => ?_
       refine sg2 [.p 4, .n [], .n [], .s 1 [], .s 0 [], .p 18] O562 fun b564 b565 w566 O567 => ?_
       refine gU (lenAE (r := r) O567 12 (by kernel_rfl) (A := A1)) fun w568 O569 => ?_
       refine sg0 [.p 1, .a (bT (bne_self_eq_false ((A1.l.length : Int) : Int))), .p 4] O569 fun w571 O572 => ?_
       rcases Bool.eq_false_or_eq_true (decide (rf < 0)) with h573 | h573
       · have h573p : (rf < 0) := by simpa only [decide_eq_true_eq, decide_eq_false_iff_not] using h573
         refine sg0 [.a (bT h573), .p 8] O572 fun w574 O575 => ?_
         refine gc (args := #[.pointer (some ⟨r, 0, none⟩)]) (copyE (r := r) O575 12 (by kernel_rfl) (A := A1)) ?_
         rintro e578 w576 ⟨r2, rfl, O577⟩
         refine gr O577.mcons fun O577 => ?_
         have hwb := hwb0 rf (Bool.eq_false_iff.2 fun hx => by have := has_iff.1 hx; omega)
         refine sg0 [.p 4] O577 fun w579 O580 => ?_
         refine gj false 23 O580 (fun (j581 : Unit) => [(2, .int .i64 pt), (3, .pointer (some ⟨b1, 0, none⟩)), (6, .bool false), (17, .pointer (some ⟨j28, 0, none⟩)), (28, .int .i64 1), (29, .pointer (some ⟨r2, 0, none⟩)), (32, .int .i64 1)]) (fun (j581 : Unit) => [.thing (arena r2 A1), .blk b565 (.cells #[.int .i64 0, .bool false, .int .u64 0] 24), .blk b564 (.cells #[.int .i64 0, .bool false, .int .u64 0] 24), .blk b558 (.cells #[.int .i64 0, .int .i64 0, .int .i64 0, .string ⟨#[]⟩, .slice none 0 0, .slice none 0 0, .slice none 0 0, .int .i64 0, .int .i64 0, .int .i64 0, .int .i64 0, .slice none 0 0, .int .i64 0, .int .i64 0, .int .i64 0, .bool false, .int .u64 0] 42), .blk j27 (.cells #[.int .i64 1, .int .i64 0, .int .i64 0, .string (strO p.name), .slice a0g p.pre0.length c0g, .slice a1g p.pre1.length c1g, .slice amg p.msgs.length cmg, .int .i64 S1, .int .i64 E1, .int .i64 R1, .int .i64 Q1, .slice bkg K.length dkg, .int .i64 ck, .int .i64 hh, .int .i64 cc, .bool cb, .int .u64 cn] 42), .blk j28 (.cells #[.int .i64 0, .int .i64 0, .int .i64 0, .string (strO p.name), .slice a0h p.pre0.length c0h, .slice a1h p.pre1.length c1h, .slice amh p.msgs.length cmh, .int .i64 S0, .int .i64 E0, .int .i64 R0, .int .i64 Q0, .slice bkh K.length dkh, .int .i64 ck, .int .i64 hh, .int .i64 cc, .bool cb, .int .u64 cn] 42), .blk b24 (.cells #[.int .i64 1, .int .i64 0, .int .i64 0, .string (strO p.name), .slice a0g p.pre0.length c0g, .slice a1g p.pre1.length c1g, .slice amg p.msgs.length cmg, .int .i64 S1, .int .i64 E1, .int .i64 R1, .int .i64 Q1, .slice bkg K.length dkg, .int .i64 ck, .int .i64 hh, .int .i64 cc, .bool cb, .int .u64 cn] 42), .thing (shkT (pvx a0g c0g a1g c1g amg cmg p) p (.slice bkg K.length dkg) K), .blk b18 (.cells #[.int .i64 0, .int .i64 0, .int .i64 0, .string (strO p.name), .slice a0h p.pre0.length c0h, .slice a1h p.pre1.length c1h, .slice amh p.msgs.length cmh, .int .i64 S0, .int .i64 E0, .int .i64 R0, .int .i64 Q0, .slice bkh K.length dkh, .int .i64 ck, .int .i64 hh, .int .i64 cc, .bool cb, .int .u64 cn] 42), .thing (shkT (pvx a0h c0h a1h c1h amh cmh p) p (.slice bkh K.length dkh) K), .blk b12 (.cells #[.int .i64 1, .int .i64 2, .int .i64 rs0, .int .i64 re0, .slice B0 K.length e0, .int .i64 15, .int .i64 16, .int .i64 rs1, .int .i64 re1, .slice B1 K.length e1] 56), .blk b11 (.cells #[.slice (some ⟨g0, 0, none⟩) 14 d0, .slice (some ⟨g1, 0, none⟩) 14 d1] 30), .blk b10 (.cells #[.int .i64 2000, .slice nB nm nd_] 55), .thing (arena r A1), .row 3 1 g0 14 d0 [.int .i64 1, .int .i64 2, .int .i64 3, .int .i64 4, .int .i64 5, .int .i64 6, .int .i64 7, .int .i64 8, .int .i64 9, .int .i64 10, .int .i64 11, .int .i64 12, .int .i64 13, .int .i64 14], .row 3 1 g1 14 d1 [.int .i64 15, .int .i64 16, .int .i64 17, .int .i64 18, .int .i64 19, .int .i64 20, .int .i64 21, .int .i64 22, .int .i64 23, .int .i64 24, .int .i64 25, .int .i64 26, .int .i64 27, .int .i64 28], .thing (rowT 3 1 (.slice B0 K.length e0) K.length (intsV K)), .thing (rowT 3 1 (.slice B1 K.length e1) K.length (intsV K)), .blk b1 (.cells #[.string (strO p.name), .slice a0 p.pre0.length c0, .slice a1 p.pre1.length c1, .slice am p.msgs.length cm, .slice uB us.length ud, .int .i64 lim, .int .u8 ams, .int .u8 chg] 52)]) (fun (j581 : Unit) w => True) ?_ ?_
         · intro _ hM582 O583
           refine sg0 [.d [4, 11, 14], .q 0 (.r 0), .qs [1, 2], .q 3 (.r 1), .qs [4], .q 5 (.r 2), .qs [6]] O583 fun w584 O585 => ?_
           refine gA [7, 12] O585 ⟨?_, ?_, trivial⟩
           · intro O586
             refine gS (js := [4, 11, 14]) (writeNo (r := r2) O586 0 (by kernel_rfl) 7 (by kernel_rfl) (hasShk_shk (pvx a0g c0g a1g c1g amg cmg p) p bkg dkg K) hfit (by decide) hright (.inr rfl) (hI.p7 hm) hkl (hI.u64 (by decide)) (by decide) hwb) fun w587 O588 => ?_
             refine sg1 [.qs [8, 9, 10, 11], .o 12, .n [5, 12, 15], .o 13, .s 0 [5, 12, 15], .qs [14, 15], .z] O588 fun b590 w591 O592 => ?_
             exact gz _ fun a F => hM582 a _ () F (O592.sel [1, 2, 3, 4, 5, 6, 7, 8, 9, 10, 11, 12, 13, 14, 15, 16, 17, 18, 19]) trivial
           · intro O593
             refine sg1 [.n [5, 12, 15], .o 7] O593 fun b594 w595 O596 => ?_
             refine gS (js := [5, 12, 15]) (writeNo (r := r2) O596 1 (by kernel_rfl) 8 (by kernel_rfl) (hasShk_shk (pvx a0g c0g a1g c1g amg cmg p) p bkg dkg K) hfit (by decide) hright (.inr rfl) (hI.p7 hm) hkl (hI.u64 (by decide)) (by decide) hwb) fun w597 O598 => ?_
             refine sg0 [.qs [8, 9, 10, 11], .o 13, .s 0 [5, 12, 15], .qs [14, 15], .z] O598 fun w600 O601 => ?_
             exact gz _ fun a F => hM582 a _ () F (O601.sel [1, 2, 3, 4, 5, 6, 7, 8, 9, 10, 11, 12, 13, 14, 15, 16, 17, 18, 19]) trivial
         · rintro j581 w602 O603 _
           refine sg0 [.p 4] O603 fun w604 O605 => ?_
           obtain ⟨mx, hmx⟩ : ∃ x : Int, (if (0 : Int) > pt then 0 else pt) = x := ⟨_, rfl⟩
           have hmx0 : 0 ≤ mx := by rw [← hmx]; split <;> omega
           obtain ⟨mm, hmm, hm20⟩ : ∃ n : Nat, (if (20 : Int) < mx then 20 else mx) = (n : Int) ∧ n ≤ 20 := ⟨(if (20 : Int) < mx then 20 else mx).toNat, by split <;> omega, by split <;> omega⟩
           rcases Decidable.em ((mm : Int) = partsC m.t) with heq | hneq
           · have hlen4 : (((List.replicate mm (0 : Int)).length : Int) = partsR m.t) := by rw [List.length_replicate, partsR_eq _ hmf]; exact heq
             refine sg0 [.p 1, .a (.v (.int .i64 (if (0 : Int) > pt then 0 else pt)) (.int .i64 mx) (congrArg (Value.int .i64) hmx)), .a (.v (.int .i64 (if (20 : Int) < mx then 20 else mx)) (.int .i64 (mm : Int)) (congrArg (Value.int .i64) hmm))] O605 fun w606 O607 => ?_
             refine gMake (.tmp 170) (.tmp 170) 29 O607 3 mm (by omega) fun b608 w609 O610 => ?_
             refine sg0 [.p 1, .a (.r 6), .p 2] O610 fun w611 O612 => ?_
             obtain ⟨A4, h4, x4, no4, hr4⟩ : ∃ A' h' y no, readC A1 0 S0 K p ⟨0, 0, E0, R0, Q0, ⟨ck, hh, ⟨cc, cb, cn⟩⟩⟩ (List.replicate mm 0) = (A', h', y, no) := ⟨_, _, _, _, rfl⟩
             rcases Decidable.em (no4 = 0) with h613 | h613
             · subst h613
               refine gS (readOk (msg := (List.replicate mm (0 : Int))) (mB := (some ⟨b608, 0, none⟩)) (md := mm) (r := r2) O612 1 (by kernel_rfl) 10 (by kernel_rfl) (hasShk_shk (pvx a0h c0h a1h c1h amh cmh p) p bkh dkh K) hfit (by decide) hright (.inl rfl) (Int.le_refl _) (hI.p7 hm) hkl (hI.u64 (by decide)) (by simp; omega) (kept2_thing 0 (by kernel_rfl) (by decide) (by decide) (rowI_holds (B := (some ⟨b608, 0, none⟩)) (d := mm) (l := (List.replicate mm (0 : Int))))) hr4) fun w614 O615 => ?_
               refine sg1 [.p 4, .n [], .s 0 [], .p 5, .a (.r 20)] O615 fun b617 w618 O619 => ?_
               refine gi (args := #[.agg #[.string (strO p.name), .slice a0 p.pre0.length c0, .slice a1 p.pre1.length c1, .slice am p.msgs.length cm]]) Tryz.func28 O619 fun O619i => ?_
               refine sg1 [.n [], .p 2, .a (.r 0), .a (.i _ mb mq p.msgs.length 0 hA hpos), .p 1] O619i fun b620 w621 O622 => ?_
               refine gx [.cell mb (mq + 0 * 2 + 1) (.slice D m.t.length d)] O622 ⟨(hcell _ O622.below).2, trivial⟩ fun O623 => ?_
               refine sg0 [.a (.r 0)] O623 fun w624 O625 => ?_
               refine gi (args := #[.slice D m.t.length d]) Tryz.func44 O625 fun O625i => ?_
               refine sg0 [.p 2] O625i fun w626 O627 => ?_
               refine gB O627 (refPartsE (c := d) (hD.below O627.below) (by omega)) fun w628 O629 => ?_
               refine sg0 [.p 1] O629 fun w631 O632 => ?_
               refine gir [] O632 fun O633 => ?_
               refine sg0 [.p 1] O633 fun w634 O635 => ?_
               refine gir [] O635 fun O636 => ?_
               refine sg0 [.a (bT (bne_f hlen4)), .p 5] O636 fun w637 O638 => ?_
               refine gU (args := #[]) (awake12E O638 henv) fun w639 O640 => ?_
               refine sg0 [.p 1] O640 fun w642 O643 => ?_
               exact gret [] O643 (⟨rfl, O643.below⟩)
             · refine gS (readBad (readOk (msg := (List.replicate mm (0 : Int))) (mB := (some ⟨b608, 0, none⟩)) (md := mm) (r := r2) O612 1 (by kernel_rfl) 10 (by kernel_rfl) (hasShk_shk (pvx a0h c0h a1h c1h amh cmh p) p bkh dkh K) hfit (by decide) hright (.inl rfl) (Int.le_refl _) (hI.p7 hm) hkl (hI.u64 (by decide)) (by simp; omega) (kept2_thing 0 (by kernel_rfl) (by decide) (by decide) (rowI_holds (B := (some ⟨b608, 0, none⟩)) (d := mm) (l := (List.replicate mm (0 : Int))))) hr4) h613) fun w644 O645 => ?_
               refine sg1 [.p 4, .n [], .s 0 [], .p 5, .a (.r 20)] O645 fun b647 w648 O649 => ?_
               refine gi (args := #[.agg #[.string (strO p.name), .slice a0 p.pre0.length c0, .slice a1 p.pre1.length c1, .slice am p.msgs.length cm]]) Tryz.func28 O649 fun O649i => ?_
               refine sg1 [.n [], .p 2, .a (.r 0), .a (.i _ mb mq p.msgs.length 0 hA hpos), .p 1] O649i fun b650 w651 O652 => ?_
               refine gx [.cell mb (mq + 0 * 2 + 1) (.slice D m.t.length d)] O652 ⟨(hcell _ O652.below).2, trivial⟩ fun O653 => ?_
               refine sg0 [.a (.r 0)] O653 fun w654 O655 => ?_
               refine gi (args := #[.slice D m.t.length d]) Tryz.func44 O655 fun O655i => ?_
               refine sg0 [.p 2] O655i fun w656 O657 => ?_
               refine gB O657 (refPartsE (c := d) (hD.below O657.below) (by omega)) fun w658 O659 => ?_
               refine sg0 [.p 1] O659 fun w661 O662 => ?_
               refine gir [] O662 fun O663 => ?_
               refine sg0 [.p 1] O663 fun w664 O665 => ?_
               refine gir [] O665 fun O666 => ?_
               refine sg0 [.a (bT (bne_f hlen4)), .p 5] O666 fun w667 O668 => ?_
               refine gU (args := #[]) (awake12E O668 henv) fun w669 O670 => ?_
               refine sg0 [.p 1] O670 fun w672 O673 => ?_
               exact gret [] O673 (⟨rfl, O673.below⟩)
           · have hlen4 : ¬ (((List.replicate mm (0 : Int)).length : Int) = partsR m.t) := by rw [List.length_replicate, partsR_eq _ hmf]; exact hneq
             refine sg0 [.p 1, .a (.v (.int .i64 (if (0 : Int) > pt then 0 else pt)) (.int .i64 mx) (congrArg (Value.int .i64) hmx)), .a (.v (.int .i64 (if (20 : Int) < mx then 20 else mx)) (.int .i64 (mm : Int)) (congrArg (Value.int .i64) hmm))] O605 fun w674 O675 => ?_
             refine gMake (.tmp 170) (.tmp 170) 29 O675 3 mm (by omega) fun b676 w677 O678 => ?_
             refine sg0 [.p 1, .a (.r 6), .p 2] O678 fun w679 O680 => ?_
             obtain ⟨A4, h4, x4, no4, hr4⟩ : ∃ A' h' y no, readC A1 0 S0 K p ⟨0, 0, E0, R0, Q0, ⟨ck, hh, ⟨cc, cb, cn⟩⟩⟩ (List.replicate mm 0) = (A', h', y, no) := ⟨_, _, _, _, rfl⟩
             obtain rfl : no4 = 7 := readC_parts (has_first hok.1) (by show ¬ (p.msgs.length : Int) ≤ 0; omega) hsd0 hr4 (by show (mm : Int) ≠ partsC (toks p 0); rw [ht0]; exact hneq)
             refine gS (readBad (readOk (msg := (List.replicate mm (0 : Int))) (mB := (some ⟨b676, 0, none⟩)) (md := mm) (r := r2) O680 1 (by kernel_rfl) 10 (by kernel_rfl) (hasShk_shk (pvx a0h c0h a1h c1h amh cmh p) p bkh dkh K) hfit (by decide) hright (.inl rfl) (Int.le_refl _) (hI.p7 hm) hkl (hI.u64 (by decide)) (by simp; omega) (kept2_thing 0 (by kernel_rfl) (by decide) (by decide) (rowI_holds (B := (some ⟨b676, 0, none⟩)) (d := mm) (l := (List.replicate mm (0 : Int))))) hr4) (by decide)) fun w681 O682 => ?_
             refine sg1 [.p 4, .n [], .s 0 [], .p 5, .a (.r 20)] O682 fun b684 w685 O686 => ?_
             refine gi (args := #[.agg #[.string (strO p.name), .slice a0 p.pre0.length c0, .slice a1 p.pre1.length c1, .slice am p.msgs.length cm]]) Tryz.func28 O686 fun O686i => ?_
             refine sg1 [.n [], .p 2, .a (.r 0), .a (.i _ mb mq p.msgs.length 0 hA hpos), .p 1] O686i fun b687 w688 O689 => ?_
             refine gx [.cell mb (mq + 0 * 2 + 1) (.slice D m.t.length d)] O689 ⟨(hcell _ O689.below).2, trivial⟩ fun O690 => ?_
             refine sg0 [.a (.r 0)] O690 fun w691 O692 => ?_
             refine gi (args := #[.slice D m.t.length d]) Tryz.func44 O692 fun O692i => ?_
             refine sg0 [.p 2] O692i fun w693 O694 => ?_
             refine gB O694 (refPartsE (c := d) (hD.below O694.below) (by omega)) fun w695 O696 => ?_
             refine sg0 [.p 1] O696 fun w698 O699 => ?_
             refine gir [] O699 fun O700 => ?_
             refine sg0 [.p 1] O700 fun w701 O702 => ?_
             refine gir [] O702 fun O703 => ?_
             refine sg0 [.a (bT (bne_t hlen4)), .p 5] O703 fun w704 O705 => ?_
             refine gU (args := #[]) (awake12E O705 henv) fun w706 O707 => ?_
             refine sg0 [.p 1] O707 fun w709 O710 => ?_
             exact gret [] O710 (⟨rfl, O710.below⟩)
       · have h573p : ¬ (rf < 0) := by simpa only [decide_eq_true_eq, decide_eq_false_iff_not] using h573
         refine sg0 [.a (bT h573), .p 3] O572 fun w711 O712 => ?_
         rcases Bool.eq_false_or_eq_true (decide (rf ≥ (A1.l.length : Int))) with h713 | h713
         · have h713p : ((A1.l.length : Int) ≤ rf) := by simpa only [decide_eq_true_eq, decide_eq_false_iff_not] using h713
           refine sg0 [.a (bT h713), .p 4] O712 fun w714 O715 => ?_
           refine gc (args := #[.pointer (some ⟨r, 0, none⟩)]) (copyE (r := r) O715 12 (by kernel_rfl) (A := A1)) ?_
           rintro e718 w716 ⟨r2, rfl, O717⟩
           refine gr O717.mcons fun O717 => ?_
           have hwb := hwb0 rf (Bool.eq_false_iff.2 fun hx => by have := has_iff.1 hx; omega)
           refine sg0 [.p 4] O717 fun w719 O720 => ?_
           refine gj false 23 O720 (fun (j721 : Unit) => [(2, .int .i64 pt), (3, .pointer (some ⟨b1, 0, none⟩)), (6, .bool false), (17, .pointer (some ⟨j28, 0, none⟩)), (28, .int .i64 1), (29, .pointer (some ⟨r2, 0, none⟩)), (32, .int .i64 1)]) (fun (j721 : Unit) => [.thing (arena r2 A1), .blk b565 (.cells #[.int .i64 0, .bool false, .int .u64 0] 24), .blk b564 (.cells #[.int .i64 0, .bool false, .int .u64 0] 24), .blk b558 (.cells #[.int .i64 0, .int .i64 0, .int .i64 0, .string ⟨#[]⟩, .slice none 0 0, .slice none 0 0, .slice none 0 0, .int .i64 0, .int .i64 0, .int .i64 0, .int .i64 0, .slice none 0 0, .int .i64 0, .int .i64 0, .int .i64 0, .bool false, .int .u64 0] 42), .blk j27 (.cells #[.int .i64 1, .int .i64 0, .int .i64 0, .string (strO p.name), .slice a0g p.pre0.length c0g, .slice a1g p.pre1.length c1g, .slice amg p.msgs.length cmg, .int .i64 S1, .int .i64 E1, .int .i64 R1, .int .i64 Q1, .slice bkg K.length dkg, .int .i64 ck, .int .i64 hh, .int .i64 cc, .bool cb, .int .u64 cn] 42), .blk j28 (.cells #[.int .i64 0, .int .i64 0, .int .i64 0, .string (strO p.name), .slice a0h p.pre0.length c0h, .slice a1h p.pre1.length c1h, .slice amh p.msgs.length cmh, .int .i64 S0, .int .i64 E0, .int .i64 R0, .int .i64 Q0, .slice bkh K.length dkh, .int .i64 ck, .int .i64 hh, .int .i64 cc, .bool cb, .int .u64 cn] 42), .blk b24 (.cells #[.int .i64 1, .int .i64 0, .int .i64 0, .string (strO p.name), .slice a0g p.pre0.length c0g, .slice a1g p.pre1.length c1g, .slice amg p.msgs.length cmg, .int .i64 S1, .int .i64 E1, .int .i64 R1, .int .i64 Q1, .slice bkg K.length dkg, .int .i64 ck, .int .i64 hh, .int .i64 cc, .bool cb, .int .u64 cn] 42), .thing (shkT (pvx a0g c0g a1g c1g amg cmg p) p (.slice bkg K.length dkg) K), .blk b18 (.cells #[.int .i64 0, .int .i64 0, .int .i64 0, .string (strO p.name), .slice a0h p.pre0.length c0h, .slice a1h p.pre1.length c1h, .slice amh p.msgs.length cmh, .int .i64 S0, .int .i64 E0, .int .i64 R0, .int .i64 Q0, .slice bkh K.length dkh, .int .i64 ck, .int .i64 hh, .int .i64 cc, .bool cb, .int .u64 cn] 42), .thing (shkT (pvx a0h c0h a1h c1h amh cmh p) p (.slice bkh K.length dkh) K), .blk b12 (.cells #[.int .i64 1, .int .i64 2, .int .i64 rs0, .int .i64 re0, .slice B0 K.length e0, .int .i64 15, .int .i64 16, .int .i64 rs1, .int .i64 re1, .slice B1 K.length e1] 56), .blk b11 (.cells #[.slice (some ⟨g0, 0, none⟩) 14 d0, .slice (some ⟨g1, 0, none⟩) 14 d1] 30), .blk b10 (.cells #[.int .i64 2000, .slice nB nm nd_] 55), .thing (arena r A1), .row 3 1 g0 14 d0 [.int .i64 1, .int .i64 2, .int .i64 3, .int .i64 4, .int .i64 5, .int .i64 6, .int .i64 7, .int .i64 8, .int .i64 9, .int .i64 10, .int .i64 11, .int .i64 12, .int .i64 13, .int .i64 14], .row 3 1 g1 14 d1 [.int .i64 15, .int .i64 16, .int .i64 17, .int .i64 18, .int .i64 19, .int .i64 20, .int .i64 21, .int .i64 22, .int .i64 23, .int .i64 24, .int .i64 25, .int .i64 26, .int .i64 27, .int .i64 28], .thing (rowT 3 1 (.slice B0 K.length e0) K.length (intsV K)), .thing (rowT 3 1 (.slice B1 K.length e1) K.length (intsV K)), .blk b1 (.cells #[.string (strO p.name), .slice a0 p.pre0.length c0, .slice a1 p.pre1.length c1, .slice am p.msgs.length cm, .slice uB us.length ud, .int .i64 lim, .int .u8 ams, .int .u8 chg] 52)]) (fun (j721 : Unit) w => True) ?_ ?_
           · intro _ hM722 O723
             refine sg0 [.d [4, 11, 14], .q 0 (.r 0), .qs [1, 2], .q 3 (.r 1), .qs [4], .q 5 (.r 2), .qs [6]] O723 fun w724 O725 => ?_
             refine gA [7, 12] O725 ⟨?_, ?_, trivial⟩
             · intro O726
               refine gS (js := [4, 11, 14]) (writeNo (r := r2) O726 0 (by kernel_rfl) 7 (by kernel_rfl) (hasShk_shk (pvx a0g c0g a1g c1g amg cmg p) p bkg dkg K) hfit (by decide) hright (.inr rfl) (hI.p7 hm) hkl (hI.u64 (by decide)) (by decide) hwb) fun w727 O728 => ?_
               refine sg1 [.qs [8, 9, 10, 11], .o 12, .n [5, 12, 15], .o 13, .s 0 [5, 12, 15], .qs [14, 15], .z] O728 fun b730 w731 O732 => ?_
               exact gz _ fun a F => hM722 a _ () F (O732.sel [1, 2, 3, 4, 5, 6, 7, 8, 9, 10, 11, 12, 13, 14, 15, 16, 17, 18, 19]) trivial
             · intro O733
               refine sg1 [.n [5, 12, 15], .o 7] O733 fun b734 w735 O736 => ?_
               refine gS (js := [5, 12, 15]) (writeNo (r := r2) O736 1 (by kernel_rfl) 8 (by kernel_rfl) (hasShk_shk (pvx a0g c0g a1g c1g amg cmg p) p bkg dkg K) hfit (by decide) hright (.inr rfl) (hI.p7 hm) hkl (hI.u64 (by decide)) (by decide) hwb) fun w737 O738 => ?_
               refine sg0 [.qs [8, 9, 10, 11], .o 13, .s 0 [5, 12, 15], .qs [14, 15], .z] O738 fun w740 O741 => ?_
               exact gz _ fun a F => hM722 a _ () F (O741.sel [1, 2, 3, 4, 5, 6, 7, 8, 9, 10, 11, 12, 13, 14, 15, 16, 17, 18, 19]) trivial
           · rintro j721 w742 O743 _
             refine sg0 [.p 4] O743 fun w744 O745 => ?_
             obtain ⟨mx, hmx⟩ : ∃ x : Int, (if (0 : Int) > pt then 0 else pt) = x := ⟨_, rfl⟩
             have hmx0 : 0 ≤ mx := by rw [← hmx]; split <;> omega
             obtain ⟨mm, hmm, hm20⟩ : ∃ n : Nat, (if (20 : Int) < mx then 20 else mx) = (n : Int) ∧ n ≤ 20 := ⟨(if (20 : Int) < mx then 20 else mx).toNat, by split <;> omega, by split <;> omega⟩
             rcases Decidable.em ((mm : Int) = partsC m.t) with heq | hneq
             · have hlen4 : (((List.replicate mm (0 : Int)).length : Int) = partsR m.t) := by rw [List.length_replicate, partsR_eq _ hmf]; exact heq
               refine sg0 [.p 1, .a (.v (.int .i64 (if (0 : Int) > pt then 0 else pt)) (.int .i64 mx) (congrArg (Value.int .i64) hmx)), .a (.v (.int .i64 (if (20 : Int) < mx then 20 else mx)) (.int .i64 (mm : Int)) (congrArg (Value.int .i64) hmm))] O745 fun w746 O747 => ?_
               refine gMake (.tmp 170) (.tmp 170) 29 O747 3 mm (by omega) fun b748 w749 O750 => ?_
               refine sg0 [.p 1, .a (.r 6), .p 2] O750 fun w751 O752 => ?_
               obtain ⟨A4, h4, x4, no4, hr4⟩ : ∃ A' h' y no, readC A1 0 S0 K p ⟨0, 0, E0, R0, Q0, ⟨ck, hh, ⟨cc, cb, cn⟩⟩⟩ (List.replicate mm 0) = (A', h', y, no) := ⟨_, _, _, _, rfl⟩
               rcases Decidable.em (no4 = 0) with h753 | h753
               · subst h753
                 refine gS (readOk (msg := (List.replicate mm (0 : Int))) (mB := (some ⟨b748, 0, none⟩)) (md := mm) (r := r2) O752 1 (by kernel_rfl) 10 (by kernel_rfl) (hasShk_shk (pvx a0h c0h a1h c1h amh cmh p) p bkh dkh K) hfit (by decide) hright (.inl rfl) (Int.le_refl _) (hI.p7 hm) hkl (hI.u64 (by decide)) (by simp; omega) (kept2_thing 0 (by kernel_rfl) (by decide) (by decide) (rowI_holds (B := (some ⟨b748, 0, none⟩)) (d := mm) (l := (List.replicate mm (0 : Int))))) hr4) fun w754 O755 => ?_
                 refine sg1 [.p 4, .n [], .s 0 [], .p 5, .a (.r 20)] O755 fun b757 w758 O759 => ?_
                 refine gi (args := #[.agg #[.string (strO p.name), .slice a0 p.pre0.length c0, .slice a1 p.pre1.length c1, .slice am p.msgs.length cm]]) Tryz.func28 O759 fun O759i => ?_
                 refine sg1 [.n [], .p 2, .a (.r 0), .a (.i _ mb mq p.msgs.length 0 hA hpos), .p 1] O759i fun b760 w761 O762 => ?_
                 refine gx [.cell mb (mq + 0 * 2 + 1) (.slice D m.t.length d)] O762 ⟨(hcell _ O762.below).2, trivial⟩ fun O763 => ?_
                 refine sg0 [.a (.r 0)] O763 fun w764 O765 => ?_
                 refine gi (args := #[.slice D m.t.length d]) Tryz.func44 O765 fun O765i => ?_
                 refine sg0 [.p 2] O765i fun w766 O767 => ?_
                 refine gB O767 (refPartsE (c := d) (hD.below O767.below) (by omega)) fun w768 O769 => ?_
                 refine sg0 [.p 1] O769 fun w771 O772 => ?_
                 refine gir [] O772 fun O773 => ?_
                 refine sg0 [.p 1] O773 fun w774 O775 => ?_
                 refine gir [] O775 fun O776 => ?_
                 refine sg0 [.a (bT (bne_f hlen4)), .p 5] O776 fun w777 O778 => ?_
                 refine gU (args := #[]) (awake12E O778 henv) fun w779 O780 => ?_
                 refine sg0 [.p 1] O780 fun w782 O783 => ?_
                 exact gret [] O783 (⟨rfl, O783.below⟩)
               · refine gS (readBad (readOk (msg := (List.replicate mm (0 : Int))) (mB := (some ⟨b748, 0, none⟩)) (md := mm) (r := r2) O752 1 (by kernel_rfl) 10 (by kernel_rfl) (hasShk_shk (pvx a0h c0h a1h c1h amh cmh p) p bkh dkh K) hfit (by decide) hright (.inl rfl) (Int.le_refl _) (hI.p7 hm) hkl (hI.u64 (by decide)) (by simp; omega) (kept2_thing 0 (by kernel_rfl) (by decide) (by decide) (rowI_holds (B := (some ⟨b748, 0, none⟩)) (d := mm) (l := (List.replicate mm (0 : Int))))) hr4) h753) fun w784 O785 => ?_
                 refine sg1 [.p 4, .n [], .s 0 [], .p 5, .a (.r 20)] O785 fun b787 w788 O789 => ?_
                 refine gi (args := #[.agg #[.string (strO p.name), .slice a0 p.pre0.length c0, .slice a1 p.pre1.length c1, .slice am p.msgs.length cm]]) Tryz.func28 O789 fun O789i => ?_
                 refine sg1 [.n [], .p 2, .a (.r 0), .a (.i _ mb mq p.msgs.length 0 hA hpos), .p 1] O789i fun b790 w791 O792 => ?_
                 refine gx [.cell mb (mq + 0 * 2 + 1) (.slice D m.t.length d)] O792 ⟨(hcell _ O792.below).2, trivial⟩ fun O793 => ?_
                 refine sg0 [.a (.r 0)] O793 fun w794 O795 => ?_
                 refine gi (args := #[.slice D m.t.length d]) Tryz.func44 O795 fun O795i => ?_
                 refine sg0 [.p 2] O795i fun w796 O797 => ?_
                 refine gB O797 (refPartsE (c := d) (hD.below O797.below) (by omega)) fun w798 O799 => ?_
                 refine sg0 [.p 1] O799 fun w801 O802 => ?_
                 refine gir [] O802 fun O803 => ?_
                 refine sg0 [.p 1] O803 fun w804 O805 => ?_
                 refine gir [] O805 fun O806 => ?_
                 refine sg0 [.a (bT (bne_f hlen4)), .p 5] O806 fun w807 O808 => ?_
                 refine gU (args := #[]) (awake12E O808 henv) fun w809 O810 => ?_
                 refine sg0 [.p 1] O810 fun w812 O813 => ?_
                 exact gret [] O813 (⟨rfl, O813.below⟩)
             · have hlen4 : ¬ (((List.replicate mm (0 : Int)).length : Int) = partsR m.t) := by rw [List.length_replicate, partsR_eq _ hmf]; exact hneq
               refine sg0 [.p 1, .a (.v (.int .i64 (if (0 : Int) > pt then 0 else pt)) (.int .i64 mx) (congrArg (Value.int .i64) hmx)), .a (.v (.int .i64 (if (20 : Int) < mx then 20 else mx)) (.int .i64 (mm : Int)) (congrArg (Value.int .i64) hmm))] O745 fun w814 O815 => ?_
               refine gMake (.tmp 170) (.tmp 170) 29 O815 3 mm (by omega) fun b816 w817 O818 => ?_
               refine sg0 [.p 1, .a (.r 6), .p 2] O818 fun w819 O820 => ?_
               obtain ⟨A4, h4, x4, no4, hr4⟩ : ∃ A' h' y no, readC A1 0 S0 K p ⟨0, 0, E0, R0, Q0, ⟨ck, hh, ⟨cc, cb, cn⟩⟩⟩ (List.replicate mm 0) = (A', h', y, no) := ⟨_, _, _, _, rfl⟩
               obtain rfl : no4 = 7 := readC_parts (has_first hok.1) (by show ¬ (p.msgs.length : Int) ≤ 0; omega) hsd0 hr4 (by show (mm : Int) ≠ partsC (toks p 0); rw [ht0]; exact hneq)
               refine gS (readBad (readOk (msg := (List.replicate mm (0 : Int))) (mB := (some ⟨b816, 0, none⟩)) (md := mm) (r := r2) O820 1 (by kernel_rfl) 10 (by kernel_rfl) (hasShk_shk (pvx a0h c0h a1h c1h amh cmh p) p bkh dkh K) hfit (by decide) hright (.inl rfl) (Int.le_refl _) (hI.p7 hm) hkl (hI.u64 (by decide)) (by simp; omega) (kept2_thing 0 (by kernel_rfl) (by decide) (by decide) (rowI_holds (B := (some ⟨b816, 0, none⟩)) (d := mm) (l := (List.replicate mm (0 : Int))))) hr4) (by decide)) fun w821 O822 => ?_
               refine sg1 [.p 4, .n [], .s 0 [], .p 5, .a (.r 20)] O822 fun b824 w825 O826 => ?_
               refine gi (args := #[.agg #[.string (strO p.name), .slice a0 p.pre0.length c0, .slice a1 p.pre1.length c1, .slice am p.msgs.length cm]]) Tryz.func28 O826 fun O826i => ?_
               refine sg1 [.n [], .p 2, .a (.r 0), .a (.i _ mb mq p.msgs.length 0 hA hpos), .p 1] O826i fun b827 w828 O829 => ?_
               refine gx [.cell mb (mq + 0 * 2 + 1) (.slice D m.t.length d)] O829 ⟨(hcell _ O829.below).2, trivial⟩ fun O830 => ?_
               refine sg0 [.a (.r 0)] O830 fun w831 O832 => ?_
               refine gi (args := #[.slice D m.t.length d]) Tryz.func44 O832 fun O832i => ?_
               refine sg0 [.p 2] O832i fun w833 O834 => ?_
               refine gB O834 (refPartsE (c := d) (hD.below O834.below) (by omega)) fun w835 O836 => ?_
               refine sg0 [.p 1] O836 fun w838 O839 => ?_
               refine gir [] O839 fun O840 => ?_
               refine sg0 [.p 1] O840 fun w841 O842 => ?_
               refine gir [] O842 fun O843 => ?_
               refine sg0 [.a (bT (bne_t hlen4)), .p 5] O843 fun w844 O845 => ?_
               refine gU (args := #[]) (awake12E O845 henv) fun w846 O847 => ?_
               refine sg0 [.p 1] O847 fun w849 O850 => ?_
               exact gret [] O850 (⟨rfl, O850.below⟩)
         · have h713p : ¬ ((A1.l.length : Int) ≤ rf) := by simpa only [decide_eq_true_eq, decide_eq_false_iff_not] using h713
           refine sg0 [.a (bT h713), .p 3] O712 fun w851 O852 => ?_
           refine gc (args := #[.pointer (some ⟨r, 0, none⟩)]) (copyE (r := r) O852 12 (by kernel_rfl) (A := A1)) ?_
           rintro e855 w853 ⟨r2, rfl, O854⟩
           refine gr O854.mcons fun O854 => ?_
           obtain ⟨A3, h3, msg3, hw3, ok3⟩ := (turns_write (pay := rf) hI hright hm h29 (has_iff.2 ⟨by omega, by omega⟩)).2 hfr
           refine sg0 [.p 4] O854 fun w856 O857 => ?_
           refine gj false 23 O857 (fun (j858 : Unit) => [(2, .int .i64 pt), (3, .pointer (some ⟨b1, 0, none⟩)), (6, .bool false), (17, .pointer (some ⟨j28, 0, none⟩)), (28, .int .i64 0), (29, .pointer (some ⟨r2, 0, none⟩)), (32, .int .i64 0)]) (fun (j858 : Unit) => [.thing (arena r2 A3), .blk b565 (.cells #[.int .i64 0, .bool false, .int .u64 0] 24), .blk b564 (.cells #[.int .i64 0, .bool false, .int .u64 0] 24), .blk b558 (.cells #[.int .i64 0, .int .i64 0, .int .i64 0, .string ⟨#[]⟩, .slice none 0 0, .slice none 0 0, .slice none 0 0, .int .i64 0, .int .i64 0, .int .i64 0, .int .i64 0, .slice none 0 0, .int .i64 0, .int .i64 0, .int .i64 0, .bool false, .int .u64 0] 42), .blk j27 (.cells #[.int .i64 1, .int .i64 0, .int .i64 0, .string (strO p.name), .slice a0g p.pre0.length c0g, .slice a1g p.pre1.length c1g, .slice amg p.msgs.length cmg, .int .i64 S1, .int .i64 E1, .int .i64 R1, .int .i64 Q1, .slice bkg K.length dkg, .int .i64 ck, .int .i64 hh, .int .i64 cc, .bool cb, .int .u64 cn] 42), .blk j28 (.cells #[.int .i64 0, .int .i64 0, .int .i64 0, .string (strO p.name), .slice a0h p.pre0.length c0h, .slice a1h p.pre1.length c1h, .slice amh p.msgs.length cmh, .int .i64 S0, .int .i64 E0, .int .i64 R0, .int .i64 Q0, .slice bkh K.length dkh, .int .i64 ck, .int .i64 hh, .int .i64 cc, .bool cb, .int .u64 cn] 42), .blk b24 (.cells #[.int .i64 1, .int .i64 0, .int .i64 0, .string (strO p.name), .slice a0g p.pre0.length c0g, .slice a1g p.pre1.length c1g, .slice amg p.msgs.length cmg, .int .i64 S1, .int .i64 E1, .int .i64 R1, .int .i64 Q1, .slice bkg K.length dkg, .int .i64 ck, .int .i64 hh, .int .i64 cc, .bool cb, .int .u64 cn] 42), .thing (shkT (pvx a0g c0g a1g c1g amg cmg p) p (.slice bkg K.length dkg) K), .blk b18 (.cells #[.int .i64 0, .int .i64 0, .int .i64 0, .string (strO p.name), .slice a0h p.pre0.length c0h, .slice a1h p.pre1.length c1h, .slice amh p.msgs.length cmh, .int .i64 S0, .int .i64 E0, .int .i64 R0, .int .i64 Q0, .slice bkh K.length dkh, .int .i64 ck, .int .i64 hh, .int .i64 cc, .bool cb, .int .u64 cn] 42), .thing (shkT (pvx a0h c0h a1h c1h amh cmh p) p (.slice bkh K.length dkh) K), .blk b12 (.cells #[.int .i64 1, .int .i64 2, .int .i64 rs0, .int .i64 re0, .slice B0 K.length e0, .int .i64 15, .int .i64 16, .int .i64 rs1, .int .i64 re1, .slice B1 K.length e1] 56), .blk b11 (.cells #[.slice (some ⟨g0, 0, none⟩) 14 d0, .slice (some ⟨g1, 0, none⟩) 14 d1] 30), .blk b10 (.cells #[.int .i64 2000, .slice nB nm nd_] 55), .thing (arena r A1), .row 3 1 g0 14 d0 [.int .i64 1, .int .i64 2, .int .i64 3, .int .i64 4, .int .i64 5, .int .i64 6, .int .i64 7, .int .i64 8, .int .i64 9, .int .i64 10, .int .i64 11, .int .i64 12, .int .i64 13, .int .i64 14], .row 3 1 g1 14 d1 [.int .i64 15, .int .i64 16, .int .i64 17, .int .i64 18, .int .i64 19, .int .i64 20, .int .i64 21, .int .i64 22, .int .i64 23, .int .i64 24, .int .i64 25, .int .i64 26, .int .i64 27, .int .i64 28], .thing (rowT 3 1 (.slice B0 K.length e0) K.length (intsV K)), .thing (rowT 3 1 (.slice B1 K.length e1) K.length (intsV K)), .blk b1 (.cells #[.string (strO p.name), .slice a0 p.pre0.length c0, .slice a1 p.pre1.length c1, .slice am p.msgs.length cm, .slice uB us.length ud, .int .i64 lim, .int .u8 ams, .int .u8 chg] 52)]) (fun (j858 : Unit) w => True) ?_ ?_
           · intro _ hM859 O860
             refine sg0 [.d [4, 11, 14], .q 0 (.r 0), .qs [1, 2], .q 3 (.r 1), .qs [4], .q 5 (.r 2), .qs [6]] O860 fun w861 O862 => ?_
             refine gA [7, 12] O862 ⟨?_, ?_, trivial⟩
             · intro O863
               refine gc (writeOk (r := r2) O863 0 (by kernel_rfl) 7 (by kernel_rfl) (hasShk_shk (pvx a0g c0g a1g c1g amg cmg p) p bkg dkg K) hfit (by decide) hright (.inr rfl) (hI.p7 hm) hkl (hI.u64 (by decide)) hw3) ?_
               rintro e868 w866 ⟨mB864, md865, rfl, O867⟩
               refine gr (js := [5, 12, 15]) O867.mconsS fun O867 => ?_
               refine sg1 [.qs [8, 9, 10, 11], .o 12, .n [6, 13, 16], .o 13, .s 0 [6, 13, 16], .qs [14, 15], .z] O867 fun b869 w870 O871 => ?_
               exact gz _ fun a F => hM859 a _ () F (O871.sel [2, 3, 4, 5, 6, 7, 8, 9, 10, 11, 12, 13, 14, 15, 16, 17, 18, 19, 20]) trivial
             · intro O872
               refine sg1 [.n [5, 12, 15], .o 7] O872 fun b873 w874 O875 => ?_
               refine gc (writeOk (r := r2) O875 1 (by kernel_rfl) 8 (by kernel_rfl) (hasShk_shk (pvx a0g c0g a1g c1g amg cmg p) p bkg dkg K) hfit (by decide) hright (.inr rfl) (hI.p7 hm) hkl (hI.u64 (by decide)) hw3) ?_
               rintro e880 w878 ⟨mB876, md877, rfl, O879⟩
               refine gr (js := [6, 13, 16]) O879.mconsS fun O879 => ?_
               refine sg0 [.qs [8, 9, 10, 11], .o 13, .s 1 [6, 13, 16], .qs [14, 15], .z] O879 fun w881 O882 => ?_
               exact gz _ fun a F => hM859 a _ () F (O882.sel [2, 3, 4, 5, 6, 7, 8, 9, 10, 11, 12, 13, 14, 15, 16, 17, 18, 19, 20]) trivial
           · rintro j858 w883 O884 _
             refine sg0 [.p 4] O884 fun w885 O886 => ?_
             obtain ⟨mx, hmx⟩ : ∃ x : Int, (if (0 : Int) > pt then 0 else pt) = x := ⟨_, rfl⟩
             have hmx0 : 0 ≤ mx := by rw [← hmx]; split <;> omega
             obtain ⟨mm, hmm, hm20⟩ : ∃ n : Nat, (if (20 : Int) < mx then 20 else mx) = (n : Int) ∧ n ≤ 20 := ⟨(if (20 : Int) < mx then 20 else mx).toNat, by split <;> omega, by split <;> omega⟩
             rcases Decidable.em ((mm : Int) = partsC m.t) with heq | hneq
             · have hlen4 : (((List.replicate mm (0 : Int)).length : Int) = partsR m.t) := by rw [List.length_replicate, partsR_eq _ hmf]; exact heq
               refine sg0 [.p 1, .a (.v (.int .i64 (if (0 : Int) > pt then 0 else pt)) (.int .i64 mx) (congrArg (Value.int .i64) hmx)), .a (.v (.int .i64 (if (20 : Int) < mx then 20 else mx)) (.int .i64 (mm : Int)) (congrArg (Value.int .i64) hmm))] O886 fun w887 O888 => ?_
               refine gMake (.tmp 170) (.tmp 170) 29 O888 3 mm (by omega) fun b889 w890 O891 => ?_
               refine sg0 [.p 1, .a (.r 6), .p 2] O891 fun w892 O893 => ?_
               obtain ⟨A4, h4, x4, no4, hr4⟩ : ∃ A' h' y no, readC A3 0 S0 K p ⟨0, 0, E0, R0, Q0, ⟨ck, hh, ⟨cc, cb, cn⟩⟩⟩ (List.replicate mm 0) = (A', h', y, no) := ⟨_, _, _, _, rfl⟩
               rcases Decidable.em (no4 = 0) with h894 | h894
               · subst h894
                 refine gS (readOk (msg := (List.replicate mm (0 : Int))) (mB := (some ⟨b889, 0, none⟩)) (md := mm) (r := r2) O893 1 (by kernel_rfl) 10 (by kernel_rfl) (hasShk_shk (pvx a0h c0h a1h c1h amh cmh p) p bkh dkh K) hfit (by decide) hright (.inl rfl) (Int.le_refl _) (hI.p7 hm) hkl (hI.u64 (by decide)) (by simp; omega) (kept2_thing 0 (by kernel_rfl) (by decide) (by decide) (rowI_holds (B := (some ⟨b889, 0, none⟩)) (d := mm) (l := (List.replicate mm (0 : Int))))) hr4) fun w895 O896 => ?_
                 refine sg1 [.p 4, .n [], .s 0 [], .p 5, .a (.r 20)] O896 fun b898 w899 O900 => ?_
                 refine gi (args := #[.agg #[.string (strO p.name), .slice a0 p.pre0.length c0, .slice a1 p.pre1.length c1, .slice am p.msgs.length cm]]) Tryz.func28 O900 fun O900i => ?_
                 refine sg1 [.n [], .p 2, .a (.r 0), .a (.i _ mb mq p.msgs.length 0 hA hpos), .p 1] O900i fun b901 w902 O903 => ?_
                 refine gx [.cell mb (mq + 0 * 2 + 1) (.slice D m.t.length d)] O903 ⟨(hcell _ O903.below).2, trivial⟩ fun O904 => ?_
                 refine sg0 [.a (.r 0)] O904 fun w905 O906 => ?_
                 refine gi (args := #[.slice D m.t.length d]) Tryz.func44 O906 fun O906i => ?_
                 refine sg0 [.p 2] O906i fun w907 O908 => ?_
                 refine gB O908 (refPartsE (c := d) (hD.below O908.below) (by omega)) fun w909 O910 => ?_
                 refine sg0 [.p 1] O910 fun w912 O913 => ?_
                 refine gir [] O913 fun O914 => ?_
                 refine sg0 [.p 1] O914 fun w915 O916 => ?_
                 refine gir [] O916 fun O917 => ?_
                 refine sg0 [.a (bT (bne_f hlen4)), .p 5] O917 fun w918 O919 => ?_
                 refine gU (args := #[]) (awake12E O919 henv) fun w920 O921 => ?_
                 refine sg0 [.p 1] O921 fun w923 O924 => ?_
                 exact gret [] O924 (⟨rfl, O924.below⟩)
               · refine gS (readBad (readOk (msg := (List.replicate mm (0 : Int))) (mB := (some ⟨b889, 0, none⟩)) (md := mm) (r := r2) O893 1 (by kernel_rfl) 10 (by kernel_rfl) (hasShk_shk (pvx a0h c0h a1h c1h amh cmh p) p bkh dkh K) hfit (by decide) hright (.inl rfl) (Int.le_refl _) (hI.p7 hm) hkl (hI.u64 (by decide)) (by simp; omega) (kept2_thing 0 (by kernel_rfl) (by decide) (by decide) (rowI_holds (B := (some ⟨b889, 0, none⟩)) (d := mm) (l := (List.replicate mm (0 : Int))))) hr4) h894) fun w925 O926 => ?_
                 refine sg1 [.p 4, .n [], .s 0 [], .p 5, .a (.r 20)] O926 fun b928 w929 O930 => ?_
                 refine gi (args := #[.agg #[.string (strO p.name), .slice a0 p.pre0.length c0, .slice a1 p.pre1.length c1, .slice am p.msgs.length cm]]) Tryz.func28 O930 fun O930i => ?_
                 refine sg1 [.n [], .p 2, .a (.r 0), .a (.i _ mb mq p.msgs.length 0 hA hpos), .p 1] O930i fun b931 w932 O933 => ?_
                 refine gx [.cell mb (mq + 0 * 2 + 1) (.slice D m.t.length d)] O933 ⟨(hcell _ O933.below).2, trivial⟩ fun O934 => ?_
                 refine sg0 [.a (.r 0)] O934 fun w935 O936 => ?_
                 refine gi (args := #[.slice D m.t.length d]) Tryz.func44 O936 fun O936i => ?_
                 refine sg0 [.p 2] O936i fun w937 O938 => ?_
                 refine gB O938 (refPartsE (c := d) (hD.below O938.below) (by omega)) fun w939 O940 => ?_
                 refine sg0 [.p 1] O940 fun w942 O943 => ?_
                 refine gir [] O943 fun O944 => ?_
                 refine sg0 [.p 1] O944 fun w945 O946 => ?_
                 refine gir [] O946 fun O947 => ?_
                 refine sg0 [.a (bT (bne_f hlen4)), .p 5] O947 fun w948 O949 => ?_
                 refine gU (args := #[]) (awake12E O949 henv) fun w950 O951 => ?_
                 refine sg0 [.p 1] O951 fun w953 O954 => ?_
                 exact gret [] O954 (⟨rfl, O954.below⟩)
             · have hlen4 : ¬ (((List.replicate mm (0 : Int)).length : Int) = partsR m.t) := by rw [List.length_replicate, partsR_eq _ hmf]; exact hneq
               refine sg0 [.p 1, .a (.v (.int .i64 (if (0 : Int) > pt then 0 else pt)) (.int .i64 mx) (congrArg (Value.int .i64) hmx)), .a (.v (.int .i64 (if (20 : Int) < mx then 20 else mx)) (.int .i64 (mm : Int)) (congrArg (Value.int .i64) hmm))] O886 fun w955 O956 => ?_
               refine gMake (.tmp 170) (.tmp 170) 29 O956 3 mm (by omega) fun b957 w958 O959 => ?_
               refine sg0 [.p 1, .a (.r 6), .p 2] O959 fun w960 O961 => ?_
               obtain ⟨A4, h4, x4, no4, hr4⟩ : ∃ A' h' y no, readC A3 0 S0 K p ⟨0, 0, E0, R0, Q0, ⟨ck, hh, ⟨cc, cb, cn⟩⟩⟩ (List.replicate mm 0) = (A', h', y, no) := ⟨_, _, _, _, rfl⟩
               obtain rfl : no4 = 7 := readC_parts (has_first ok3) (by show ¬ (p.msgs.length : Int) ≤ 0; omega) hsd0 hr4 (by show (mm : Int) ≠ partsC (toks p 0); rw [ht0]; exact hneq)
               refine gS (readBad (readOk (msg := (List.replicate mm (0 : Int))) (mB := (some ⟨b957, 0, none⟩)) (md := mm) (r := r2) O961 1 (by kernel_rfl) 10 (by kernel_rfl) (hasShk_shk (pvx a0h c0h a1h c1h amh cmh p) p bkh dkh K) hfit (by decide) hright (.inl rfl) (Int.le_refl _) (hI.p7 hm) hkl (hI.u64 (by decide)) (by simp; omega) (kept2_thing 0 (by kernel_rfl) (by decide) (by decide) (rowI_holds (B := (some ⟨b957, 0, none⟩)) (d := mm) (l := (List.replicate mm (0 : Int))))) hr4) (by decide)) fun w962 O963 => ?_
               refine sg1 [.p 4, .n [], .s 0 [], .p 5, .a (.r 20)] O963 fun b965 w966 O967 => ?_
               refine gi (args := #[.agg #[.string (strO p.name), .slice a0 p.pre0.length c0, .slice a1 p.pre1.length c1, .slice am p.msgs.length cm]]) Tryz.func28 O967 fun O967i => ?_
               refine sg1 [.n [], .p 2, .a (.r 0), .a (.i _ mb mq p.msgs.length 0 hA hpos), .p 1] O967i fun b968 w969 O970 => ?_
               refine gx [.cell mb (mq + 0 * 2 + 1) (.slice D m.t.length d)] O970 ⟨(hcell _ O970.below).2, trivial⟩ fun O971 => ?_
               refine sg0 [.a (.r 0)] O971 fun w972 O973 => ?_
               refine gi (args := #[.slice D m.t.length d]) Tryz.func44 O973 fun O973i => ?_
               refine sg0 [.p 2] O973i fun w974 O975 => ?_
               refine gB O975 (refPartsE (c := d) (hD.below O975.below) (by omega)) fun w976 O977 => ?_
               refine sg0 [.p 1] O977 fun w979 O980 => ?_
               refine gir [] O980 fun O981 => ?_
               refine sg0 [.p 1] O981 fun w982 O983 => ?_
               refine gir [] O983 fun O984 => ?_
               refine sg0 [.a (bT (bne_t hlen4)), .p 5] O984 fun w985 O986 => ?_
               refine gU (args := #[]) (awake12E O986 henv) fun w987 O988 => ?_
               refine sg0 [.p 1] O988 fun w990 O991 => ?_
               exact gret [] O991 (⟨rfl, O991.below⟩)
end Go.Proofs.YtikimmgileffgaaGreatDoor
