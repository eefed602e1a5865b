/- Packed by packn.py: LawB, Rw. -/
import Derived.Test.YtikimmgileffgaaGreatDoorQk27
import Derived.Test.YtikimmgileffgaaGreatDoorQk28
import Derived.Test.YtikimmgileffgaaGreatDoorQk02
/- Law 12: arenas. Printed by s_law12b.py. -/
section
namespace Go.Proofs.YtikimmgileffgaaGreatDoor
open Go.RowKit
def twoV (t : Two) (r g0 d0 g1 d1 : Nat) (B0 : Option Addr) (e0 : Nat) (B1 : Option Addr) (e1 : Nat) (nB : Option Addr) (m nd : Nat) : Value := .tuple #[.pointer (some ⟨r, 0, none⟩), .agg #[.int .i64 2000, .slice nB m nd], .agg #[.slice (some ⟨g0, 0, none⟩) 14 d0, .slice (some ⟨g1, 0, none⟩) 14 d1], .agg #[.int .i64 1, .int .i64 2, .int .i64 t.rs0, .int .i64 t.re0, .slice B0 t.k0.length e0, .int .i64 15, .int .i64 16, .int .i64 t.rs1, .int .i64 t.re1, .slice B1 t.k1.length e1], .bool true]
def noTwo : Value := .tuple #[.pointer none, .agg #[.int .i64 0, .slice none 0 0], .agg #[.slice none 0 0, .slice none 0 0], .agg #[.int .i64 0, .int .i64 0, .int .i64 0, .int .i64 0, .slice none 0 0, .int .i64 0, .int .i64 0, .int .i64 0, .int .i64 0, .slice none 0 0], .bool false]
def twoT (t : Two) (r g0 d0 g1 d1 : Nat) (B0 : Option Addr) (e0 : Nat) (B1 : Option Addr) (e1 : Nat) : List Thing := [arena r t.A, rowT 3 1 (.slice (some ⟨g0, 0, none⟩) 14 d0) 14 (intsV s100), rowT 3 1 (.slice (some ⟨g1, 0, none⟩) 14 d1) 14 (intsV s200), rowT 3 1 (.slice B0 t.k0.length e0) t.k0.length (intsV t.k0), rowT 3 1 (.slice B1 t.k1.length e1) t.k1.length (intsV t.k1)]
theorem fewX {w0 w : World} {M : List Thing} {a0 a1 am : Option Addr} {c0 c1 cm : Nat} {p : Pat} {fw : Bool} (O : Own w0 w M) (hp : PatIn w (Old w) (pvx a0 c0 a1 c1 am cm p) p) (hfit : PatFits p) (hf : fewP p = fw) :
    Calls Tryz.prog 69 #[.agg #[.string (strO p.name), .slice a0 p.pre0.length c0, .slice a1 p.pre1.length c1, .slice am p.msgs.length cm]] w fun e' w' => e' = .returned (.bool fw) ∧ Own w0 w' M :=
  (fewE hp hfit).mono fun _ _ ⟨h, hb⟩ => ⟨by rw [← hf]; exact h, O.call hb⟩
set_option warningAsError false in
set_option maxRecDepth 100000 in
set_option maxHeartbeats 8000000 in
theorem arenasE {w : World} {a0 a1 am uB : Option Addr} {c0 c1 cm ud : Nat} {p : Pat} {us : List Int} {lim ams chg : Int} {fw : Bool} (hp : PatIn w (Old w) (pvx a0 c0 a1 c1 am cm p) p) (hfit : PatFits p) (hfew : fewP p = fw) (hU : Holds w uB (u64V us)) (hus : ∀ u ∈ us, U64 u) :
    Calls Tryz.prog 19 #[.agg #[.string (strO p.name), .slice a0 p.pre0.length c0, .slice a1 p.pre1.length c1, .slice am p.msgs.length cm, .slice uB us.length ud, .int .i64 lim, .int .u8 ams, .int .u8 chg]] w fun e' w' => (fw = true ∧ us.length ≤ 10 ∧ ∃ r g0 d0 g1 d1 B0 e0 B1 e1 nB m nd, e' = .returned (twoV (twoC us) r g0 d0 g1 d1 B0 e0 B1 e1 nB m nd) ∧ Own w w' (twoT (twoC us) r g0 d0 g1 d1 B0 e0 B1 e1)) ∨ ((fw = false ∨ 10 < us.length) ∧ e' = .returned noTwo ∧ Below w.heap.size w w') := by
 have O0 := Own.start w
 replace O0 : Own w w (List.map Ent.t []) := O0
 obtain ⟨A0, hA0⟩ : ∃ A, A = newAr 2000 := ⟨_, rfl⟩
 obtain ⟨A1, hA1⟩ : ∃ A, A = arS0 := ⟨_, rfl⟩
 obtain ⟨A2, hA2⟩ : ∃ A, A = arS1 := ⟨_, rfl⟩
 refine gent O0 Tryz.func19 ?_
 refine sg4 [.n [], .p 1, .n [], .n [], .n [], .p 1] O0 fun b1 b2 b3 b4 w5 O6 => ?_
 refine gc (args := #[.int .i64 2000]) (newEA O6 hA0) ?_
 rintro e9 w7 ⟨r, rfl, O8⟩
 refine gr O8.mcons fun O8 => ?_
 refine sg2 [.p 1, .n [], .n [], .p 4, .a (.r 6), .p 1] O8 fun b10 b11 w12 O13 => ?_
 rcases Bool.eq_false_or_eq_true (decide ((us.length : Int) > 10)) with h14 | h14
 · have h14p : (10 < (us.length : Int)) := by simpa only [decide_eq_true_eq, decide_eq_false_iff_not] using h14
   refine sg0 [.a (bT h14), .p 8, .d [0, 1], .qs [0], .q 1 (.r 1), .q 2 (.r 0), .qs [3], .o 4, .s 5 [0, 1], .o 5, .s 4 [0, 1], .o 6, .s 3 [0, 1], .qs [7], .z] O13 fun w15 O16 => ?_
   exact gret [0, 5, 4, 3] O16 (.inr ⟨by first | (left; assumption) | (right; omega), rfl, O16.below⟩)
 · have h14p : ¬ (10 < (us.length : Int)) := by simpa only [decide_eq_true_eq, decide_eq_false_iff_not] using h14
   refine sg0 [.a (bT h14), .p 3, .a (.r 6)] O13 fun w17 O18 => ?_
   refine gU (args := #[.agg #[.string (strO p.name), .slice a0 p.pre0.length c0, .slice a1 p.pre1.length c1, .slice am p.msgs.length cm]]) (fewX O18 (hp.below O18.below) hfit hfew) fun w19 O20 => ?_
   rcases Bool.eq_false_or_eq_true (fw) with h22 | h22
   · refine sg0 [.a (bN h22), .p 3, .u 2, .p 6] O20 fun w23 O24 => ?_
     refine gc (args := #[.pointer (some ⟨r, 0, none⟩), .int .i64 0]) (secretsE0 (A := A0) (A' := A1) (l' := s100) O24 2 (by kernel_rfl) (by rw [hA0, hA1]; exact secS0)) ?_
     rintro e27 w25 ⟨B0, d0, rfl, O26⟩
     refine gr O26.mconsS fun O26 => ?_
     obtain ⟨g0, rfl⟩ := O26.rowB1 (i := 0) (el := 3) (size := 1) (n := s100.length) (d := d0) (B := B0) (xs := intsV s100) (by kernel_rfl) (by decide)
     refine gL 0 (.row 3 1 g0 14 d0 [.int .i64 1, .int .i64 2, .int .i64 3, .int .i64 4, .int .i64 5, .int .i64 6, .int .i64 7, .int .i64 8, .int .i64 9, .int .i64 10, .int .i64 11, .int .i64 12, .int .i64 13, .int .i64 14]) O26 fun O28 => ?_
     refine sg0 [.p 11, .s 2 [], .d [0], .qs [0, 1, 2, 3], .q 4 (.r 0), .qs [5, 6], .q 7 (.r 0), .qs [8, 9], .o 10, .s 1 [0], .qs [11, 12], .o 13, .s 1 [0], .z, .p 8] O28 fun w29 O30 => ?_
     refine gc (args := #[.pointer (some ⟨r, 0, none⟩), .int .i64 1]) (secretsE1 (A := A1) (A' := A2) (l' := s200) O30 3 (by kernel_rfl) (by rw [hA1, hA2]; exact secS1)) ?_
     rintro e33 w31 ⟨B1, d1, rfl, O32⟩
     refine gr O32.mconsS fun O32 => ?_
     obtain ⟨g1, rfl⟩ := O32.rowB1 (i := 0) (el := 3) (size := 1) (n := s200.length) (d := d1) (B := B1) (xs := intsV s200) (by kernel_rfl) (by decide)
     refine gL 0 (.row 3 1 g1 14 d1 [.int .i64 15, .int .i64 16, .int .i64 17, .int .i64 18, .int .i64 19, .int .i64 20, .int .i64 21, .int .i64 22, .int .i64 23, .int .i64 24, .int .i64 25, .int .i64 26, .int .i64 27, .int .i64 28]) O32 fun O34 => ?_
     refine sg0 [.p 11, .s 3 [], .d [0], .qs [0, 1, 2, 3], .q 4 (.r 0), .qs [5, 6], .q 7 (.r 0), .qs [8, 9], .o 10, .s 2 [0], .qs [11, 12], .o 13, .s 2 [0], .z, .p 5, .u 2, .p 9, .a (.r 3), .p 1, .a (.r 0), .p 1] O34 fun w35 O36 => ?_
     obtain ⟨A37, y38, e39, hm40⟩ : ∃ A37 y38 e39, mk A2 ⟨2, 0, 15, 0, 0⟩ = (A37, y38, e39) := ⟨_, _, _, rfl⟩
     refine gS (mkE (r := r) O36 4 (by kernel_rfl) (by decide) (by decide) hm40) fun w41 O42 => ?_
     refine sg0 [.p 5, .s 2 [], .p 5, .a (.r 3), .p 1, .a (.r 0), .p 1] O42 fun w44 O45 => ?_
     obtain ⟨A46, y47, e48, hm49⟩ : ∃ A46 y47 e48, mk A37 ⟨2, 0, 16, 0, 0⟩ = (A46, y47, e48) := ⟨_, _, _, rfl⟩
     refine gS (mkE (r := r) O45 4 (by kernel_rfl) (by decide) (by decide) hm49) fun w50 O51 => ?_
     refine sg0 [.p 5, .s 2 [], .p 1, .a (.r 8), .p 2] O51 fun w53 O54 => ?_
     refine gl (fun (zz : Nat × Ar × List Int × Option Addr × Nat) => match zz with | (k, Av0, pl0, pB0, pd0) => [(1, .pointer (some ⟨b1, 0, none⟩)), (2, .pointer none), (3, .pointer (some ⟨b2, 0, none⟩)), (4, .pointer (some ⟨b3, 0, none⟩)), (5, .pointer (some ⟨b4, 0, none⟩)), (6, .bool false), (7, .pointer (some ⟨r, 0, none⟩)), (8, .pointer (some ⟨b10, 0, none⟩)), (9, .pointer (some ⟨b11, 0, none⟩)), (13, .int .i64 0), (70, .int .i64 0), (104, .slice uB us.length ud), (105, .int .i64 (us.length : Int)), (106, .int .i64 (k : Int))]) (fun (zz : Nat × Ar × List Int × Option Addr × Nat) => match zz with | (k, Av0, pl0, pB0, pd0) => [.thing (rowT 3 1 (.slice pB0 pl0.length pd0) pl0.length (intsV pl0)), .row 3 1 g1 14 d1 [.int .i64 15, .int .i64 16, .int .i64 17, .int .i64 18, .int .i64 19, .int .i64 20, .int .i64 21, .int .i64 22, .int .i64 23, .int .i64 24, .int .i64 25, .int .i64 26, .int .i64 27, .int .i64 28], .row 3 1 g0 14 d0 [.int .i64 1, .int .i64 2, .int .i64 3, .int .i64 4, .int .i64 5, .int .i64 6, .int .i64 7, .int .i64 8, .int .i64 9, .int .i64 10, .int .i64 11, .int .i64 12, .int .i64 13, .int .i64 14], .blk b11 (.cells #[.int .i64 1, .int .i64 2, .int .i64 y38, .int .i64 y47, .slice pB0 pl0.length pd0, .int .i64 15, .int .i64 16, .int .i64 0, .int .i64 0, .slice none 0 0] 56), .blk b10 (.cells #[.slice (some ⟨g0, 0, none⟩) 14 d0, .slice (some ⟨g1, 0, none⟩) 14 d1] 30), .thing (arena r Av0), .blk b4 (.cells #[.int .i64 0, .int .i64 0, .int .i64 0, .int .i64 0, .slice none 0 0, .int .i64 0, .int .i64 0, .int .i64 0, .int .i64 0, .slice none 0 0] 56), .blk b3 (.cells #[.slice none 0 0, .slice none 0 0] 30), .blk b2 (.cells #[.int .i64 0, .slice none 0 0] 55), .blk b1 (.cells #[.string (strO p.name), .slice a0 p.pre0.length c0, .slice a1 p.pre1.length c1, .slice am p.msgs.length cm, .slice uB us.length ud, .int .i64 lim, .int .u8 ams, .int .u8 chg] 52)]) (fun (zz : Nat × Ar × List Int × Option Addr × Nat) w => match zz with | (k, Av0, pl0, pB0, pd0) => k ≤ us.length ∧ pskL (us.drop k) Av0 pl0 = pskL us A46 [] ∧ pl0.length ≤ k) (fun (zz : Nat × Ar × List Int × Option Addr × Nat) => match zz with | (k, Av0, pl0, pB0, pd0) => us.length - k) (0, A46, [], none, 0) (((O54.as 0).nilRow 3 1)) ⟨(Nat.zero_le _), rfl, (Nat.le_refl _)⟩ ?_
     rintro M57 ⟨k, Av0, pl0, pB0, pd0⟩ w55 hM58 O56 ⟨hk0, hq, hl2⟩
     rcases Bool.eq_false_or_eq_true (decide ((k : Int) < (us.length : Int))) with h59 | h59
     · have h59p : ((k : Int) < (us.length : Int)) := by simpa only [decide_eq_true_eq, decide_eq_false_iff_not] using h59
       have hk : k + 1 ≤ us.length := by have := h59p; omega
       obtain ⟨u, hu⟩ : ∃ u, us[k]? = some u := ⟨_, List.getElem?_eq_getElem hk⟩
       have hu0 := hus u (List.mem_of_getElem? hu)
       have hut := tmod_le hu0.1
       obtain ⟨ub, uq, hUB, hucell⟩ := holdsU_at hU hu
       have hdrop := drop_at hu
       refine sg0 [.a (bT h59), .p 1, .a (.i _ ub uq us.length k hUB hk)] O56 fun w60 O61 => ?_
       refine gx [.cell ub (uq + k * 1) (.int .u64 u)] O61 ⟨(hucell _ O61.below), trivial⟩ fun O62 => ?_
       refine sg0 [.a (.r 0), .p 4, .a (uW (1000 + (Int.tmod u 1000))), .p 1] O62 fun w63 O64 => ?_
       obtain ⟨A65, y66, e67, hm68⟩ : ∃ A65 y66 e67, mk Av0 ⟨1, 1000 + (Int.tmod u 1000), 0, 0, 0⟩ = (A65, y66, e67) := ⟨_, _, _, rfl⟩
       refine gS (mkE (r := r) O64 5 (by kernel_rfl) (by omega) (by omega) hm68) fun w69 O70 => ?_
       refine sg1 [.p 9, .a (.r 3), .p 1, .n []] O70 fun b72 w73 O74 => ?_
       refine gcatI (.tmp 123) (.tmp 125) 29 O74 3 pl0 pB0 pd0 1 b72 0 y66 3 1 (by first | omega | (simp; omega)) fun B75 d76 w77 O78 => ?_
       refine sg0 [.p 2, .s 4 [], .a (iW ((k : Int) + 1)), .p 1] O78 fun w79 O80 => ?_
       exact gz _ fun a F => hM58 a _ (k + 1, A65, pl0 ++ [y66], B75, d76) F (O80.as 1) ⟨hk, (by rw [← hq, hdrop]; simp [pskL, hm68]), (by simp; omega)⟩ (show us.length - (k + 1) < us.length - k by omega)
     · have h59p : ¬ ((k : Int) < (us.length : Int)) := by simpa only [decide_eq_true_eq, decide_eq_false_iff_not] using h59
       have hq20 : pskL us A46 [] = (Av0, pl0) := by rw [← hq, List.drop_eq_nil_of_le (by have := h59p; omega)]; rfl
       refine sg0 [.a (bT h59), .p 12, .a (.r 4), .p 1, .a (.r 2), .p 1] O56 fun w81 O82 => ?_
       obtain ⟨A83, y84, e85, hm86⟩ : ∃ A83 y84 e85, mk Av0 ⟨2, 0, 1, 0, 0⟩ = (A83, y84, e85) := ⟨_, _, _, rfl⟩
       refine gS (mkE (r := r) O82 5 (by kernel_rfl) (by decide) (by decide) hm86) fun w87 O88 => ?_
       refine sg0 [.p 5, .s 3 [], .p 5, .a (.r 4), .p 1, .a (.r 2), .p 1] O88 fun w90 O91 => ?_
       obtain ⟨A92, y93, e94, hm95⟩ : ∃ A92 y93 e94, mk A83 ⟨2, 0, 2, 0, 0⟩ = (A92, y93, e94) := ⟨_, _, _, rfl⟩
       refine gS (mkE (r := r) O91 5 (by kernel_rfl) (by decide) (by decide) hm95) fun w96 O97 => ?_
       refine sg0 [.p 5, .s 3 [], .p 1, .a (.r 9), .p 2] O97 fun w99 O100 => ?_
       refine gl (fun (zz : Nat × Ar × List Int × Option Addr × Nat) => match zz with | (k, Av1, pl1, pB1, pd1) => [(1, .pointer (some ⟨b1, 0, none⟩)), (2, .pointer none), (3, .pointer (some ⟨b2, 0, none⟩)), (4, .pointer (some ⟨b3, 0, none⟩)), (5, .pointer (some ⟨b4, 0, none⟩)), (6, .bool false), (7, .pointer (some ⟨r, 0, none⟩)), (8, .pointer (some ⟨b10, 0, none⟩)), (9, .pointer (some ⟨b11, 0, none⟩)), (13, .int .i64 1), (70, .int .i64 1), (104, .slice uB us.length ud), (105, .int .i64 (us.length : Int)), (106, .int .i64 (k : Int))]) (fun (zz : Nat × Ar × List Int × Option Addr × Nat) => match zz with | (k, Av1, pl1, pB1, pd1) => [.thing (rowT 3 1 (.slice pB1 pl1.length pd1) pl1.length (intsV pl1)), .thing (rowT 3 1 (.slice pB0 pl0.length pd0) pl0.length (intsV pl0)), .row 3 1 g1 14 d1 [.int .i64 15, .int .i64 16, .int .i64 17, .int .i64 18, .int .i64 19, .int .i64 20, .int .i64 21, .int .i64 22, .int .i64 23, .int .i64 24, .int .i64 25, .int .i64 26, .int .i64 27, .int .i64 28], .row 3 1 g0 14 d0 [.int .i64 1, .int .i64 2, .int .i64 3, .int .i64 4, .int .i64 5, .int .i64 6, .int .i64 7, .int .i64 8, .int .i64 9, .int .i64 10, .int .i64 11, .int .i64 12, .int .i64 13, .int .i64 14], .blk b11 (.cells #[.int .i64 1, .int .i64 2, .int .i64 y38, .int .i64 y47, .slice pB0 pl0.length pd0, .int .i64 15, .int .i64 16, .int .i64 y84, .int .i64 y93, .slice pB1 pl1.length pd1] 56), .blk b10 (.cells #[.slice (some ⟨g0, 0, none⟩) 14 d0, .slice (some ⟨g1, 0, none⟩) 14 d1] 30), .thing (arena r Av1), .blk b4 (.cells #[.int .i64 0, .int .i64 0, .int .i64 0, .int .i64 0, .slice none 0 0, .int .i64 0, .int .i64 0, .int .i64 0, .int .i64 0, .slice none 0 0] 56), .blk b3 (.cells #[.slice none 0 0, .slice none 0 0] 30), .blk b2 (.cells #[.int .i64 0, .slice none 0 0] 55), .blk b1 (.cells #[.string (strO p.name), .slice a0 p.pre0.length c0, .slice a1 p.pre1.length c1, .slice am p.msgs.length cm, .slice uB us.length ud, .int .i64 lim, .int .u8 ams, .int .u8 chg] 52)]) (fun (zz : Nat × Ar × List Int × Option Addr × Nat) w => match zz with | (k, Av1, pl1, pB1, pd1) => k ≤ us.length ∧ pskL (us.drop k) Av1 pl1 = pskL us A92 [] ∧ pl1.length ≤ k) (fun (zz : Nat × Ar × List Int × Option Addr × Nat) => match zz with | (k, Av1, pl1, pB1, pd1) => us.length - k) (0, A92, [], none, 0) (((O100.as 0).nilRow 3 1)) ⟨(Nat.zero_le _), rfl, (Nat.le_refl _)⟩ ?_
       rintro M103 ⟨k, Av1, pl1, pB1, pd1⟩ w101 hM104 O102 ⟨hk0, hq, hl2⟩
       rcases Bool.eq_false_or_eq_true (decide ((k : Int) < (us.length : Int))) with h105 | h105
       · have h105p : ((k : Int) < (us.length : Int)) := by simpa only [decide_eq_true_eq, decide_eq_false_iff_not] using h105
         have hk : k + 1 ≤ us.length := by have := h105p; omega
         obtain ⟨u, hu⟩ : ∃ u, us[k]? = some u := ⟨_, List.getElem?_eq_getElem hk⟩
         have hu0 := hus u (List.mem_of_getElem? hu)
         have hut := tmod_le hu0.1
         obtain ⟨ub, uq, hUB, hucell⟩ := holdsU_at hU hu
         have hdrop := drop_at hu
         refine sg0 [.a (bT h105), .p 1, .a (.i _ ub uq us.length k hUB hk)] O102 fun w106 O107 => ?_
         refine gx [.cell ub (uq + k * 1) (.int .u64 u)] O107 ⟨(hucell _ O107.below), trivial⟩ fun O108 => ?_
         refine sg0 [.a (.r 0), .p 4, .a (uW (1000 + (Int.tmod u 1000))), .p 1] O108 fun w109 O110 => ?_
         obtain ⟨A111, y112, e113, hm114⟩ : ∃ A111 y112 e113, mk Av1 ⟨1, 1000 + (Int.tmod u 1000), 0, 0, 0⟩ = (A111, y112, e113) := ⟨_, _, _, rfl⟩
         refine gS (mkE (r := r) O110 6 (by kernel_rfl) (by omega) (by omega) hm114) fun w115 O116 => ?_
         refine sg1 [.p 9, .a (.r 4), .p 1, .n []] O116 fun b118 w119 O120 => ?_
         refine gcatI (.tmp 123) (.tmp 125) 29 O120 3 pl1 pB1 pd1 1 b118 0 y112 3 1 (by first | omega | (simp; omega)) fun B121 d122 w123 O124 => ?_
         refine sg0 [.p 2, .s 5 [], .a (iW ((k : Int) + 1)), .p 1] O124 fun w125 O126 => ?_
         exact gz _ fun a F => hM104 a _ (k + 1, A111, pl1 ++ [y112], B121, d122) F (O126.as 1) ⟨hk, (by rw [← hq, hdrop]; simp [pskL, hm114]), (by simp; omega)⟩ (show us.length - (k + 1) < us.length - k by omega)
       · have h105p : ¬ ((k : Int) < (us.length : Int)) := by simpa only [decide_eq_true_eq, decide_eq_false_iff_not] using h105
         have hq21 : pskL us A92 [] = (Av1, pl1) := by rw [← hq, List.drop_eq_nil_of_le (by have := h105p; omega)]; rfl
         refine sg1 [.a (bT h105), .p 6, .n [], .s 0 [], .p 1] O102 fun b127 w128 O129 => ?_
         refine gU (lenAE (r := r) O129 7 (by kernel_rfl) (A := Av1)) fun w130 O131 => ?_
         refine sg0 [.p 1] O131 fun w133 O134 => ?_
         have hroom := O134.room (r := r) (A := Av1) 7 (by kernel_rfl)
         refine gl (fun (zz : Nat × Nat × Option Addr × Nat × List Value) => match zz with | (k, m, nB, nd_, xs) => [(2, .pointer none), (3, .pointer (some ⟨b2, 0, none⟩)), (4, .pointer (some ⟨b3, 0, none⟩)), (5, .pointer (some ⟨b4, 0, none⟩)), (6, .bool false), (7, .pointer (some ⟨r, 0, none⟩)), (8, .pointer (some ⟨b10, 0, none⟩)), (9, .pointer (some ⟨b11, 0, none⟩)), (18, .pointer (some ⟨b127, 0, none⟩)), (133, .int .i64 (Av1.l.length : Int)), (134, .int .i64 (k : Int))]) (fun (zz : Nat × Nat × Option Addr × Nat × List Value) => match zz with | (k, m, nB, nd_, xs) => [.thing (rowT 170 5 (.slice nB m nd_) m xs), .blk b127 (.cells #[.int .i64 2000, .slice nB m nd_] 55), .thing (rowT 3 1 (.slice pB1 pl1.length pd1) pl1.length (intsV pl1)), .thing (rowT 3 1 (.slice pB0 pl0.length pd0) pl0.length (intsV pl0)), .row 3 1 g1 14 d1 [.int .i64 15, .int .i64 16, .int .i64 17, .int .i64 18, .int .i64 19, .int .i64 20, .int .i64 21, .int .i64 22, .int .i64 23, .int .i64 24, .int .i64 25, .int .i64 26, .int .i64 27, .int .i64 28], .row 3 1 g0 14 d0 [.int .i64 1, .int .i64 2, .int .i64 3, .int .i64 4, .int .i64 5, .int .i64 6, .int .i64 7, .int .i64 8, .int .i64 9, .int .i64 10, .int .i64 11, .int .i64 12, .int .i64 13, .int .i64 14], .blk b11 (.cells #[.int .i64 1, .int .i64 2, .int .i64 y38, .int .i64 y47, .slice pB0 pl0.length pd0, .int .i64 15, .int .i64 16, .int .i64 y84, .int .i64 y93, .slice pB1 pl1.length pd1] 56), .blk b10 (.cells #[.slice (some ⟨g0, 0, none⟩) 14 d0, .slice (some ⟨g1, 0, none⟩) 14 d1] 30), .thing (arena r Av1), .blk b4 (.cells #[.int .i64 0, .int .i64 0, .int .i64 0, .int .i64 0, .slice none 0 0, .int .i64 0, .int .i64 0, .int .i64 0, .int .i64 0, .slice none 0 0] 56), .blk b3 (.cells #[.slice none 0 0, .slice none 0 0] 30), .blk b2 (.cells #[.int .i64 0, .slice none 0 0] 55), .blk b1 (.cells #[.string (strO p.name), .slice a0 p.pre0.length c0, .slice a1 p.pre1.length c1, .slice am p.msgs.length cm, .slice uB us.length ud, .int .i64 lim, .int .u8 ams, .int .u8 chg] 52)]) (fun (zz : Nat × Nat × Option Addr × Nat × List Value) w => match zz with | (k, m, nB, nd_, xs) => k ≤ Av1.l.length ∧ m = k) (fun (zz : Nat × Nat × Option Addr × Nat × List Value) => match zz with | (k, m, nB, nd_, xs) => Av1.l.length - k) (0, 0, none, 0, []) (((O134.as 0).nilRow 170 5)) ⟨(Nat.zero_le _), rfl⟩ ?_
         rintro M137 ⟨k, m, nB, nd_, xs⟩ w135 hM138 O136 ⟨hk0, hmk⟩
         rcases Bool.eq_false_or_eq_true (decide ((k : Int) < (Av1.l.length : Int))) with h139 | h139
         · have h139p : ((k : Int) < (Av1.l.length : Int)) := by simpa only [decide_eq_true_eq, decide_eq_false_iff_not] using h139
           refine sg0 [.a (bT h139), .p 5] O136 fun w140 O141 => ?_
           obtain ⟨ki142, nn143, na144, nb145, nc146, hm148⟩ : ∃ ki142 nn143 na144 nb145 nc146, getNd Av1.l (k : Int) = ⟨ki142, nn143, na144, nb145, nc146⟩ := ⟨_, _, _, _, _, rfl⟩
           obtain ⟨is147, hm149⟩ : ∃ is147, has Av1.l (k : Int) = is147 := ⟨_, rfl⟩
           refine gU (getE (r := r) O141 8 (by kernel_rfl) (k : Int) hm148 hm149) fun w150 O151 => ?_
           refine sg0 [.p 2] O151 fun w153 O154 => ?_
           rcases Bool.eq_false_or_eq_true (is147) with h155 | h155
           · refine sg1 [.a (bT h155), .n [], .s 0 [], .p 1, .d [0], .qs [0], .q 2 (.r 0)] O154 fun b156 w157 O158 => ?_
             refine gA [1, 3] O158 ⟨?_, ?_, trivial⟩
             · intro O159
               refine sg0 [.a (.r 2), .o 3] O159 fun w160 O161 => ?_
               refine gi (args := #[.agg #[.int .i64 ki142, .int .u64 nn143, .int .i64 na144, .int .i64 nb145, .int .i64 nc146]]) Tryz.func72 O161 fun O161i => ?_
               refine sg2 [.n [], .n [], .p 1, .a (.r 1), .p 1, .a (.r 1), .p 1, .a (.r 1), .p 1, .a (.r 1), .p 1, .a (.r 1), .p 1, .s 0 []] O161i fun b162 b163 w164 O165 => ?_
               refine gir (js := [2]) [] O165 fun O166 => ?_
               refine sg1 [.o 4, .n [3], .o 5] O166 fun b167 w168 O169 => ?_
               refine gcat (js := [3]) (.tmp 144) (.tmp 147) 53 O169 170 (.agg #[.int .i64 0, .int .u64 0, .int .i64 0, .int .i64 0, .int .i64 0]) 5 40 nB nd_ m xs 4 (some ⟨b167, 0, none⟩) 1 1 [.int .i64 ki142, .int .u64 nn143, .int .i64 na144, .int .i64 nb145, .int .i64 nc146] (News.block (cs := [.int .i64 ki142, .int .u64 nn143, .int .i64 na144, .int .i64 nb145, .int .i64 nc146]) (t := 170) (fr := (0, 0)) (O169.blk (i := 0) (by kernel_rfl)) rfl) (by omega) (by omega) fun B170 d171 w172 O173 => ?_
               refine sg0 [.qs [6], .o 7, .s 5 [3], .z, .a (iW ((k : Int) + 1)), .p 1] O173 fun w174 O175 => ?_
               exact gz _ fun a F => hM138 a _ (k + 1, m + 1, B170, d171, xs ++ [.int .i64 ki142, .int .u64 nn143, .int .i64 na144, .int .i64 nb145, .int .i64 nc146]) F (O175.as 4) ⟨(by omega), (by omega)⟩ (show Av1.l.length - (k + 1) < Av1.l.length - k by omega)
             · intro O176
               refine gi (args := #[.agg #[.int .i64 ki142, .int .u64 nn143, .int .i64 na144, .int .i64 nb145, .int .i64 nc146]]) Tryz.func72 O176 fun O176i => ?_
               refine sg2 [.n [], .n [], .p 1, .a (.r 1), .p 1, .a (.r 1), .p 1, .a (.r 1), .p 1, .a (.r 1), .p 1, .a (.r 1), .p 1, .s 0 []] O176i fun b177 b178 w179 O180 => ?_
               refine gir (js := [2]) [] O180 fun O181 => ?_
               refine gA [1, 4] O181 ⟨?_, ?_, trivial⟩
               · intro O182
                 refine sg1 [.a (.r 4), .o 4, .n [3], .o 5] O182 fun b183 w184 O185 => ?_
                 refine gcat (js := [3]) (.tmp 144) (.tmp 147) 53 O185 170 (.agg #[.int .i64 0, .int .u64 0, .int .i64 0, .int .i64 0, .int .i64 0]) 5 40 nB nd_ m xs 4 (some ⟨b183, 0, none⟩) 1 1 [.int .i64 ki142, .int .u64 nn143, .int .i64 na144, .int .i64 nb145, .int .i64 nc146] (News.block (cs := [.int .i64 ki142, .int .u64 nn143, .int .i64 na144, .int .i64 nb145, .int .i64 nc146]) (t := 170) (fr := (0, 0)) (O185.blk (i := 0) (by kernel_rfl)) rfl) (by omega) (by omega) fun B186 d187 w188 O189 => ?_
                 refine sg0 [.qs [6], .o 7, .s 5 [3], .z, .a (iW ((k : Int) + 1)), .p 1] O189 fun w190 O191 => ?_
                 exact gz _ fun a F => hM138 a _ (k + 1, m + 1, B186, d187, xs ++ [.int .i64 ki142, .int .u64 nn143, .int .i64 na144, .int .i64 nb145, .int .i64 nc146]) F (O191.as 4) ⟨(by omega), (by omega)⟩ (show Av1.l.length - (k + 1) < Av1.l.length - k by omega)
               · intro O192
                 refine sg1 [.n [3], .o 1, .a (.r 5), .o 5] O192 fun b193 w194 O195 => ?_
                 refine gcat (js := [3]) (.tmp 144) (.tmp 147) 53 O195 170 (.agg #[.int .i64 0, .int .u64 0, .int .i64 0, .int .i64 0, .int .i64 0]) 5 40 nB nd_ m xs 4 (some ⟨b193, 0, none⟩) 1 1 [.int .i64 ki142, .int .u64 nn143, .int .i64 na144, .int .i64 nb145, .int .i64 nc146] (News.block (cs := [.int .i64 ki142, .int .u64 nn143, .int .i64 na144, .int .i64 nb145, .int .i64 nc146]) (t := 170) (fr := (0, 0)) (O195.blk (i := 0) (by kernel_rfl)) rfl) (by omega) (by omega) fun B196 d197 w198 O199 => ?_
                 refine sg0 [.qs [6], .o 7, .s 5 [3], .z, .a (iW ((k : Int) + 1)), .p 1] O199 fun w200 O201 => ?_
                 exact gz _ fun a F => hM138 a _ (k + 1, m + 1, B196, d197, xs ++ [.int .i64 ki142, .int .u64 nn143, .int .i64 na144, .int .i64 nb145, .int .i64 nc146]) F (O201.as 4) ⟨(by omega), (by omega)⟩ (show Av1.l.length - (k + 1) < Av1.l.length - k by omega)
           · refine sg1 [.a (bT h155), .n [], .s 0 [], .p 1, .d [0], .qs [0], .q 2 (.r 0)] O154 fun b202 w203 O204 => ?_
             refine gA [1, 3] O204 ⟨?_, ?_, trivial⟩
             · intro O205
               refine sg0 [.a (.r 2), .o 3] O205 fun w206 O207 => ?_
               refine gi (args := #[.agg #[.int .i64 ki142, .int .u64 nn143, .int .i64 na144, .int .i64 nb145, .int .i64 nc146]]) Tryz.func72 O207 fun O207i => ?_
               refine sg2 [.n [], .n [], .p 1, .a (.r 1), .p 1, .a (.r 1), .p 1, .a (.r 1), .p 1, .a (.r 1), .p 1, .a (.r 1), .p 1, .s 0 []] O207i fun b208 b209 w210 O211 => ?_
               refine gir (js := [2]) [] O211 fun O212 => ?_
               refine sg1 [.o 4, .n [3], .o 5] O212 fun b213 w214 O215 => ?_
               refine gcat (js := [3]) (.tmp 144) (.tmp 147) 53 O215 170 (.agg #[.int .i64 0, .int .u64 0, .int .i64 0, .int .i64 0, .int .i64 0]) 5 40 nB nd_ m xs 4 (some ⟨b213, 0, none⟩) 1 1 [.int .i64 ki142, .int .u64 nn143, .int .i64 na144, .int .i64 nb145, .int .i64 nc146] (News.block (cs := [.int .i64 ki142, .int .u64 nn143, .int .i64 na144, .int .i64 nb145, .int .i64 nc146]) (t := 170) (fr := (0, 0)) (O215.blk (i := 0) (by kernel_rfl)) rfl) (by omega) (by omega) fun B216 d217 w218 O219 => ?_
               refine sg0 [.qs [6], .o 7, .s 5 [3], .z, .a (iW ((k : Int) + 1)), .p 1] O219 fun w220 O221 => ?_
               exact gz _ fun a F => hM138 a _ (k + 1, m + 1, B216, d217, xs ++ [.int .i64 ki142, .int .u64 nn143, .int .i64 na144, .int .i64 nb145, .int .i64 nc146]) F (O221.as 4) ⟨(by omega), (by omega)⟩ (show Av1.l.length - (k + 1) < Av1.l.length - k by omega)
             · intro O222
               refine gi (args := #[.agg #[.int .i64 ki142, .int .u64 nn143, .int .i64 na144, .int .i64 nb145, .int .i64 nc146]]) Tryz.func72 O222 fun O222i => ?_
               refine sg2 [.n [], .n [], .p 1, .a (.r 1), .p 1, .a (.r 1), .p 1, .a (.r 1), .p 1, .a (.r 1), .p 1, .a (.r 1), .p 1, .s 0 []] O222i fun b223 b224 w225 O226 => ?_
               refine gir (js := [2]) [] O226 fun O227 => ?_
               refine gA [1, 4] O227 ⟨?_, ?_, trivial⟩
               · intro O228
                 refine sg1 [.a (.r 4), .o 4, .n [3], .o 5] O228 fun b229 w230 O231 => ?_
                 refine gcat (js := [3]) (.tmp 144) (.tmp 147) 53 O231 170 (.agg #[.int .i64 0, .int .u64 0, .int .i64 0, .int .i64 0, .int .i64 0]) 5 40 nB nd_ m xs 4 (some ⟨b229, 0, none⟩) 1 1 [.int .i64 ki142, .int .u64 nn143, .int .i64 na144, .int .i64 nb145, .int .i64 nc146] (News.block (cs := [.int .i64 ki142, .int .u64 nn143, .int .i64 na144, .int .i64 nb145, .int .i64 nc146]) (t := 170) (fr := (0, 0)) (O231.blk (i := 0) (by kernel_rfl)) rfl) (by omega) (by omega) fun B232 d233 w234 O235 => ?_
                 refine sg0 [.qs [6], .o 7, .s 5 [3], .z, .a (iW ((k : Int) + 1)), .p 1] O235 fun w236 O237 => ?_
                 exact gz _ fun a F => hM138 a _ (k + 1, m + 1, B232, d233, xs ++ [.int .i64 ki142, .int .u64 nn143, .int .i64 na144, .int .i64 nb145, .int .i64 nc146]) F (O237.as 4) ⟨(by omega), (by omega)⟩ (show Av1.l.length - (k + 1) < Av1.l.length - k by omega)
               · intro O238
                 refine sg1 [.n [3], .o 1, .a (.r 5), .o 5] O238 fun b239 w240 O241 => ?_
                 refine gcat (js := [3]) (.tmp 144) (.tmp 147) 53 O241 170 (.agg #[.int .i64 0, .int .u64 0, .int .i64 0, .int .i64 0, .int .i64 0]) 5 40 nB nd_ m xs 4 (some ⟨b239, 0, none⟩) 1 1 [.int .i64 ki142, .int .u64 nn143, .int .i64 na144, .int .i64 nb145, .int .i64 nc146] (News.block (cs := [.int .i64 ki142, .int .u64 nn143, .int .i64 na144, .int .i64 nb145, .int .i64 nc146]) (t := 170) (fr := (0, 0)) (O241.blk (i := 0) (by kernel_rfl)) rfl) (by omega) (by omega) fun B242 d243 w244 O245 => ?_
                 refine sg0 [.qs [6], .o 7, .s 5 [3], .z, .a (iW ((k : Int) + 1)), .p 1] O245 fun w246 O247 => ?_
                 exact gz _ fun a F => hM138 a _ (k + 1, m + 1, B242, d243, xs ++ [.int .i64 ki142, .int .u64 nn143, .int .i64 na144, .int .i64 nb145, .int .i64 nc146]) F (O247.as 4) ⟨(by omega), (by omega)⟩ (show Av1.l.length - (k + 1) < Av1.l.length - k by omega)
         · have h139p : ¬ ((k : Int) < (Av1.l.length : Int)) := by simpa only [decide_eq_true_eq, decide_eq_false_iff_not] using h139
           refine sg0 [.a (bT h139), .p 1, .d [1, 6, 7], .qs [0], .q 1 (.r 0), .q 2 (.r 2), .q 3 (.r 1), .qs [4], .o 5, .s 11 [1, 6, 7], .o 6, .s 10 [1, 6, 7], .o 7, .s 9 [1, 6, 7], .qs [8], .z] O136 fun w248 O249 => ?_
           obtain ⟨t, ht⟩ : ∃ t, twoC us = t := ⟨_, rfl⟩
           have ht0 := ht
           simp only [twoC, ← hA2, hm40, hm49, hm86, hm95, hq20, hq21] at ht0
           subst ht0
           exact gret (v := .tuple #[.pointer (some ⟨r, 0, none⟩), .agg #[.int .i64 2000, .slice nB m nd_], .agg #[.slice (some ⟨g0, 0, none⟩) 14 d0, .slice (some ⟨g1, 0, none⟩) 14 d1], .agg #[.int .i64 1, .int .i64 2, .int .i64 y38, .int .i64 y47, .slice pB0 pl0.length pd0, .int .i64 15, .int .i64 16, .int .i64 y84, .int .i64 y93, .slice pB1 pl1.length pd1], .bool true]) [0, 11, 10, 9] O249 (.inl ⟨by assumption, by omega, r, g0, d0, g1, d1, pB0, pd0, pB1, pd1, nB, m, nd_, by rw [ht]; rfl, by rw [ht]; exact O249.sel [8, 5, 4, 3, 2]⟩)
   · refine sg0 [.a (bN h22), .p 2, .d [0, 1], .qs [0], .q 1 (.r 1), .q 2 (.r 0), .qs [3], .o 4, .s 5 [0, 1], .o 5, .s 4 [0, 1], .o 6, .s 3 [0, 1], .qs [7], .z] O20 fun w250 O251 => ?_
     exact gret [0, 5, 4, 3] O251 (.inr ⟨by first | (left; assumption) | (right; omega), rfl, O251.below⟩)
end Go.Proofs.YtikimmgileffgaaGreatDoor
end
/- The rows of a term, as plain data: what the layer 'code' tells of a ref. No program in sight. -/
section
namespace Go.Proofs.YtikimmgileffgaaGreatDoor
open Go.RowKit

/-- What a node is made of. -/
def kids (n : Nd) : List Int := [n.a, n.b, n.c].take (many n.kind)
theorem kids_mem {n : Nd} {p : Int} (h : p ∈ kids n) : p = n.a ∨ p = n.b ∨ p = n.c := by
  have := List.mem_of_mem_take h; simpa using this
theorem many_le (k : Int) : many k ≤ 3 := by unfold many; (repeat' split) <;> omega
theorem Wf.kid {l : List Nd} (w : Wf l) {x p : Int} (hx : has l x = true) (hp : p ∈ kids (nd l x)) : 0 ≤ p ∧ p < x ∧ has l p = true := by
  have hx0 := has_iff.1 hx
  have hg := getElem?_of_has hx
  have h0 : x ≠ 0 := by
    rintro rfl
    have hz : nd l 0 = Nd.zero := nd_of_getElem? (i := 0) w.head
    rw [hz] at hp
    simp [kids, Nd.zero, many] at hp
  have hpp := w.parts x.toNat _ hg
  have p0 := hpp 0
  have p1 := hpp 1
  have p2 := hpp 2
  simp only [Nd.part, if_true, if_false, Nat.one_ne_zero, show (2 : Nat) ≠ 0 by decide, show (2 : Nat) ≠ 1 by decide] at p0 p1 p2
  have := kids_mem hp
  rw [has_iff]
  rcases this with rfl | rfl | rfl <;> omega
/-- Refs that are there, none twice. -/
structure Refs (l : List Nd) (acc : List Int) : Prop where
  nodup : acc.Nodup
  has : ∀ y ∈ acc, Go.Proofs.YtikimmgileffgaaGreatDoor.has l y = true
theorem Refs.nil (l : List Nd) : Refs l [] := ⟨by simp, fun y h => by simp at h⟩
theorem nodup_length {α : Type} [DecidableEq α] : ∀ (a b : List α), a.Nodup → (∀ y ∈ a, y ∈ b) → a.length ≤ b.length
  | [], b, _, _ => Nat.zero_le _
  | x :: a, b, h, hs => by
    have hx := hs x (by simp)
    have hn := List.nodup_cons.1 h
    have := nodup_length a (b.erase x) hn.2 (fun y hy => (List.mem_erase_of_ne (fun e : y = x => hn.1 (by rw [← e]; exact hy))).2 (hs y (by simp [hy])))
    have hl := List.length_erase_of_mem hx
    have : 0 < b.length := List.length_pos_of_mem hx
    simp only [List.length_cons]; omega
theorem Refs.length {l : List Nd} {acc : List Int} (h : Refs l acc) : acc.length ≤ l.length := by
  have := nodup_length acc ((List.range l.length).map Int.ofNat) h.nodup (fun y hy => by
    have := has_iff.1 (h.has y hy)
    exact List.mem_map.2 ⟨y.toNat, by simp; omega, by simp; omega⟩)
  simpa using this
end Go.Proofs.YtikimmgileffgaaGreatDoor
end
