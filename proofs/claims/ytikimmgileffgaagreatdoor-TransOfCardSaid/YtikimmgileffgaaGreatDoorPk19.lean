/- Packed for this claim by packm.py: SymW, ShE, ShkW. -/
import Derived.Test.YtikimmgileffgaaGreatDoorPk14
import Derived.Test.YtikimmgileffgaaGreatDoorPk10
import Derived.Test.YtikimmgileffgaaGreatDoorPk18
/- Layer 11 walked. Printed by s_sym.py. -/
section
namespace Go.Proofs.YtikimmgileffgaaGreatDoor
open Go.RowKit
set_option warningAsError false in
set_option maxRecDepth 100000 in
set_option maxHeartbeats 1000000 in
theorem keys2E {w0 w : World} {M : List Thing} {r : Nat} {A A' : Ar} {ck x k0 k1 e : Int} (O : Own w0 w M) (i : Nat) (hi : M[i]? = some (arena r A)) (hf : keys2 A ck x = (A', k0, k1, e)) :
    Calls Tryz.prog 135 #[.pointer (some ⟨r, 0, none⟩), .int .i64 ck, .int .i64 x, .int .i64 2] w fun e' w' => e' = .returned (.tuple #[.agg #[.int .i64 k0, .int .i64 k1, .int .i64 0], .int .i64 e]) ∧ Own w0 w' (M.set i (arena r A')) := by
 obtain ⟨T, _, O0, back⟩ := O.focD hi
 refine gent O0 Tryz.func135 ?_
 refine sg2 [.n [], .p 1, .n [], .p 2, .u 2, .p 11] O0 fun b1 b2 w3 O4 => ?_
 obtain ⟨A5, y6, e7, hm8⟩ : ∃ A5 y6 e7, mk A ⟨6, 1, ck, x, 0⟩ = (A5, y6, e7) := ⟨_, _, _, rfl⟩
 refine gS (mkE (r := r) O4 2 (by kernel_rfl) (by decide) (by decide) hm8) fun w9 O10 => ?_
 refine sg0 [.p 6] O10 fun w12 O13 => ?_
 rcases Bool.eq_false_or_eq_true (e7 != 0) with h14 | h14
 · have h14p : ¬ e7 = 0 := by simpa using h14
   refine sg0 [.a (bT h14), .p 3, .s 1 [], .p 1] O13 fun w15 O16 => ?_
   simp [keys2, hm8, h14p] at hf
   obtain ⟨rfl, rfl, rfl, rfl⟩ := hf
   exact gret [1] O16 (⟨rfl, back 2 O16⟩)
 · have h14p : e7 = 0 := by simpa using h14
   refine sg0 [.a (bT h14), .p 4, .s 0 [], .p 13] O13 fun w17 O18 => ?_
   obtain ⟨A19, y20, e21, hm22⟩ : ∃ A19 y20 e21, mk A5 ⟨6, 2, ck, x, 0⟩ = (A19, y20, e21) := ⟨_, _, _, rfl⟩
   refine gS (mkE (r := r) O18 2 (by kernel_rfl) (by decide) (by decide) hm22) fun w23 O24 => ?_
   refine sg0 [.p 6] O24 fun w26 O27 => ?_
   rcases Bool.eq_false_or_eq_true (e21 != 0) with h28 | h28
   · have h28p : ¬ e21 = 0 := by simpa using h28
     refine sg0 [.a (bT h28), .p 3, .s 1 [], .p 1] O27 fun w29 O30 => ?_
     simp [keys2, hm8, h14p, hm22, h28p] at hf
     obtain ⟨rfl, rfl, rfl, rfl⟩ := hf
     exact gret [1] O30 (⟨rfl, back 2 O30⟩)
   · have h28p : e21 = 0 := by simpa using h28
     refine sg0 [.a (bT h28), .p 4, .s 0 [], .p 4, .a (.r 0), .s 1 [], .p 1] O27 fun w31 O32 => ?_
     simp [keys2, hm8, h14p, hm22, h28p] at hf
     obtain ⟨rfl, rfl, rfl, rfl⟩ := hf
     exact gret [1] O32 (⟨rfl, back 2 O32⟩)
set_option warningAsError false in
set_option maxRecDepth 100000 in
set_option maxHeartbeats 1000000 in
theorem mixHashE {w0 w : World} {M : List Thing} {r : Nat} {A A' : Ar} {sk sh sc : Int} {sb : Bool} {sn : Int} {x : Int} {s' : Sy} {e : Int} (O : Own w0 w M) (i : Nat) (hi : M[i]? = some (arena r A)) (hf : mixHashS A ⟨sk, sh, ⟨sc, sb, sn⟩⟩ x = (A', s', e)) :
    Calls Tryz.prog 121 #[.agg #[.int .i64 sk, .int .i64 sh, .int .i64 sc, .bool sb, .int .u64 sn], .pointer (some ⟨r, 0, none⟩), .int .i64 x] w fun e' w' => e' = .returned (.tuple #[.agg #[.int .i64 s'.ck, .int .i64 s'.h, .int .i64 s'.c.key, .bool s'.c.has, .int .u64 s'.c.n], .int .i64 e]) ∧ Own w0 w' (M.set i (arena r A')) := by
 obtain ⟨T, _, O0, back⟩ := O.focD hi
 refine gent O0 Tryz.func121 ?_
 refine sg2 [.n [], .n [], .p 3, .a (.r 1), .p 2] O0 fun b1 b2 w3 O4 => ?_
 obtain ⟨A5, y6, e7, hm8⟩ : ∃ A5 y6 e7, mk A ⟨5, 0, sh, x, 0⟩ = (A5, y6, e7) := ⟨_, _, _, rfl⟩
 refine gS (mkE (r := r) O4 2 (by kernel_rfl) (by decide) (by decide) hm8) fun w9 O10 => ?_
 refine sg0 [.p 6] O10 fun w12 O13 => ?_
 rcases Bool.eq_false_or_eq_true (e7 != 0) with h14 | h14
 · have h14p : ¬ e7 = 0 := by simpa using h14
   refine sg0 [.a (bT h14), .p 3, .s 0 [], .p 1] O13 fun w15 O16 => ?_
   simp [mixHashS, Sy.zero, Ci.zero, hm8, h14p] at hf
   obtain ⟨rfl, rfl, rfl⟩ := hf
   exact gret [] O16 (⟨rfl, back 2 O16⟩)
 · have h14p : e7 = 0 := by simpa using h14
   refine sg0 [.a (bT h14), .p 3, .s 1 [], .a (.r 1), .s 0 [], .p 1] O13 fun w17 O18 => ?_
   simp [mixHashS, Sy.zero, Ci.zero, hm8, h14p] at hf
   obtain ⟨rfl, rfl, rfl⟩ := hf
   exact gret [] O18 (⟨rfl, back 2 O18⟩)
set_option warningAsError false in
set_option maxRecDepth 100000 in
set_option maxHeartbeats 1000000 in
theorem mixKeyE {w0 w : World} {M : List Thing} {r : Nat} {A A' : Ar} {sk sh sc : Int} {sb : Bool} {sn : Int} {x : Int} {s' : Sy} {e : Int} (O : Own w0 w M) (i : Nat) (hi : M[i]? = some (arena r A)) (hf : mixKeyS A ⟨sk, sh, ⟨sc, sb, sn⟩⟩ x = (A', s', e)) :
    Calls Tryz.prog 132 #[.agg #[.int .i64 sk, .int .i64 sh, .int .i64 sc, .bool sb, .int .u64 sn], .pointer (some ⟨r, 0, none⟩), .int .i64 x] w fun e' w' => e' = .returned (.tuple #[.agg #[.int .i64 s'.ck, .int .i64 s'.h, .int .i64 s'.c.key, .bool s'.c.has, .int .u64 s'.c.n], .int .i64 e]) ∧ Own w0 w' (M.set i (arena r A')) := by
 obtain ⟨T, _, O0, back⟩ := O.focD hi
 refine gent O0 Tryz.func132 ?_
 refine sg2 [.n [], .n [], .p 3, .a (.r 1), .p 1] O0 fun b1 b2 w3 O4 => ?_
 obtain ⟨A5, k6, k7, e8, hm9⟩ : ∃ A5 k6 k7 e8, keys2 A sk x = (A5, k6, k7, e8) := ⟨_, _, _, _, rfl⟩
 refine gS (keys2E (r := r) O4 2 (by kernel_rfl) hm9) fun w10 O11 => ?_
 refine sg1 [.p 3, .n [], .s 0 [], .p 2] O11 fun b13 w14 O15 => ?_
 rcases Bool.eq_false_or_eq_true (e8 != 0) with h16 | h16
 · have h16p : ¬ e8 = 0 := by simpa using h16
   refine sg0 [.a (bT h16), .p 3, .s 1 [], .p 1] O15 fun w17 O18 => ?_
   simp [mixKeyS, Sy.zero, Ci.zero, hm9, h16p] at hf
   obtain ⟨rfl, rfl, rfl⟩ := hf
   exact gret [1] O18 (⟨rfl, back 3 O18⟩)
 · have h16p : e8 = 0 := by simpa using h16
   refine sg0 [.a (bT h16), .p 1, .d [0], .qs [0], .q 1 (.r 0), .qs [2], .q 3 (.r 0), .qs [5], .o 4] O15 fun w19 O20 => ?_
   refine gU (js := [0]) (args := #[.int .i64 k7]) (cNewE O20 k7) fun w21 O22 => ?_
   refine sg0 [.o 6, .s 2 [0], .qs [7], .o 8, .s 2 [0], .z, .a (.r 2), .s 1 [], .p 1] O22 fun w24 O25 => ?_
   simp [mixKeyS, Sy.zero, Ci.zero, hm9, h16p] at hf
   obtain ⟨rfl, rfl, rfl⟩ := hf
   exact gret [1] O25 (⟨rfl, back 3 O25⟩)
set_option warningAsError false in
set_option maxRecDepth 100000 in
set_option maxHeartbeats 1000000 in
theorem splitSE {w0 w : World} {M : List Thing} {r : Nat} {A A' : Ar} {sk sh sc : Int} {sb : Bool} {sn : Int} {c1 c2 : Ci} {e : Int} (O : Own w0 w M) (i : Nat) (hi : M[i]? = some (arena r A)) (hf : splitY A ⟨sk, sh, ⟨sc, sb, sn⟩⟩ = (A', c1, c2, e)) :
    Calls Tryz.prog 80 #[.agg #[.int .i64 sk, .int .i64 sh, .int .i64 sc, .bool sb, .int .u64 sn], .pointer (some ⟨r, 0, none⟩)] w fun e' w' => e' = .returned (.tuple #[.agg #[.int .i64 c1.key, .bool c1.has, .int .u64 c1.n], .agg #[.int .i64 c2.key, .bool c2.has, .int .u64 c2.n], .int .i64 e]) ∧ Own w0 w' (M.set i (arena r A')) := by
 obtain ⟨T, _, O0, back⟩ := O.focD hi
 refine gent O0 Tryz.func80 ?_
 refine sg3 [.n [], .n [], .n [], .p 3, .a (.r 2)] O0 fun b1 b2 b3 w4 O5 => ?_
 obtain ⟨A6, k7, k8, e9, hm10⟩ : ∃ A6 k7 k8 e9, keys2 A sk 0 = (A6, k7, k8, e9) := ⟨_, _, _, _, rfl⟩
 refine gS (keys2E (r := r) O5 3 (by kernel_rfl) hm10) fun w11 O12 => ?_
 refine sg1 [.p 3, .n [], .s 0 [], .p 2] O12 fun b14 w15 O16 => ?_
 rcases Bool.eq_false_or_eq_true (e9 != 0) with h17 | h17
 · have h17p : ¬ e9 = 0 := by simpa using h17
   refine sg0 [.a (bT h17), .p 4, .s 2 [], .s 1 [], .p 1] O16 fun w18 O19 => ?_
   simp [splitY, Ci.zero, hm10, h17p] at hf
   obtain ⟨rfl, rfl, rfl, rfl⟩ := hf
   exact gret [2, 1] O19 (⟨rfl, back 4 O19⟩)
 · have h17p : e9 = 0 := by simpa using h17
   refine sg0 [.a (bT h17), .p 1, .d [0], .qs [0], .q 1 (.r 0), .qs [3], .q 4 (.r 0), .o 2] O16 fun w20 O21 => ?_
   refine gU (js := [0]) (args := #[.int .i64 k7]) (cNewE O21 k7) fun w22 O23 => ?_
   refine sg0 [.o 5] O23 fun w25 O26 => ?_
   refine gU (js := [0]) (args := #[.int .i64 k8]) (cNewE O26 k8) fun w27 O28 => ?_
   refine sg0 [.o 6, .s 2 [0], .o 7, .s 1 [0], .qs [8], .z] O28 fun w30 O31 => ?_
   simp [splitY, Ci.zero, hm10, h17p] at hf
   obtain ⟨rfl, rfl, rfl, rfl⟩ := hf
   exact gret [2, 1] O31 (⟨rfl, back 4 O31⟩)
set_option warningAsError false in
set_option maxRecDepth 100000 in
set_option maxHeartbeats 1000000 in
theorem beginE {w0 w : World} {M : List Thing} {r : Nat} {A A' : Ar} {name : List UInt8} {x : Int} {s' : Sy} {e : Int} (O : Own w0 w M) (i : Nat) (hi : M[i]? = some (arena r A)) (hf : beginS A name x = (A', s', e)) :
    Calls Tryz.prog 64 #[.pointer (some ⟨r, 0, none⟩), .string (strO name), .int .i64 x] w fun e' w' => e' = .returned (.tuple #[.agg #[.int .i64 s'.ck, .int .i64 s'.h, .int .i64 s'.c.key, .bool s'.c.has, .int .u64 s'.c.n], .int .i64 e]) ∧ Own w0 w' (M.set i (arena r A')) := by
 obtain ⟨T, _, O0, back⟩ := O.focD hi
 refine gent O0 Tryz.func64 ?_
 refine sg1 [.n [], .p 3] O0 fun b1 w2 O3 => ?_
 rcases Bool.eq_false_or_eq_true (decide ((name.length : Int) > 100)) with h4 | h4
 · have h4p : (100 < (name.length : Int)) := by simpa only [decide_eq_true_eq, decide_eq_false_iff_not] using h4
   have h4q : 100 < name.length := by omega
   refine sg0 [.a (bT h4), .p 9, .s 0 [], .p 1] O3 fun w5 O6 => ?_
   simp [beginS, Sy.zero, Ci.zero, h4p, h4q] at hf
   obtain ⟨rfl, rfl, rfl⟩ := hf
   exact gret [] O6 (⟨rfl, back 1 O6⟩)
 · have h4p : ¬ (100 < (name.length : Int)) := by simpa only [decide_eq_true_eq, decide_eq_false_iff_not] using h4
   have h4q : ¬ 100 < name.length := by omega
   refine sg1 [.a (bT h4), .p 3, .n []] O3 fun b7 w8 O9 => ?_
   obtain ⟨is10, hm11⟩ : ∃ b, (has A.l x) = b := ⟨_, rfl⟩
   refine gU (args := #[.pointer (some ⟨r, 0, none⟩), .slice (some ⟨b7, 0, none⟩) 1 1]) (hasE (xs := [x]) (t := 3) O9 2 0 (by kernel_rfl) (by kernel_rfl) (by simp) (by simpa using hm11)) fun w12 O13 => ?_
   rcases Bool.eq_false_or_eq_true (is10) with h15 | h15
   · refine sg0 [.a (bN h15), .p 6] O13 fun w16 O17 => ?_
     refine gl (fun (zz : Nat × Ar × Int) => match zz with | (k, A2, t) => [(0, .pointer (some ⟨r, 0, none⟩)), (1, .string (strO name)), (2, .int .i64 x), (6, .pointer (some ⟨b1, 0, none⟩)), (7, .int .i64 0), (8, .int .i64 t), (24, .int .i64 (name.length : Int)), (25, .int .i64 (k : Int))]) (fun (zz : Nat × Ar × Int) => match zz with | (k, A2, t) => (.blk b7 (.cells #[.int .i64 x] 3) :: .blk b1 (.cells #[.int .i64 0, .int .i64 0, .int .i64 0, .bool false, .int .u64 0] 40) :: .thing (arena r A2) :: T)) (fun (zz : Nat × Ar × Int) w => match zz with | (k, A2, t) => k ≤ name.length ∧ nameS (name.drop k) A2 t = nameS name A 0) (fun (zz : Nat × Ar × Int) => match zz with | (k, A2, t) => name.length - k) (0, A, 0) (O17.as 0) ⟨(Nat.zero_le _), rfl⟩ ?_
     rintro M20 ⟨k, A2, t⟩ w18 hM21 O19 ⟨hk, hq⟩
     rcases Bool.eq_false_or_eq_true (decide ((k : Int) < (name.length : Int))) with h22 | h22
     · have h22p : ((k : Int) < (name.length : Int)) := by simpa only [decide_eq_true_eq, decide_eq_false_iff_not] using h22
       have hk : k + 1 ≤ name.length := by have := h22p; omega
       obtain ⟨c, hc⟩ : ∃ c, name[k]? = some c := ⟨_, List.getElem?_eq_getElem hk⟩
       have hdrop := drop_at hc
       refine sg0 [.a (bT h22), .p 6, .a (.s _ k c (strO_at hc)), .a (.v (.int .u64 (IntKind.u64.wrap (c.toNat : Int))) (.int .u64 (c.toNat : Int)) (congrArg (Value.int .u64) (u8_u64 c))), .p 1] O19 fun w23 O24 => ?_
       obtain ⟨A25, y26, e27, hm28⟩ : ∃ A25 y26 e27, mk A2 ⟨9, (c.toNat : Int), 0, 0, 0⟩ = (A25, y26, e27) := ⟨_, _, _, rfl⟩
       refine gS (mkE (r := r) O24 2 (by kernel_rfl) (by omega) (by have := c.toNat_lt; omega) hm28) fun w29 O30 => ?_
       refine sg0 [.p 6] O30 fun w32 O33 => ?_
       rcases Bool.eq_false_or_eq_true (e27 == 0) with h34 | h34
       · have h34p : e27 = 0 := by simpa using h34
         refine sg0 [.a (bT h34), .p 5] O33 fun w35 O36 => ?_
         obtain ⟨A37, y38, e39, hm40⟩ : ∃ A37 y38 e39, mk A25 ⟨8, 0, t, y26, 0⟩ = (A37, y38, e39) := ⟨_, _, _, rfl⟩
         refine gS (mkE (r := r) O36 2 (by kernel_rfl) (by decide) (by decide) hm40) fun w41 O42 => ?_
         refine sg0 [.p 6] O42 fun w44 O45 => ?_
         rcases Bool.eq_false_or_eq_true (e39 != 0) with h46 | h46
         · have h46p : ¬ e39 = 0 := by simpa using h46
           refine sg0 [.a (bT h46), .p 3, .s 1 [], .p 1] O45 fun w47 O48 => ?_
           simp [beginS, Sy.zero, Ci.zero, h4p, h4q, hm11, h15, h22p, ← hq, hdrop, nameS, hm28, h34p, hm40, h46p] at hf
           obtain ⟨rfl, rfl, rfl⟩ := hf
           exact gret [1] O48 (⟨rfl, back 2 O48⟩)
         · have h46p : e39 = 0 := by simpa using h46
           refine sg0 [.a (bT h46), .p 1, .a (iW ((k : Int) + 1)), .p 1] O45 fun w49 O50 => ?_
           exact gz _ fun a F => hM21 a _ (k + 1, A37, y38) F (O50.as 0) ⟨hk, (by rw [← hq, hdrop]; simp [nameS, h4p, h4q, hm11, h15, h22p, hm28, h34p, hm40, h46p])⟩ (show name.length - (k + 1) < name.length - k by omega)
       · have h34p : ¬ e27 = 0 := by simpa using h34
         refine sg0 [.a (bT h34), .p 2, .a (bT (bne_t h34p)), .p 3, .s 1 [], .p 1] O33 fun w51 O52 => ?_
         simp [beginS, Sy.zero, Ci.zero, h4p, h4q, hm11, h15, h22p, ← hq, hdrop, nameS, hm28, h34p] at hf
         obtain ⟨rfl, rfl, rfl⟩ := hf
         exact gret [1] O52 (⟨rfl, back 2 O52⟩)
     · have h22p : ¬ ((k : Int) < (name.length : Int)) := by simpa only [decide_eq_true_eq, decide_eq_false_iff_not] using h22
       have hq2 : nameS name A 0 = (A2, t, 0) := by rw [← hq, List.drop_eq_nil_of_le (by have := h22p; omega)]; rfl
       refine sg0 [.a (bT h22), .p 6] O19 fun w53 O54 => ?_
       obtain ⟨A55, k56, h57, c58, b59, n60, e61, hm62⟩ : ∃ A55 k56 h57 c58 b59 n60 e61, mixHashS A2 ⟨t, t, ⟨0, false, 0⟩⟩ x = (A55, ⟨k56, h57, ⟨c58, b59, n60⟩⟩, e61) := ⟨_, _, _, _, _, _, _, rfl⟩
       refine gS (mixHashE (r := r) O54 2 (by kernel_rfl) hm62) fun w63 O64 => ?_
       refine sg0 [.p 2, .s 1 [], .p 1] O64 fun w66 O67 => ?_
       simp [beginS, Sy.zero, Ci.zero, h4p, h4q, hm11, h15, h22p, hq2, hm62] at hf
       obtain ⟨rfl, rfl, rfl⟩ := hf
       exact gret [1] O67 (⟨rfl, back 2 O67⟩)
   · refine sg0 [.a (bN h15), .p 3, .s 1 [], .p 1] O13 fun w68 O69 => ?_
     simp [beginS, Sy.zero, Ci.zero, h4p, h4q, hm11, h15] at hf
     obtain ⟨rfl, rfl, rfl⟩ := hf
     exact gret [1] O69 (⟨rfl, back 2 O69⟩)
end Go.Proofs.YtikimmgileffgaaGreatDoor
end
/- What shake's functions lean on: a clone of ints, a pattern in memory of its own (layer 12). -/
section
namespace Go.Proofs.YtikimmgileffgaaGreatDoor
open Go.RowKit

theorem cloneE {w0 w : World} {M : List Thing} {B : Option Addr} {d : Nat} {l : List Int} (O : Own w0 w M) (hh : Holds w0 B (intsV l)) (hl : l.length * 8 ≤ 140737488355328) :
    Calls Tryz.prog 90 #[.slice B l.length d] w fun e w' => ∃ B' d', e = .returned (.slice B' l.length d') ∧ Own w0 w' (rowT 3 1 (.slice B' l.length d') l.length (intsV l) :: M) := by
  have h1 := hh.below O.below
  have key : Calls Tryz.prog 90 #[.slice B l.length d] w fun e w' => ∃ v', e = .returned v' ∧ w'.ownsRow w.heap.size 3 1 v' l.length (intsV l) ∧ Below w.heap.size w w' := by
    cases B with
    | none =>
      have : l = [] := by
        rcases h1 with h1 | ⟨b, q, hb, _⟩
        · simpa [intsV] using h1
        · cases hb
      subst this
      exact (Sh.slices_Clone_int_nil 0 d w).mono fun e w' ⟨he, hw⟩ => ⟨_, he, hw ▸ World.ownsRow_nil _ _ _ _, hw ▸ Below.refl _ _⟩
    | some a =>
      rcases h1 with h1 | ⟨b, q, hb, h1⟩
      · have : l = [] := by simpa [intsV] using h1
        subst this
        exact (Sh.slices_Clone_int_zero a d w).mono fun e w' ⟨v', he, hr, _, hb⟩ => ⟨v', he, hr, hb⟩
      · cases hb
        refine (Sh.slices_Clone_int b q l.length d l w (Nat.le_refl _) hl (fun j hj => h1 j _ (by simp [intsV, hj]))).mono fun e w' ⟨v', he, hr, _, hb⟩ => ⟨v', he, ?_, hb⟩
        rw [List.take_length] at hr; exact hr
  refine key.mono fun e w' ⟨v', he, hr, hb⟩ => ?_
  obtain ⟨B', d', rfl⟩ := row_form5 hr
  exact ⟨B', d', he, O.newRow hb hr⟩
/-- A thing in which a pattern lies. -/
def HasPat (X : Thing) (x : PatV) (p : Pat) : Prop := ∀ w S, X.P w S → PatIn w (Old w) x p
theorem hasPat_pat (x : PatV) (p : Pat) : HasPat (patT x p) x p := fun w S h => h.1.mono h.2
theorem Own.hasPat {w0 w : World} {M : List Thing} {j : Nat} {X : Thing} {x : PatV} {p : Pat} (O : Own w0 w M) (hj : M[j]? = some X) (hX : HasPat X x p) : PatIn w (Old w) x p := by
  obtain ⟨S, h, _⟩ := O.at hj
  exact hX w S h
/-- A pattern, and a row of ints beside it. -/
def shkT (x : PatV) (p : Pat) (v : Value) (l : List Int) : Thing where
  P w S := PatIn w S x p ∧ IntsIn w S v l ∧ ∀ b, S b → b < w.heap.size
  lt _ _ h := h.2.2
  keep _ _ _ _ h u hd := ⟨h.1.keep u hd, h.2.1.keep u hd, fun b hb => Nat.lt_of_lt_of_le (h.2.2 b hb) u.size⟩
theorem hasPat_shk (x : PatV) (p : Pat) (v : Value) (l : List Int) : HasPat (shkT x p v l) x p := fun w S h => h.1.mono h.2.2
theorem Own.shk {w0 w : World} {M : List Thing} {x : PatV} {p : Pat} {v : Value} {l : List Int} (O : Own w0 w (rowT 3 1 v l.length (intsV l) :: patT x p :: M)) : Own w0 w (shkT x p v l :: M) :=
  O.merge fun S T hS hT => ⟨hT.1.mono fun _ h => .inr h, (intsIn_row hS).or, fun b hb => hb.elim ((rowT 3 1 v l.length (intsV l)).lt _ _ hS b) (hT.2 b)⟩
theorem modeE {w0 w : World} {M : List Thing} {X : Thing} {x : PatV} {p : Pat} {c : Nat} {A : Option Addr} {is : Bool} (O : Own w0 w M) (j : Nat) (hj : M[j]? = some X) (hX : HasPat X x p) (hfit : PatFits p) (hm : modeP p = is) (hA : A = x.A) :
    Calls Tryz.prog 168 #[.slice A p.msgs.length c, .func (.func 199) #[] #[]] w fun e w' => e = .returned (.bool is) ∧ Own w0 w' M := by
  subst hA
  exact anyPskE 199 (.inr rfl) O (O.hasPat hj hX).msgs hfit.msgs hfit.each hm
theorem pvx_of {w : World} {x : PatV} {p : Pat} (h : PatIn w (Old w) x p) : ∃ a0 c0 a1 c1 am cm, x = pvx a0 c0 a1 c1 am cm p := by
  obtain ⟨v0, v1, A, c⟩ := x
  obtain ⟨a0, c0, h0, _⟩ := h.pre0
  obtain ⟨a1, c1, h1, _⟩ := h.pre1
  simp only at h0 h1
  subst h0 h1
  exact ⟨a0, c0, a1, c1, A, c, rfl⟩
theorem parseX {w0 w : World} {M : List Thing} {p : Pat} (O : Own w0 w M) (he : EnvS w0) (hfit : PatFits p) (hr : rightP p = true) :
    Calls Tryz.prog 62 #[.string (strO (printT p))] w fun e w' => ∃ a0 c0 a1 c1 am cm, e = .returned (.tuple #[.agg #[.string (strO p.name), .slice a0 p.pre0.length c0, .slice a1 p.pre1.length c1, .slice am p.msgs.length cm], .int .i64 0]) ∧ Own w0 w' (patT (pvx a0 c0 a1 c1 am cm p) p :: M) :=
  (parseE O he hfit hr).mono fun e w' ⟨x, h1, h2⟩ => by
    obtain ⟨a0, c0, a1, c1, am, cm, rfl⟩ := pvx_of (h2.hasPat (j := 0) rfl (hasPat_pat _ _))
    exact ⟨a0, c0, a1, c1, am, cm, h1, h2⟩
end Go.Proofs.YtikimmgileffgaaGreatDoor
end
/- The beginning of a handshake (layer 12). Printed by s_shk1.py. -/
section
namespace Go.Proofs.YtikimmgileffgaaGreatDoor
open Go.RowKit
set_option warningAsError false in
set_option maxRecDepth 100000 in
set_option maxHeartbeats 4000000 in
theorem keptE {w0 w : World} {M : List Thing} {ns ne nrs nre : Bool} {np kS kE kRS kRE : Int} {B : Option Addr} {d : Nat} {psks : List Int} (O : Own w0 w M) (hh : Holds w0 B (intsV psks)) (hl : psks.length * 8 ≤ 140737488355328) :
    Calls Tryz.prog 63 #[.agg #[.bool ns, .bool ne, .bool nrs, .bool nre, .int .i64 np], .agg #[.int .i64 kS, .int .i64 kE, .int .i64 kRS, .int .i64 kRE, .slice B psks.length d]] w fun e' w' => ∃ bk dk, e' = .returned (.agg #[.int .i64 (sel ns kS), .int .i64 (sel ne kE), .int .i64 (sel nrs kRS), .int .i64 (sel nre kRE), .slice bk psks.length dk]) ∧ Own w0 w' (rowT 3 1 (.slice bk psks.length dk) psks.length (intsV psks) :: M) := by
 obtain ⟨T, hT, O0⟩ := O.all
 refine gent O0 Tryz.func63 ?_
 refine sg3 [.n [], .n [], .n [], .p 1, .a (.r 1)] O0 fun b1 b2 b3 w4 O5 => ?_
 refine gc (args := #[.slice B psks.length d]) (cloneE O5 hh hl) ?_
 rintro e8 w6 ⟨bk, dk, rfl, O7⟩
 refine gr O7.mcons fun O7 => ?_
 refine sg2 [.p 1, .n [], .s 0 [], .p 1, .a (.r 4), .p 4, .a (.r 4), .p 4, .a (.r 4), .p 4, .a (.r 4), .p 3, .n [], .p 2, .u 4] O7 fun b9 b10 w11 O12 => ?_
 refine gk O12 (fun (o0 : Int) => [(4, .pointer (some ⟨b3, 0, none⟩)), (5, .pointer (some ⟨b9, 0, none⟩)), (32, .slice (some ⟨b10, 0, none⟩) 4 4), (33, .int .i64 4), (34, .int .i64 1)]) (fun (o0 : Int) => (.blk b10 (.cells #[.bool ns, .pointer (some ⟨b9, 0, none⟩), .pointer (some ⟨b2, 0, none⟩), .bool ne, .pointer (some ⟨b9, 1, none⟩), .pointer (some ⟨b2, 1, none⟩), .bool nrs, .pointer (some ⟨b9, 2, none⟩), .pointer (some ⟨b2, 2, none⟩), .bool nre, .pointer (some ⟨b9, 3, none⟩), .pointer (some ⟨b2, 3, none⟩)] 224) :: .blk b9 (.cells #[.int .i64 o0, .int .i64 0, .int .i64 0, .int .i64 0, .slice bk psks.length dk] 38) :: .thing (rowT 3 1 (.slice bk psks.length dk) psks.length (intsV psks)) :: .blk b3 (.cells #[.int .i64 0, .int .i64 0, .int .i64 0, .int .i64 0, .slice none 0 0] 38) :: .blk b2 (.cells #[.int .i64 kS, .int .i64 kE, .int .i64 kRS, .int .i64 kRE, .slice B psks.length d] 38) :: .blk b1 (.cells #[.bool ns, .bool ne, .bool nrs, .bool nre, .int .i64 np] 151) :: T)) (fun (o0 : Int) w => o0 = sel ns kS) ?_ ?_
 · intro _ hM13 O14
   refine sg1 [.p 3, .a (.r 0), .n [], .s 0 [], .p 1, .a (.r 0)] O14 fun b15 w16 O17 => ?_
   rcases Bool.eq_false_or_eq_true (ns) with h18 | h18
   · refine sg0 [.c _ _ h18, .d [0, 5], .qs [0], .q 1 (.r 0), .qs [2], .q 3 (.r 0), .qs [4], .q 5 (.r 1), .qs [6], .o 7, .s 2 [0, 5], .z, .p 2] O17 fun w19 O20 => ?_
     exact gz _ fun a F => hM13 a _ kS F (O20.as 1) (by simp [sel, h18])
   · refine sg0 [.c _ _ h18, .p 2] O17 fun w21 O22 => ?_
     exact gz _ fun a F => hM13 a _ 0 F (O22.as 1) (by simp [sel, h18])
 · rintro o0 w23 O24 ho0
   refine gk O24 (fun (o1 : Int) => [(4, .pointer (some ⟨b3, 0, none⟩)), (5, .pointer (some ⟨b9, 0, none⟩)), (32, .slice (some ⟨b10, 0, none⟩) 4 4), (33, .int .i64 4), (34, .int .i64 2)]) (fun (o1 : Int) => (.blk b10 (.cells #[.bool ns, .pointer (some ⟨b9, 0, none⟩), .pointer (some ⟨b2, 0, none⟩), .bool ne, .pointer (some ⟨b9, 1, none⟩), .pointer (some ⟨b2, 1, none⟩), .bool nrs, .pointer (some ⟨b9, 2, none⟩), .pointer (some ⟨b2, 2, none⟩), .bool nre, .pointer (some ⟨b9, 3, none⟩), .pointer (some ⟨b2, 3, none⟩)] 224) :: .blk b9 (.cells #[.int .i64 o0, .int .i64 o1, .int .i64 0, .int .i64 0, .slice bk psks.length dk] 38) :: .thing (rowT 3 1 (.slice bk psks.length dk) psks.length (intsV psks)) :: .blk b3 (.cells #[.int .i64 0, .int .i64 0, .int .i64 0, .int .i64 0, .slice none 0 0] 38) :: .blk b2 (.cells #[.int .i64 kS, .int .i64 kE, .int .i64 kRS, .int .i64 kRE, .slice B psks.length d] 38) :: .blk b1 (.cells #[.bool ns, .bool ne, .bool nrs, .bool nre, .int .i64 np] 151) :: T)) (fun (o1 : Int) w => o1 = sel ne kE) ?_ ?_
   · intro _ hM25 O26
     refine sg1 [.p 3, .a (.r 0), .n [], .s 0 [], .p 1, .a (.r 0)] O26 fun b27 w28 O29 => ?_
     rcases Bool.eq_false_or_eq_true (ne) with h30 | h30
     · refine sg0 [.c _ _ h30, .d [0, 5], .qs [0], .q 1 (.r 0), .qs [2], .q 3 (.r 0), .qs [4], .q 5 (.r 1), .qs [6], .o 7, .s 2 [0, 5], .z, .p 2] O29 fun w31 O32 => ?_
       exact gz _ fun a F => hM25 a _ kE F (O32.as 1) (by simp [sel, h30])
     · refine sg0 [.c _ _ h30, .p 2] O29 fun w33 O34 => ?_
       exact gz _ fun a F => hM25 a _ 0 F (O34.as 1) (by simp [sel, h30])
   · rintro o1 w35 O36 ho1
     refine gk O36 (fun (o2 : Int) => [(4, .pointer (some ⟨b3, 0, none⟩)), (5, .pointer (some ⟨b9, 0, none⟩)), (32, .slice (some ⟨b10, 0, none⟩) 4 4), (33, .int .i64 4), (34, .int .i64 3)]) (fun (o2 : Int) => (.blk b10 (.cells #[.bool ns, .pointer (some ⟨b9, 0, none⟩), .pointer (some ⟨b2, 0, none⟩), .bool ne, .pointer (some ⟨b9, 1, none⟩), .pointer (some ⟨b2, 1, none⟩), .bool nrs, .pointer (some ⟨b9, 2, none⟩), .pointer (some ⟨b2, 2, none⟩), .bool nre, .pointer (some ⟨b9, 3, none⟩), .pointer (some ⟨b2, 3, none⟩)] 224) :: .blk b9 (.cells #[.int .i64 o0, .int .i64 o1, .int .i64 o2, .int .i64 0, .slice bk psks.length dk] 38) :: .thing (rowT 3 1 (.slice bk psks.length dk) psks.length (intsV psks)) :: .blk b3 (.cells #[.int .i64 0, .int .i64 0, .int .i64 0, .int .i64 0, .slice none 0 0] 38) :: .blk b2 (.cells #[.int .i64 kS, .int .i64 kE, .int .i64 kRS, .int .i64 kRE, .slice B psks.length d] 38) :: .blk b1 (.cells #[.bool ns, .bool ne, .bool nrs, .bool nre, .int .i64 np] 151) :: T)) (fun (o2 : Int) w => o2 = sel nrs kRS) ?_ ?_
     · intro _ hM37 O38
       refine sg1 [.p 3, .a (.r 0), .n [], .s 0 [], .p 1, .a (.r 0)] O38 fun b39 w40 O41 => ?_
       rcases Bool.eq_false_or_eq_true (nrs) with h42 | h42
       · refine sg0 [.c _ _ h42, .d [0, 5], .qs [0], .q 1 (.r 0), .qs [2], .q 3 (.r 0), .qs [4], .q 5 (.r 1), .qs [6], .o 7, .s 2 [0, 5], .z, .p 2] O41 fun w43 O44 => ?_
         exact gz _ fun a F => hM37 a _ kRS F (O44.as 1) (by simp [sel, h42])
       · refine sg0 [.c _ _ h42, .p 2] O41 fun w45 O46 => ?_
         exact gz _ fun a F => hM37 a _ 0 F (O46.as 1) (by simp [sel, h42])
     · rintro o2 w47 O48 ho2
       refine gk O48 (fun (o3 : Int) => [(4, .pointer (some ⟨b3, 0, none⟩)), (5, .pointer (some ⟨b9, 0, none⟩)), (32, .slice (some ⟨b10, 0, none⟩) 4 4), (33, .int .i64 4), (34, .int .i64 4)]) (fun (o3 : Int) => (.blk b10 (.cells #[.bool ns, .pointer (some ⟨b9, 0, none⟩), .pointer (some ⟨b2, 0, none⟩), .bool ne, .pointer (some ⟨b9, 1, none⟩), .pointer (some ⟨b2, 1, none⟩), .bool nrs, .pointer (some ⟨b9, 2, none⟩), .pointer (some ⟨b2, 2, none⟩), .bool nre, .pointer (some ⟨b9, 3, none⟩), .pointer (some ⟨b2, 3, none⟩)] 224) :: .blk b9 (.cells #[.int .i64 o0, .int .i64 o1, .int .i64 o2, .int .i64 o3, .slice bk psks.length dk] 38) :: .thing (rowT 3 1 (.slice bk psks.length dk) psks.length (intsV psks)) :: .blk b3 (.cells #[.int .i64 0, .int .i64 0, .int .i64 0, .int .i64 0, .slice none 0 0] 38) :: .blk b2 (.cells #[.int .i64 kS, .int .i64 kE, .int .i64 kRS, .int .i64 kRE, .slice B psks.length d] 38) :: .blk b1 (.cells #[.bool ns, .bool ne, .bool nrs, .bool nre, .int .i64 np] 151) :: T)) (fun (o3 : Int) w => o3 = sel nre kRE) ?_ ?_
       · intro _ hM49 O50
         refine sg1 [.p 3, .a (.r 0), .n [], .s 0 [], .p 1, .a (.r 0)] O50 fun b51 w52 O53 => ?_
         rcases Bool.eq_false_or_eq_true (nre) with h54 | h54
         · refine sg0 [.c _ _ h54, .d [0, 5], .qs [0], .q 1 (.r 0), .qs [2], .q 3 (.r 0), .qs [4], .q 5 (.r 1), .qs [6], .o 7, .s 2 [0, 5], .z, .p 2] O53 fun w55 O56 => ?_
           exact gz _ fun a F => hM49 a _ kRE F (O56.as 1) (by simp [sel, h54])
         · refine sg0 [.c _ _ h54, .p 2] O53 fun w57 O58 => ?_
           exact gz _ fun a F => hM49 a _ 0 F (O58.as 1) (by simp [sel, h54])
       · rintro o3 w59 O60 ho3
         refine sg0 [.p 2, .a (.r 1), .s 3 []] O60 fun w61 O62 => ?_
         subst ho0 ho1 ho2 ho3
         exact gret [3] O62 (⟨bk, dk, rfl, O62.rowB hT 2 3⟩)
set_option warningAsError false in
set_option maxRecDepth 100000 in
set_option maxHeartbeats 4000000 in
theorem publicE {w0 w : World} {M : List Thing} {r : Nat} {A A' : Ar} {role at_ nx kS kE kRS kRE sk sh sc sn : Int} {sb : Bool} {a0 a1 am bk : Option Addr} {c0 c1 cm dk : Nat} {p : Pat} {psks : List Int} {who t y e : Int} (O : Own w0 w M) (i : Nat) (hi : M[i]? = some (arena r A)) (hf : publicC A role kS kE kRS kRE who t = (A', y, e)) :
    Calls Tryz.prog 122 #[.agg #[.int .i64 role, .int .i64 at_, .int .i64 nx, .string (strO p.name), .slice a0 p.pre0.length c0, .slice a1 p.pre1.length c1, .slice am p.msgs.length cm, .int .i64 kS, .int .i64 kE, .int .i64 kRS, .int .i64 kRE, .slice bk psks.length dk, .int .i64 sk, .int .i64 sh, .int .i64 sc, .bool sb, .int .u64 sn], .pointer (some ⟨r, 0, none⟩), .int .i64 who, .int .i64 t] w fun e' w' => e' = .returned (.tuple #[.int .i64 y, .int .i64 e]) ∧ Own w0 w' (M.set i (arena r A')) := by
 obtain ⟨T, hT, O0, back⟩ := O.focD hi
 refine gent O0 Tryz.func122 ?_
 refine sg1 [.n [], .p 4, .a (.r 0)] O0 fun b1 w2 O3 => ?_
 rcases Bool.eq_false_or_eq_true (who != role) with h4 | h4
 · have h4p : ¬ who = role := by simpa using h4
   refine sg0 [.a (bT h4), .p 2] O3 fun w5 O6 => ?_
   rcases Bool.eq_false_or_eq_true (t == 1) with h7 | h7
   · have h7p : t = 1 := by simpa using h7
     refine sg0 [.a (bT h7), .p 5, .a (.r 0), .p 2] O6 fun w8 O9 => ?_
     simp [publicC, h4p, h7p] at hf
     obtain ⟨rfl, rfl, rfl⟩ := hf
     exact gret [] O9 (⟨rfl, back 1 O9⟩)
   · have h7p : ¬ t = 1 := by simpa using h7
     refine sg0 [.a (bT h7), .p 5, .a (.r 0), .a (bT h4), .p 4, .a (.r 0), .p 2] O6 fun w10 O11 => ?_
     simp [publicC, h4p, h7p] at hf
     obtain ⟨rfl, rfl, rfl⟩ := hf
     exact gret [] O11 (⟨rfl, back 1 O11⟩)
 · have h4p : who = role := by simpa using h4
   refine sg0 [.a (bT h4), .p 8, .a (.r 0), .a (bT h4), .p 3] O3 fun w12 O13 => ?_
   rcases Bool.eq_false_or_eq_true (t == 1) with h14 | h14
   · have h14p : t = 1 := by simpa using h14
     refine sg0 [.a (bT h14), .p 5, .a (.r 0), .p 1] O13 fun w15 O16 => ?_
     obtain ⟨A17, y18, e19, hm20⟩ : ∃ A17 y18 e19, mk A ⟨2, 0, kE, 0, 0⟩ = (A17, y18, e19) := ⟨_, _, _, rfl⟩
     refine gS (mkE (r := r) O16 1 (by kernel_rfl) (by decide) (by decide) hm20) fun w21 O22 => ?_
     refine sg0 [.p 4] O22 fun w24 O25 => ?_
     simp [publicC, h4p, h14p, hm20] at hf
     obtain ⟨rfl, rfl, rfl⟩ := hf
     exact gret [] O25 (⟨rfl, back 1 O25⟩)
   · have h14p : ¬ t = 1 := by simpa using h14
     refine sg0 [.a (bT h14), .p 5, .a (.r 0), .p 1] O13 fun w26 O27 => ?_
     obtain ⟨A28, y29, e30, hm31⟩ : ∃ A28 y29 e30, mk A ⟨2, 0, kS, 0, 0⟩ = (A28, y29, e30) := ⟨_, _, _, rfl⟩
     refine gS (mkE (r := r) O27 1 (by kernel_rfl) (by decide) (by decide) hm31) fun w32 O33 => ?_
     refine sg0 [.p 4] O33 fun w35 O36 => ?_
     simp [publicC, h4p, h14p, hm31] at hf
     obtain ⟨rfl, rfl, rfl⟩ := hf
     exact gret [] O36 (⟨rfl, back 1 O36⟩)
set_option warningAsError false in
set_option maxRecDepth 100000 in
set_option maxHeartbeats 4000000 in
theorem openHE {w0 w : World} {M : List Thing} {r : Nat} {A A' : Ar} {X : Thing} {role at_ nx kS kE kRS kRE sk sh sc sn : Int} {sb : Bool} {a0 a1 am bk : Option Addr} {c0 c1 cm dk : Nat} {p : Pat} {psks : List Int} {z : Int} {eph : Bool} {y' : Sy} {e : Int} {v : Value} (O : Own w0 w M) (i : Nat) (hi : M[i]? = some (arena r A)) (j : Nat) (hj : M[j]? = some X) (hX : HasPat X (pvx a0 c0 a1 c1 am cm p) p) (hfit : PatFits p) (hij : j ≠ i) (hf : openY A ⟨sk, sh, ⟨sc, sb, sn⟩⟩ (modeP p) z eph = (A', y', e)) (hv : (upd e ⟨role, at_, nx, pvx a0 c0 a1 c1 am cm p, p, kS, kE, kRS, kRE, .slice bk psks.length dk, psks, y'⟩).val = v) :
    Calls Tryz.prog 123 #[.agg #[.int .i64 role, .int .i64 at_, .int .i64 nx, .string (strO p.name), .slice a0 p.pre0.length c0, .slice a1 p.pre1.length c1, .slice am p.msgs.length cm, .int .i64 kS, .int .i64 kE, .int .i64 kRS, .int .i64 kRE, .slice bk psks.length dk, .int .i64 sk, .int .i64 sh, .int .i64 sc, .bool sb, .int .u64 sn], .pointer (some ⟨r, 0, none⟩), .int .i64 z, .bool eph] w fun e' w' => e' = .returned (.tuple #[v, .int .i64 e]) ∧ Own w0 w' (M.set i (arena r A')) := by
 obtain ⟨T, hT, O0, back⟩ := O.focD hi
 have hjT := hT j X hij hj
 refine gent O0 Tryz.func123 ?_
 refine sg2 [.n [], .n [], .p 2, .a (.r 1), .p 2] O0 fun b1 b2 w3 O4 => ?_
 obtain ⟨A5, k6, h7, c8, b9, n10, e11, hm12⟩ : ∃ A5 k6 h7 c8 b9 n10 e11, mixHashS A ⟨sk, sh, ⟨sc, sb, sn⟩⟩ z = (A5, ⟨k6, h7, ⟨c8, b9, n10⟩⟩, e11) := ⟨_, _, _, _, _, _, _, rfl⟩
 refine gS (mixHashE (r := r) O4 2 (by kernel_rfl) hm12) fun w13 O14 => ?_
 refine sg1 [.p 3, .n [], .s 0 [], .p 2] O14 fun b16 w17 O18 => ?_
 rcases Bool.eq_false_or_eq_true (e11 == 0) with h19 | h19
 · have h19p : e11 = 0 := by simpa using h19
   refine sg0 [.a (bT h19), .p 1] O18 fun w20 O21 => ?_
   rcases Bool.eq_false_or_eq_true (eph) with h22 | h22
   · refine sg0 [.a (bT h22), .p 3, .a (.r 2)] O21 fun w23 O24 => ?_
     refine gi (args := #[.agg #[.string (strO p.name), .slice a0 p.pre0.length c0, .slice a1 p.pre1.length c1, .slice am p.msgs.length cm]]) Tryz.func174 O24 fun O24i => ?_
     refine sg1 [.n [], .p 2, .a (.r 0)] O24i fun b25 w26 O27 => ?_
     obtain ⟨md28, hm29⟩ : ∃ b, modeP p = b := ⟨_, rfl⟩
     refine gU (args := #[.slice am p.msgs.length cm, .func (.func 199) #[] #[]]) (modeE O27 (j + 5) (atT hjT 5) hX hfit hm29 rfl) fun w30 O31 => ?_
     rcases Bool.eq_false_or_eq_true (md28) with h33 | h33
     · refine sg0 [.a (bT h33)] O31 fun w34 O35 => ?_
       refine gir [] O35 fun O36 => ?_
       refine sg0 [.p 2, .a (.r 1), .p 2] O36 fun w37 O38 => ?_
       obtain ⟨A39, k40, h41, c42, b43, n44, e45, hm46⟩ : ∃ A39 k40 h41 c42 b43 n44 e45, mixKeyS A5 ⟨k6, h7, ⟨c8, b9, n10⟩⟩ z = (A39, ⟨k40, h41, ⟨c42, b43, n44⟩⟩, e45) := ⟨_, _, _, _, _, _, _, rfl⟩
       refine gS (mixKeyE (r := r) O38 4 (by kernel_rfl) hm46) fun w47 O48 => ?_
       refine sg0 [.p 3, .s 1 [], .p 2] O48 fun w50 O51 => ?_
       rcases Bool.eq_false_or_eq_true (e45 != 0) with h52 | h52
       · have h52p : ¬ e45 = 0 := by simpa using h52
         refine sg0 [.a (bT h52), .p 3, .s 2 [], .p 1] O51 fun w53 O54 => ?_
         simp [openY, Sy.zero, Ci.zero, hm12, h19p, h22, hm29, h33, hm46, h52p] at hf
         obtain ⟨rfl, rfl, rfl⟩ := hf
         first | rw [upd_ok] at hv | rw [upd_no (by assumption)] at hv
         subst hv
         exact gret [2] O54 (⟨rfl, back 4 O54⟩)
       · have h52p : e45 = 0 := by simpa using h52
         refine sg0 [.a (bT h52), .p 1, .a (.r 1), .p 1, .s 3 [], .a (.r 3), .s 2 [], .p 1] O51 fun w55 O56 => ?_
         simp [openY, Sy.zero, Ci.zero, hm12, h19p, h22, hm29, h33, hm46, h52p] at hf
         obtain ⟨rfl, rfl, rfl⟩ := hf
         first | rw [upd_ok] at hv | rw [upd_no (by assumption)] at hv
         subst hv
         exact gret [2] O56 (⟨rfl, back 4 O56⟩)
     · refine sg0 [.a (bT h33)] O31 fun w57 O58 => ?_
       refine gir [] O58 fun O59 => ?_
       refine sg0 [.p 3, .a (bT (bne_f h19p)), .p 1, .a (.r 1), .p 1, .s 3 [], .a (.r 3), .s 2 [], .p 1] O59 fun w60 O61 => ?_
       simp [openY, Sy.zero, Ci.zero, hm12, h19p, h22, hm29, h33] at hf
       obtain ⟨rfl, rfl, rfl⟩ := hf
       first | rw [upd_ok] at hv | rw [upd_no (by assumption)] at hv
       subst hv
       exact gret [2] O61 (⟨rfl, back 4 O61⟩)
   · refine sg0 [.a (bT h22), .p 8, .a (bT (bne_f h19p)), .p 1, .a (.r 0), .p 1, .s 2 [], .a (.r 2), .s 1 [], .p 1] O21 fun w62 O63 => ?_
     simp [openY, Sy.zero, Ci.zero, hm12, h19p, h22] at hf
     obtain ⟨rfl, rfl, rfl⟩ := hf
     first | rw [upd_ok] at hv | rw [upd_no (by assumption)] at hv
     subst hv
     exact gret [1] O63 (⟨rfl, back 3 O63⟩)
 · have h19p : ¬ e11 = 0 := by simpa using h19
   refine sg0 [.a (bT h19), .p 10, .a (bT (bne_t h19p)), .p 3, .s 1 [], .p 1] O18 fun w64 O65 => ?_
   simp [openY, Sy.zero, Ci.zero, hm12, h19p] at hf
   obtain ⟨rfl, rfl, rfl⟩ := hf
   first | rw [upd_ok] at hv | rw [upd_no (by assumption)] at hv
   subst hv
   exact gret [1] O65 (⟨rfl, back 3 O65⟩)
set_option warningAsError false in
set_option maxRecDepth 100000 in
set_option maxHeartbeats 4000000 in
theorem toldHE {w0 w : World} {M : List Thing} {r : Nat} {A A' : Ar} {X : Thing} {role at_ nx kS kE kRS kRE sk sh sc sn : Int} {sb : Bool} {a0 a1 am bk : Option Addr} {c0 c1 cm dk : Nat} {p : Pat} {psks : List Int} {who t : Int} {y' : Sy} {e : Int} {v : Value} (O : Own w0 w M) (i : Nat) (hi : M[i]? = some (arena r A)) (j : Nat) (hj : M[j]? = some X) (hX : HasPat X (pvx a0 c0 a1 c1 am cm p) p) (hfit : PatFits p) (hij : j ≠ i) (hf : toldY A ⟨sk, sh, ⟨sc, sb, sn⟩⟩ (modeP p) role kS kE kRS kRE who t = (A', y', e)) (hv : (upd e ⟨role, at_, nx, pvx a0 c0 a1 c1 am cm p, p, kS, kE, kRS, kRE, .slice bk psks.length dk, psks, y'⟩).val = v) :
    Calls Tryz.prog 65 #[.agg #[.int .i64 role, .int .i64 at_, .int .i64 nx, .string (strO p.name), .slice a0 p.pre0.length c0, .slice a1 p.pre1.length c1, .slice am p.msgs.length cm, .int .i64 kS, .int .i64 kE, .int .i64 kRS, .int .i64 kRE, .slice bk psks.length dk, .int .i64 sk, .int .i64 sh, .int .i64 sc, .bool sb, .int .u64 sn], .pointer (some ⟨r, 0, none⟩), .int .i64 who, .int .i64 t] w fun e' w' => e' = .returned (.tuple #[v, .int .i64 e]) ∧ Own w0 w' (M.set i (arena r A')) := by
 obtain ⟨T, hT, O0, back⟩ := O.focD hi
 have hjT := hT j X hij hj
 refine gent O0 Tryz.func65 ?_
 refine sg2 [.n [], .n [], .p 1, .a (.r 1), .p 3] O0 fun b1 b2 w3 O4 => ?_
 obtain ⟨A5, y6, e7, hm8⟩ : ∃ A5 y6 e7, publicC A role kS kE kRS kRE who t = (A5, y6, e7) := ⟨_, _, _, rfl⟩
 refine gS (args := #[.agg #[.int .i64 role, .int .i64 at_, .int .i64 nx, .string (strO p.name), .slice a0 p.pre0.length c0, .slice a1 p.pre1.length c1, .slice am p.msgs.length cm, .int .i64 kS, .int .i64 kE, .int .i64 kRS, .int .i64 kRE, .slice bk psks.length dk, .int .i64 sk, .int .i64 sh, .int .i64 sc, .bool sb, .int .u64 sn], .pointer (some ⟨r, 0, none⟩), .int .i64 who, .int .i64 t]) (publicE (r := r) O4 2 (by kernel_rfl) hm8) fun w9 O10 => ?_
 refine sg0 [.p 6] O10 fun w12 O13 => ?_
 rcases Bool.eq_false_or_eq_true (e7 != 0) with h14 | h14
 · have h14p : ¬ e7 = 0 := by simpa using h14
   refine sg0 [.a (bT h14), .p 3, .s 0 [], .p 1] O13 fun w15 O16 => ?_
   try simp only [toldY, hm8] at hf
   simp [toldY, Sy.zero, Ci.zero, hm8, h14p] at hf
   obtain ⟨rfl, rfl, rfl⟩ := hf
   first | rw [upd_ok] at hv | rw [upd_no (by assumption)] at hv
   subst hv
   exact gret [] O16 (⟨rfl, back 2 O16⟩)
 · have h14p : e7 = 0 := by simpa using h14
   refine sg0 [.a (bT h14), .p 1, .a (.r 1), .p 3] O13 fun w17 O18 => ?_
   rcases Bool.eq_false_or_eq_true (t == 1) with h19 | h19
   · have h19p : t = 1 := by simpa using h19
     refine sg0 [.a (bT h19)] O18 fun w20 O21 => ?_
     obtain ⟨A22, k23, h24, c25, b26, n27, e28, hm29⟩ : ∃ A22 k23 h24 c25 b26 n27 e28, openY A5 ⟨sk, sh, ⟨sc, sb, sn⟩⟩ (modeP p) y6 true = (A22, ⟨k23, h24, ⟨c25, b26, n27⟩⟩, e28) := ⟨_, _, _, _, _, _, _, rfl⟩
     rcases Decidable.em (e28 = 0) with h30 | h30
     · subst h30
       refine gS (args := #[.agg #[.int .i64 role, .int .i64 at_, .int .i64 nx, .string (strO p.name), .slice a0 p.pre0.length c0, .slice a1 p.pre1.length c1, .slice am p.msgs.length cm, .int .i64 kS, .int .i64 kE, .int .i64 kRS, .int .i64 kRE, .slice bk psks.length dk, .int .i64 sk, .int .i64 sh, .int .i64 sc, .bool sb, .int .u64 sn], .pointer (some ⟨r, 0, none⟩), .int .i64 y6, .bool true]) (openHE (psks := psks) (v := .agg #[.int .i64 role, .int .i64 at_, .int .i64 nx, .string (strO p.name), .slice a0 p.pre0.length c0, .slice a1 p.pre1.length c1, .slice am p.msgs.length cm, .int .i64 kS, .int .i64 kE, .int .i64 kRS, .int .i64 kRE, .slice bk psks.length dk, .int .i64 k23, .int .i64 h24, .int .i64 c25, .bool b26, .int .u64 n27]) O21 2 (by kernel_rfl) (j + 3) (atT hjT 3) hX hfit (by omega) hm29 (by rfl)) fun w31 O32 => ?_
       refine sg0 [.p 2, .s 0 [], .p 1] O32 fun w34 O35 => ?_
       try simp only [toldY, hm8, hm29] at hf
       simp [toldY, Sy.zero, Ci.zero, hm8, h14p, h19p, hm29] at hf
       obtain ⟨rfl, rfl, rfl⟩ := hf
       first | rw [upd_ok] at hv | rw [upd_no (by assumption)] at hv
       subst hv
       exact gret [] O35 (⟨rfl, back 2 O35⟩)
     · refine gS (args := #[.agg #[.int .i64 role, .int .i64 at_, .int .i64 nx, .string (strO p.name), .slice a0 p.pre0.length c0, .slice a1 p.pre1.length c1, .slice am p.msgs.length cm, .int .i64 kS, .int .i64 kE, .int .i64 kRS, .int .i64 kRE, .slice bk psks.length dk, .int .i64 sk, .int .i64 sh, .int .i64 sc, .bool sb, .int .u64 sn], .pointer (some ⟨r, 0, none⟩), .int .i64 y6, .bool true]) (openHE (psks := psks) (v := .agg #[.int .i64 0, .int .i64 0, .int .i64 0, .string ⟨#[]⟩, .slice none 0 0, .slice none 0 0, .slice none 0 0, .int .i64 0, .int .i64 0, .int .i64 0, .int .i64 0, .slice none 0 0, .int .i64 0, .int .i64 0, .int .i64 0, .bool false, .int .u64 0]) O21 2 (by kernel_rfl) (j + 3) (atT hjT 3) hX hfit (by omega) hm29 (by rw [upd_no h30]; rfl)) fun w36 O37 => ?_
       refine sg0 [.p 2, .s 0 [], .p 1] O37 fun w39 O40 => ?_
       try simp only [toldY, hm8, hm29] at hf
       simp [toldY, Sy.zero, Ci.zero, hm8, h14p, h19p, h30, hm29] at hf
       obtain ⟨rfl, rfl, rfl⟩ := hf
       first | rw [upd_ok] at hv | rw [upd_no (by assumption)] at hv
       subst hv
       exact gret [] O40 (⟨rfl, back 2 O40⟩)
   · have h19p : ¬ t = 1 := by simpa using h19
     refine sg0 [.a (bT h19)] O18 fun w41 O42 => ?_
     obtain ⟨A43, k44, h45, c46, b47, n48, e49, hm50⟩ : ∃ A43 k44 h45 c46 b47 n48 e49, openY A5 ⟨sk, sh, ⟨sc, sb, sn⟩⟩ (modeP p) y6 false = (A43, ⟨k44, h45, ⟨c46, b47, n48⟩⟩, e49) := ⟨_, _, _, _, _, _, _, rfl⟩
     rcases Decidable.em (e49 = 0) with h51 | h51
     · subst h51
       refine gS (args := #[.agg #[.int .i64 role, .int .i64 at_, .int .i64 nx, .string (strO p.name), .slice a0 p.pre0.length c0, .slice a1 p.pre1.length c1, .slice am p.msgs.length cm, .int .i64 kS, .int .i64 kE, .int .i64 kRS, .int .i64 kRE, .slice bk psks.length dk, .int .i64 sk, .int .i64 sh, .int .i64 sc, .bool sb, .int .u64 sn], .pointer (some ⟨r, 0, none⟩), .int .i64 y6, .bool false]) (openHE (psks := psks) (v := .agg #[.int .i64 role, .int .i64 at_, .int .i64 nx, .string (strO p.name), .slice a0 p.pre0.length c0, .slice a1 p.pre1.length c1, .slice am p.msgs.length cm, .int .i64 kS, .int .i64 kE, .int .i64 kRS, .int .i64 kRE, .slice bk psks.length dk, .int .i64 k44, .int .i64 h45, .int .i64 c46, .bool b47, .int .u64 n48]) O42 2 (by kernel_rfl) (j + 3) (atT hjT 3) hX hfit (by omega) hm50 (by rfl)) fun w52 O53 => ?_
       refine sg0 [.p 2, .s 0 [], .p 1] O53 fun w55 O56 => ?_
       try simp only [toldY, hm8, hm50] at hf
       simp [toldY, Sy.zero, Ci.zero, hm8, h14p, h19p, hm50] at hf
       obtain ⟨rfl, rfl, rfl⟩ := hf
       first | rw [upd_ok] at hv | rw [upd_no (by assumption)] at hv
       subst hv
       exact gret [] O56 (⟨rfl, back 2 O56⟩)
     · refine gS (args := #[.agg #[.int .i64 role, .int .i64 at_, .int .i64 nx, .string (strO p.name), .slice a0 p.pre0.length c0, .slice a1 p.pre1.length c1, .slice am p.msgs.length cm, .int .i64 kS, .int .i64 kE, .int .i64 kRS, .int .i64 kRE, .slice bk psks.length dk, .int .i64 sk, .int .i64 sh, .int .i64 sc, .bool sb, .int .u64 sn], .pointer (some ⟨r, 0, none⟩), .int .i64 y6, .bool false]) (openHE (psks := psks) (v := .agg #[.int .i64 0, .int .i64 0, .int .i64 0, .string ⟨#[]⟩, .slice none 0 0, .slice none 0 0, .slice none 0 0, .int .i64 0, .int .i64 0, .int .i64 0, .int .i64 0, .slice none 0 0, .int .i64 0, .int .i64 0, .int .i64 0, .bool false, .int .u64 0]) O42 2 (by kernel_rfl) (j + 3) (atT hjT 3) hX hfit (by omega) hm50 (by rw [upd_no h51]; rfl)) fun w57 O58 => ?_
       refine sg0 [.p 2, .s 0 [], .p 1] O58 fun w60 O61 => ?_
       try simp only [toldY, hm8, hm50] at hf
       simp [toldY, Sy.zero, Ci.zero, hm8, h14p, h19p, h51, hm50] at hf
       obtain ⟨rfl, rfl, rfl⟩ := hf
       first | rw [upd_ok] at hv | rw [upd_no (by assumption)] at hv
       subst hv
       exact gret [] O61 (⟨rfl, back 2 O61⟩)
end Go.Proofs.YtikimmgileffgaaGreatDoor
end
