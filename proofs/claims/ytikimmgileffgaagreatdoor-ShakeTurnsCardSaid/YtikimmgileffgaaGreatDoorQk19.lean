/- Packed by packn.py: SymW, ShE. -/
import Derived.Test.YtikimmgileffgaaGreatDoorQk15
import Derived.Test.YtikimmgileffgaaGreatDoorQk11
import Derived.Test.YtikimmgileffgaaGreatDoorQk18
/- Layer 11 walked. Printed by s_sym.py. -/
section
namespace Go.Proofs.YtikimmgileffgaaGreatDoor
open Go.RowKit
set_option warningAsError false in
set_option maxRecDepth 100000 in
set_option maxHeartbeats 1000000 in
theorem keys2E {w0 w : World} {M : List Thing} {r : Nat} {A A' : Ar} {ck x k0 k1 e : Int} (O : Own w0 w M) (i : Nat) (hi : M[i]? = some (arena r A)) (hf : keys2 A ck x = (A', k0, k1, e)) :
    Calls Tryz.prog 135 #[.pointer (some ⟨r, 0, none⟩), .int .i64 ck, .int .i64 x, .int .i64 2] w fun e' w' => e' = .returned (.tuple #[.agg #[.int .i64 k0, .int .i64 k1, .int .i64 0], .int .i64 e]) ∧ Own w0 w' (M.set i (arena r A')) := by
 obtain ⟨T, _, O0, back⟩ := O.focD hi
 refine gent O0 Tryz.func135 ?_
 refine sg2 [.n [], .p 1, .n [], .p 2, .u 2, .p 11] O0 fun b1 b2 w3 O4 => ?_
 obtain ⟨A5, y6, e7, hm8⟩ : ∃ A5 y6 e7, mk A ⟨6, 1, ck, x, 0⟩ = (A5, y6, e7) := ⟨_, _, _, rfl⟩
 refine gS (mkE (r := r) O4 2 (by kernel_rfl) (by decide) (by decide) hm8) fun w9 O10 => ?_
 refine sg0 [.p 6] O10 fun w12 O13 => ?_
 rcases Bool.eq_false_or_eq_true (e7 != 0) with h14 | h14
 · have h14p : ¬ e7 = 0 := by simpa using h14
   refine sg0 [.a (bT h14), .p 3, .s 1 [], .p 1] O13 fun w15 O16 => ?_
   simp [keys2, hm8, h14p] at hf
   obtain ⟨rfl, rfl, rfl, rfl⟩ := hf
   exact gret [1] O16 (⟨rfl, back 2 O16⟩)
 · have h14p : e7 = 0 := by simpa using h14
   refine sg0 [.a (bT h14), .p 4, .s 0 [], .p 13] O13 fun w17 O18 => ?_
   obtain ⟨A19, y20, e21, hm22⟩ : ∃ A19 y20 e21, mk A5 ⟨6, 2, ck, x, 0⟩ = (A19, y20, e21) := ⟨_, _, _, rfl⟩
   refine gS (mkE (r := r) O18 2 (by kernel_rfl) (by decide) (by decide) hm22) fun w23 O24 => ?_
   refine sg0 [.p 6] O24 fun w26 O27 => ?_
   rcases Bool.eq_false_or_eq_true (e21 != 0) with h28 | h28
   · have h28p : ¬ e21 = 0 := by simpa using h28
     refine sg0 [.a (bT h28), .p 3, .s 1 [], .p 1] O27 fun w29 O30 => ?_
     simp [keys2, hm8, h14p, hm22, h28p] at hf
     obtain ⟨rfl, rfl, rfl, rfl⟩ := hf
     exact gret [1] O30 (⟨rfl, back 2 O30⟩)
   · have h28p : e21 = 0 := by simpa using h28
     refine sg0 [.a (bT h28), .p 4, .s 0 [], .p 4, .a (.r 0), .s 1 [], .p 1] O27 fun w31 O32 => ?_
     simp [keys2, hm8, h14p, hm22, h28p] at hf
     obtain ⟨rfl, rfl, rfl, rfl⟩ := hf
     exact gret [1] O32 (⟨rfl, back 2 O32⟩)
set_option warningAsError false in
set_option maxRecDepth 100000 in
set_option maxHeartbeats 1000000 in
theorem keys3E {w0 w : World} {M : List Thing} {r : Nat} {A A' : Ar} {ck x k0 k1 k2 e : Int} (O : Own w0 w M) (i : Nat) (hi : M[i]? = some (arena r A)) (hf : keys3 A ck x = (A', k0, k1, k2, e)) :
    Calls Tryz.prog 135 #[.pointer (some ⟨r, 0, none⟩), .int .i64 ck, .int .i64 x, .int .i64 3] w fun e' w' => e' = .returned (.tuple #[.agg #[.int .i64 k0, .int .i64 k1, .int .i64 k2], .int .i64 e]) ∧ Own w0 w' (M.set i (arena r A')) := by
 obtain ⟨T, _, O0, back⟩ := O.focD hi
 refine gent O0 Tryz.func135 ?_
 refine sg2 [.n [], .p 1, .n [], .p 2, .u 3, .p 11] O0 fun b1 b2 w3 O4 => ?_
 obtain ⟨A5, y6, e7, hm8⟩ : ∃ A5 y6 e7, mk A ⟨6, 1, ck, x, 0⟩ = (A5, y6, e7) := ⟨_, _, _, rfl⟩
 refine gS (mkE (r := r) O4 2 (by kernel_rfl) (by decide) (by decide) hm8) fun w9 O10 => ?_
 refine sg0 [.p 6] O10 fun w12 O13 => ?_
 rcases Bool.eq_false_or_eq_true (e7 != 0) with h14 | h14
 · have h14p : ¬ e7 = 0 := by simpa using h14
   refine sg0 [.a (bT h14), .p 3, .s 1 [], .p 1] O13 fun w15 O16 => ?_
   simp [keys3, hm8, h14p] at hf
   obtain ⟨rfl, rfl, rfl, rfl, rfl⟩ := hf
   exact gret [1] O16 (⟨rfl, back 2 O16⟩)
 · have h14p : e7 = 0 := by simpa using h14
   refine sg0 [.a (bT h14), .p 4, .s 0 [], .p 13] O13 fun w17 O18 => ?_
   obtain ⟨A19, y20, e21, hm22⟩ : ∃ A19 y20 e21, mk A5 ⟨6, 2, ck, x, 0⟩ = (A19, y20, e21) := ⟨_, _, _, rfl⟩
   refine gS (mkE (r := r) O18 2 (by kernel_rfl) (by decide) (by decide) hm22) fun w23 O24 => ?_
   refine sg0 [.p 6] O24 fun w26 O27 => ?_
   rcases Bool.eq_false_or_eq_true (e21 != 0) with h28 | h28
   · have h28p : ¬ e21 = 0 := by simpa using h28
     refine sg0 [.a (bT h28), .p 3, .s 1 [], .p 1] O27 fun w29 O30 => ?_
     simp [keys3, hm8, h14p, hm22, h28p] at hf
     obtain ⟨rfl, rfl, rfl, rfl, rfl⟩ := hf
     exact gret [1] O30 (⟨rfl, back 2 O30⟩)
   · have h28p : e21 = 0 := by simpa using h28
     refine sg0 [.a (bT h28), .p 4, .s 0 [], .p 13] O27 fun w31 O32 => ?_
     obtain ⟨A33, y34, e35, hm36⟩ : ∃ A33 y34 e35, mk A19 ⟨6, 3, ck, x, 0⟩ = (A33, y34, e35) := ⟨_, _, _, rfl⟩
     refine gS (mkE (r := r) O32 2 (by kernel_rfl) (by decide) (by decide) hm36) fun w37 O38 => ?_
     refine sg0 [.p 6] O38 fun w40 O41 => ?_
     rcases Bool.eq_false_or_eq_true (e35 != 0) with h42 | h42
     · have h42p : ¬ e35 = 0 := by simpa using h42
       refine sg0 [.a (bT h42), .p 3, .s 1 [], .p 1] O41 fun w43 O44 => ?_
       simp [keys3, hm8, h14p, hm22, h28p, hm36, h42p] at hf
       obtain ⟨rfl, rfl, rfl, rfl, rfl⟩ := hf
       exact gret [1] O44 (⟨rfl, back 2 O44⟩)
     · have h42p : e35 = 0 := by simpa using h42
       refine sg0 [.a (bT h42), .p 4, .s 0 [], .p 4, .a (.r 0), .s 1 [], .p 1] O41 fun w45 O46 => ?_
       simp [keys3, hm8, h14p, hm22, h28p, hm36, h42p] at hf
       obtain ⟨rfl, rfl, rfl, rfl, rfl⟩ := hf
       exact gret [1] O46 (⟨rfl, back 2 O46⟩)
set_option warningAsError false in
set_option maxRecDepth 100000 in
set_option maxHeartbeats 1000000 in
theorem mixHashE {w0 w : World} {M : List Thing} {r : Nat} {A A' : Ar} {sk sh sc : Int} {sb : Bool} {sn : Int} {x : Int} {s' : Sy} {e : Int} (O : Own w0 w M) (i : Nat) (hi : M[i]? = some (arena r A)) (hf : mixHashS A ⟨sk, sh, ⟨sc, sb, sn⟩⟩ x = (A', s', e)) :
    Calls Tryz.prog 121 #[.agg #[.int .i64 sk, .int .i64 sh, .int .i64 sc, .bool sb, .int .u64 sn], .pointer (some ⟨r, 0, none⟩), .int .i64 x] w fun e' w' => e' = .returned (.tuple #[.agg #[.int .i64 s'.ck, .int .i64 s'.h, .int .i64 s'.c.key, .bool s'.c.has, .int .u64 s'.c.n], .int .i64 e]) ∧ Own w0 w' (M.set i (arena r A')) := by
 obtain ⟨T, _, O0, back⟩ := O.focD hi
 refine gent O0 Tryz.func121 ?_
 refine sg2 [.n [], .n [], .p 3, .a (.r 1), .p 2] O0 fun b1 b2 w3 O4 => ?_
 obtain ⟨A5, y6, e7, hm8⟩ : ∃ A5 y6 e7, mk A ⟨5, 0, sh, x, 0⟩ = (A5, y6, e7) := ⟨_, _, _, rfl⟩
 refine gS (mkE (r := r) O4 2 (by kernel_rfl) (by decide) (by decide) hm8) fun w9 O10 => ?_
 refine sg0 [.p 6] O10 fun w12 O13 => ?_
 rcases Bool.eq_false_or_eq_true (e7 != 0) with h14 | h14
 · have h14p : ¬ e7 = 0 := by simpa using h14
   refine sg0 [.a (bT h14), .p 3, .s 0 [], .p 1] O13 fun w15 O16 => ?_
   simp [mixHashS, Sy.zero, Ci.zero, hm8, h14p] at hf
   obtain ⟨rfl, rfl, rfl⟩ := hf
   exact gret [] O16 (⟨rfl, back 2 O16⟩)
 · have h14p : e7 = 0 := by simpa using h14
   refine sg0 [.a (bT h14), .p 3, .s 1 [], .a (.r 1), .s 0 [], .p 1] O13 fun w17 O18 => ?_
   simp [mixHashS, hm8, h14p] at hf
   obtain ⟨rfl, rfl, rfl⟩ := hf
   exact gret [] O18 (⟨rfl, back 2 O18⟩)
set_option warningAsError false in
set_option maxRecDepth 100000 in
set_option maxHeartbeats 1000000 in
theorem mixKeyE {w0 w : World} {M : List Thing} {r : Nat} {A A' : Ar} {sk sh sc : Int} {sb : Bool} {sn : Int} {x : Int} {s' : Sy} {e : Int} (O : Own w0 w M) (i : Nat) (hi : M[i]? = some (arena r A)) (hf : mixKeyS A ⟨sk, sh, ⟨sc, sb, sn⟩⟩ x = (A', s', e)) :
    Calls Tryz.prog 132 #[.agg #[.int .i64 sk, .int .i64 sh, .int .i64 sc, .bool sb, .int .u64 sn], .pointer (some ⟨r, 0, none⟩), .int .i64 x] w fun e' w' => e' = .returned (.tuple #[.agg #[.int .i64 s'.ck, .int .i64 s'.h, .int .i64 s'.c.key, .bool s'.c.has, .int .u64 s'.c.n], .int .i64 e]) ∧ Own w0 w' (M.set i (arena r A')) := by
 obtain ⟨T, _, O0, back⟩ := O.focD hi
 refine gent O0 Tryz.func132 ?_
 refine sg2 [.n [], .n [], .p 3, .a (.r 1), .p 1] O0 fun b1 b2 w3 O4 => ?_
 obtain ⟨A5, k6, k7, e8, hm9⟩ : ∃ A5 k6 k7 e8, keys2 A sk x = (A5, k6, k7, e8) := ⟨_, _, _, _, rfl⟩
 refine gS (keys2E (r := r) O4 2 (by kernel_rfl) hm9) fun w10 O11 => ?_
 refine sg1 [.p 3, .n [], .s 0 [], .p 2] O11 fun b13 w14 O15 => ?_
 rcases Bool.eq_false_or_eq_true (e8 != 0) with h16 | h16
 · have h16p : ¬ e8 = 0 := by simpa using h16
   refine sg0 [.a (bT h16), .p 3, .s 1 [], .p 1] O15 fun w17 O18 => ?_
   simp [mixKeyS, Sy.zero, Ci.zero, hm9, h16p] at hf
   obtain ⟨rfl, rfl, rfl⟩ := hf
   exact gret [1] O18 (⟨rfl, back 3 O18⟩)
 · have h16p : e8 = 0 := by simpa using h16
   refine sg0 [.a (bT h16), .p 1, .d [0], .qs [0], .q 1 (.r 0), .qs [2], .q 3 (.r 0), .qs [5], .o 4] O15 fun w19 O20 => ?_
   refine gU (js := [0]) (args := #[.int .i64 k7]) (cNewE O20 k7) fun w21 O22 => ?_
   refine sg0 [.o 6, .s 2 [0], .qs [7], .o 8, .s 2 [0], .z, .a (.r 2), .s 1 [], .p 1] O22 fun w24 O25 => ?_
   simp [mixKeyS, hm9, h16p] at hf
   obtain ⟨rfl, rfl, rfl⟩ := hf
   exact gret [1] O25 (⟨rfl, back 3 O25⟩)
set_option warningAsError false in
set_option maxRecDepth 100000 in
set_option maxHeartbeats 1000000 in
theorem mixBothE {w0 w : World} {M : List Thing} {r : Nat} {A A' : Ar} {sk sh sc : Int} {sb : Bool} {sn : Int} {x : Int} {s' : Sy} {e : Int} (O : Own w0 w M) (i : Nat) (hi : M[i]? = some (arena r A)) (hf : mixBothS A ⟨sk, sh, ⟨sc, sb, sn⟩⟩ x = (A', s', e)) :
    Calls Tryz.prog 129 #[.agg #[.int .i64 sk, .int .i64 sh, .int .i64 sc, .bool sb, .int .u64 sn], .pointer (some ⟨r, 0, none⟩), .int .i64 x] w fun e' w' => e' = .returned (.tuple #[.agg #[.int .i64 s'.ck, .int .i64 s'.h, .int .i64 s'.c.key, .bool s'.c.has, .int .u64 s'.c.n], .int .i64 e]) ∧ Own w0 w' (M.set i (arena r A')) := by
 obtain ⟨T, _, O0, back⟩ := O.focD hi
 refine gent O0 Tryz.func129 ?_
 refine sg2 [.n [], .n [], .p 3, .a (.r 1), .p 1] O0 fun b1 b2 w3 O4 => ?_
 obtain ⟨A5, k6, k7, k8, e9, hm10⟩ : ∃ A5 k6 k7 k8 e9, keys3 A sk x = (A5, k6, k7, k8, e9) := ⟨_, _, _, _, _, rfl⟩
 refine gS (keys3E (r := r) O4 2 (by kernel_rfl) hm10) fun w11 O12 => ?_
 refine sg1 [.p 3, .n [], .s 0 [], .p 2] O12 fun b14 w15 O16 => ?_
 rcases Bool.eq_false_or_eq_true (e9 != 0) with h17 | h17
 · have h17p : ¬ e9 = 0 := by simpa using h17
   refine sg0 [.a (bT h17), .p 3, .s 1 [], .p 1] O16 fun w18 O19 => ?_
   simp [mixBothS, Sy.zero, Ci.zero, hm10, h17p] at hf
   obtain ⟨rfl, rfl, rfl⟩ := hf
   exact gret [1] O19 (⟨rfl, back 3 O19⟩)
 · have h17p : e9 = 0 := by simpa using h17
   refine sg0 [.a (bT h17), .p 1, .d [0], .qs [0], .q 1 (.r 0), .qs [2], .q 3 (.r 0), .qs [5], .o 4] O16 fun w20 O21 => ?_
   refine gU (js := [0]) (args := #[.int .i64 k8]) (cNewE O21 k8) fun w22 O23 => ?_
   refine sg0 [.o 6, .s 2 [0], .qs [7], .o 8, .s 2 [0], .z, .a (.r 2), .p 2, .a (.r 0)] O23 fun w25 O26 => ?_
   obtain ⟨A27, k28, h29, c30, b31, n32, e33, hm34⟩ : ∃ A27 k28 h29 c30 b31 n32 e33, mixHashS A5 ⟨k6, sh, ⟨k8, true, 0⟩⟩ k7 = (A27, ⟨k28, h29, ⟨c30, b31, n32⟩⟩, e33) := ⟨_, _, _, _, _, _, _, rfl⟩
   refine gS (mixHashE (r := r) O26 3 (by kernel_rfl) hm34) fun w35 O36 => ?_
   refine sg0 [.p 2, .s 1 [], .p 1] O36 fun w38 O39 => ?_
   simp [mixBothS, hm10, h17p, hm34] at hf
   obtain ⟨rfl, rfl, rfl⟩ := hf
   exact gret [1] O39 (⟨rfl, back 3 O39⟩)
set_option warningAsError false in
set_option maxRecDepth 100000 in
set_option maxHeartbeats 1000000 in
theorem doneE {w0 w : World} {M : List Thing} {r : Nat} {A A' : Ar} {sk sh sc : Int} {sb : Bool} {sn : Int} {cc : Int} {cb : Bool} {cn x z : Int} {s' : Sy} {y e : Int} (O : Own w0 w M) (i : Nat) (hi : M[i]? = some (arena r A)) (hf : doneS A ⟨sk, sh, ⟨sc, sb, sn⟩⟩ ⟨cc, cb, cn⟩ x z = (A', s', y, e)) :
    Calls Tryz.prog 177 #[.agg #[.int .i64 sk, .int .i64 sh, .int .i64 sc, .bool sb, .int .u64 sn], .pointer (some ⟨r, 0, none⟩), .agg #[.int .i64 cc, .bool cb, .int .u64 cn], .int .i64 x, .int .i64 z] w fun e' w' => e' = .returned (.tuple #[.agg #[.int .i64 s'.ck, .int .i64 s'.h, .int .i64 s'.c.key, .bool s'.c.has, .int .u64 s'.c.n], .int .i64 y, .int .i64 e]) ∧ Own w0 w' (M.set i (arena r A')) := by
 obtain ⟨T, _, O0, back⟩ := O.focD hi
 refine gent O0 Tryz.func177 ?_
 refine sg3 [.n [], .n [], .n [], .p 2, .a (.r 1), .p 1, .s 2 [], .a (.r 2), .p 2] O0 fun b1 b2 b3 w4 O5 => ?_
 obtain ⟨A6, k7, h8, c9, b10, n11, e12, hm13⟩ : ∃ A6 k7 h8 c9 b10 n11 e12, mixHashS A ⟨sk, sh, ⟨cc, cb, cn⟩⟩ x = (A6, ⟨k7, h8, ⟨c9, b10, n11⟩⟩, e12) := ⟨_, _, _, _, _, _, _, rfl⟩
 refine gS (mixHashE (r := r) O5 3 (by kernel_rfl) hm13) fun w14 O15 => ?_
 refine sg0 [.p 3, .s 2 [], .p 2] O15 fun w17 O18 => ?_
 rcases Bool.eq_false_or_eq_true (e12 != 0) with h19 | h19
 · have h19p : ¬ e12 = 0 := by simpa using h19
   refine sg0 [.a (bT h19), .p 3, .s 0 [], .p 2] O18 fun w20 O21 => ?_
   simp [doneS, Sy.zero, Ci.zero, hm13, h19p] at hf
   obtain ⟨rfl, rfl, rfl, rfl⟩ := hf
   exact gret [] O21 (⟨rfl, back 3 O21⟩)
 · have h19p : e12 = 0 := by simpa using h19
   refine sg0 [.a (bT h19), .p 1, .a (.r 2), .p 1, .s 0 [], .p 2] O18 fun w22 O23 => ?_
   simp [doneS, hm13, h19p] at hf
   obtain ⟨rfl, rfl, rfl, rfl⟩ := hf
   exact gret [] O23 (⟨rfl, back 3 O23⟩)
set_option warningAsError false in
set_option maxRecDepth 100000 in
set_option maxHeartbeats 1000000 in
theorem sealSE {w0 w : World} {M : List Thing} {r : Nat} {A A' : Ar} {sk sh sc : Int} {sb : Bool} {sn : Int} {p : Int} {s' : Sy} {y e : Int} (O : Own w0 w M) (i : Nat) (hi : M[i]? = some (arena r A)) (hn : U64 sn) (hf : sealS A ⟨sk, sh, ⟨sc, sb, sn⟩⟩ p = (A', s', y, e)) :
    Calls Tryz.prog 133 #[.agg #[.int .i64 sk, .int .i64 sh, .int .i64 sc, .bool sb, .int .u64 sn], .pointer (some ⟨r, 0, none⟩), .int .i64 p] w fun e' w' => e' = .returned (.tuple #[.agg #[.int .i64 s'.ck, .int .i64 s'.h, .int .i64 s'.c.key, .bool s'.c.has, .int .u64 s'.c.n], .int .i64 y, .int .i64 e]) ∧ Own w0 w' (M.set i (arena r A')) := by
 obtain ⟨T, _, O0, back⟩ := O.focD hi
 refine gent O0 Tryz.func133 ?_
 refine sg2 [.n [], .n [], .p 3, .a (.r 1), .p 2, .a (.r 1), .p 1] O0 fun b1 b2 w3 O4 => ?_
 obtain ⟨A5, c6, b7, n8, x9, e10, hm11⟩ : ∃ A5 c6 b7 n8 x9 e10, sealC A ⟨sc, sb, sn⟩ sh p = (A5, ⟨c6, b7, n8⟩, x9, e10) := ⟨_, _, _, _, _, _, rfl⟩
 refine gS (sealEk (r := r) O4 2 (by kernel_rfl) hn hm11) fun w12 O13 => ?_
 have hk15 := sealC_nk (A := A) (c := ⟨sc, sb, sn⟩) (ad := sh) (p := p) hn
 rw [hm11] at hk15
 refine sg1 [.p 4, .n [], .s 0 [], .p 3] O13 fun b16 w17 O18 => ?_
 rcases Bool.eq_false_or_eq_true (e10 != 0) with h19 | h19
 · have h19p : ¬ e10 = 0 := by simpa using h19
   refine sg0 [.a (bT h19), .p 3, .s 1 [], .p 2] O18 fun w20 O21 => ?_
   simp [sealS, Sy.zero, Ci.zero, hm11, h19p] at hf
   obtain ⟨rfl, rfl, rfl, rfl⟩ := hf
   exact gret [1] O21 (⟨rfl, back 3 O21⟩)
 · have h19p : e10 = 0 := by simpa using h19
   refine sg0 [.a (bT h19), .p 1, .a (.r 2), .p 1, .a (.r 0), .p 2] O18 fun w22 O23 => ?_
   obtain ⟨A24, k25, h26, c27, b28, n29, y30, e31, hm32⟩ : ∃ A24 k25 h26 c27 b28 n29 y30 e31, doneS A5 ⟨sk, sh, ⟨sc, sb, sn⟩⟩ ⟨c6, b7, n8⟩ x9 x9 = (A24, ⟨k25, h26, ⟨c27, b28, n29⟩⟩, y30, e31) := ⟨_, _, _, _, _, _, _, _, rfl⟩
   refine gS (doneE (r := r) O23 3 (by kernel_rfl) hm32) fun w33 O34 => ?_
   refine sg0 [.p 3, .s 1 [], .p 2] O34 fun w36 O37 => ?_
   simp [sealS, hm11, h19p, hm32] at hf
   obtain ⟨rfl, rfl, rfl, rfl⟩ := hf
   exact gret [1] O37 (⟨rfl, back 3 O37⟩)
set_option warningAsError false in
set_option maxRecDepth 100000 in
set_option maxHeartbeats 1000000 in
theorem openSE {w0 w : World} {M : List Thing} {r : Nat} {A A' : Ar} {sk sh sc : Int} {sb : Bool} {sn : Int} {p : Int} {s' : Sy} {y e : Int} (O : Own w0 w M) (i : Nat) (hi : M[i]? = some (arena r A)) (hn : U64 sn) (hf : openS A ⟨sk, sh, ⟨sc, sb, sn⟩⟩ p = (A', s', y, e)) :
    Calls Tryz.prog 134 #[.agg #[.int .i64 sk, .int .i64 sh, .int .i64 sc, .bool sb, .int .u64 sn], .pointer (some ⟨r, 0, none⟩), .int .i64 p] w fun e' w' => e' = .returned (.tuple #[.agg #[.int .i64 s'.ck, .int .i64 s'.h, .int .i64 s'.c.key, .bool s'.c.has, .int .u64 s'.c.n], .int .i64 y, .int .i64 e]) ∧ Own w0 w' (M.set i (arena r A')) := by
 obtain ⟨T, _, O0, back⟩ := O.focD hi
 refine gent O0 Tryz.func134 ?_
 refine sg2 [.n [], .n [], .p 3, .a (.r 1), .p 2, .a (.r 1), .p 1] O0 fun b1 b2 w3 O4 => ?_
 obtain ⟨c5, b6, n7, x8, e9, hm10⟩ : ∃ c5 b6 n7 x8 e9, openC (A).l ⟨sc, sb, sn⟩ sh p = (⟨c5, b6, n7⟩, x8, e9) := ⟨_, _, _, _, _, rfl⟩
 refine gU (openEk (r := r) O4 2 (by kernel_rfl) hn hm10) fun w11 O12 => ?_
 have hk14 := openC_nk (l := (A).l) (c := ⟨sc, sb, sn⟩) (ad := sh) (p := p) hn
 rw [hm10] at hk14
 refine sg1 [.p 4, .n [], .s 0 [], .p 3] O12 fun b15 w16 O17 => ?_
 rcases Bool.eq_false_or_eq_true (e9 != 0) with h18 | h18
 · have h18p : ¬ e9 = 0 := by simpa using h18
   refine sg0 [.a (bT h18), .p 3, .s 1 [], .p 2] O17 fun w19 O20 => ?_
   simp [openS, Sy.zero, Ci.zero, hm10, h18p] at hf
   obtain ⟨rfl, rfl, rfl, rfl⟩ := hf
   exact gret [1] O20 (⟨rfl, back 3 O20⟩)
 · have h18p : e9 = 0 := by simpa using h18
   refine sg0 [.a (bT h18), .p 1, .a (.r 2), .p 1, .a (.r 0), .p 2] O17 fun w21 O22 => ?_
   obtain ⟨A23, k24, h25, c26, b27, n28, y29, e30, hm31⟩ : ∃ A23 k24 h25 c26 b27 n28 y29 e30, doneS A ⟨sk, sh, ⟨sc, sb, sn⟩⟩ ⟨c5, b6, n7⟩ p x8 = (A23, ⟨k24, h25, ⟨c26, b27, n28⟩⟩, y29, e30) := ⟨_, _, _, _, _, _, _, _, rfl⟩
   refine gS (doneE (r := r) O22 3 (by kernel_rfl) hm31) fun w32 O33 => ?_
   refine sg0 [.p 3, .s 1 [], .p 2] O33 fun w35 O36 => ?_
   simp [openS, hm10, h18p, hm31] at hf
   obtain ⟨rfl, rfl, rfl, rfl⟩ := hf
   exact gret [1] O36 (⟨rfl, back 3 O36⟩)
set_option warningAsError false in
set_option maxRecDepth 100000 in
set_option maxHeartbeats 1000000 in
theorem splitSE {w0 w : World} {M : List Thing} {r : Nat} {A A' : Ar} {sk sh sc : Int} {sb : Bool} {sn : Int} {c1 c2 : Ci} {e : Int} (O : Own w0 w M) (i : Nat) (hi : M[i]? = some (arena r A)) (hf : splitY A ⟨sk, sh, ⟨sc, sb, sn⟩⟩ = (A', c1, c2, e)) :
    Calls Tryz.prog 80 #[.agg #[.int .i64 sk, .int .i64 sh, .int .i64 sc, .bool sb, .int .u64 sn], .pointer (some ⟨r, 0, none⟩)] w fun e' w' => e' = .returned (.tuple #[.agg #[.int .i64 c1.key, .bool c1.has, .int .u64 c1.n], .agg #[.int .i64 c2.key, .bool c2.has, .int .u64 c2.n], .int .i64 e]) ∧ Own w0 w' (M.set i (arena r A')) := by
 obtain ⟨T, _, O0, back⟩ := O.focD hi
 refine gent O0 Tryz.func80 ?_
 refine sg3 [.n [], .n [], .n [], .p 3, .a (.r 2)] O0 fun b1 b2 b3 w4 O5 => ?_
 obtain ⟨A6, k7, k8, e9, hm10⟩ : ∃ A6 k7 k8 e9, keys2 A sk 0 = (A6, k7, k8, e9) := ⟨_, _, _, _, rfl⟩
 refine gS (keys2E (r := r) O5 3 (by kernel_rfl) hm10) fun w11 O12 => ?_
 refine sg1 [.p 3, .n [], .s 0 [], .p 2] O12 fun b14 w15 O16 => ?_
 rcases Bool.eq_false_or_eq_true (e9 != 0) with h17 | h17
 · have h17p : ¬ e9 = 0 := by simpa using h17
   refine sg0 [.a (bT h17), .p 4, .s 2 [], .s 1 [], .p 1] O16 fun w18 O19 => ?_
   simp [splitY, Ci.zero, hm10, h17p] at hf
   obtain ⟨rfl, rfl, rfl, rfl⟩ := hf
   exact gret [2, 1] O19 (⟨rfl, back 4 O19⟩)
 · have h17p : e9 = 0 := by simpa using h17
   refine sg0 [.a (bT h17), .p 1, .d [0], .qs [0], .q 1 (.r 0), .qs [3], .q 4 (.r 0), .o 2] O16 fun w20 O21 => ?_
   refine gU (js := [0]) (args := #[.int .i64 k7]) (cNewE O21 k7) fun w22 O23 => ?_
   refine sg0 [.o 5] O23 fun w25 O26 => ?_
   refine gU (js := [0]) (args := #[.int .i64 k8]) (cNewE O26 k8) fun w27 O28 => ?_
   refine sg0 [.o 6, .s 2 [0], .o 7, .s 1 [0], .qs [8], .z] O28 fun w30 O31 => ?_
   simp [splitY, hm10, h17p] at hf
   obtain ⟨rfl, rfl, rfl, rfl⟩ := hf
   exact gret [2, 1] O31 (⟨rfl, back 4 O31⟩)
set_option warningAsError false in
set_option maxRecDepth 100000 in
set_option maxHeartbeats 1000000 in
theorem beginE {w0 w : World} {M : List Thing} {r : Nat} {A A' : Ar} {name : List UInt8} {x : Int} {s' : Sy} {e : Int} (O : Own w0 w M) (i : Nat) (hi : M[i]? = some (arena r A)) (hf : beginS A name x = (A', s', e)) :
    Calls Tryz.prog 64 #[.pointer (some ⟨r, 0, none⟩), .string (strO name), .int .i64 x] w fun e' w' => e' = .returned (.tuple #[.agg #[.int .i64 s'.ck, .int .i64 s'.h, .int .i64 s'.c.key, .bool s'.c.has, .int .u64 s'.c.n], .int .i64 e]) ∧ Own w0 w' (M.set i (arena r A')) := by
 obtain ⟨T, _, O0, back⟩ := O.focD hi
 refine gent O0 Tryz.func64 ?_
 refine sg1 [.n [], .p 3] O0 fun b1 w2 O3 => ?_
 rcases Bool.eq_false_or_eq_true (decide ((name.length : Int) > 100)) with h4 | h4
 · have h4p : (100 < (name.length : Int)) := by simpa only [decide_eq_true_eq, decide_eq_false_iff_not] using h4
   have h4q : 100 < name.length := by omega
   refine sg0 [.a (bT h4), .p 9, .s 0 [], .p 1] O3 fun w5 O6 => ?_
   simp [beginS, Sy.zero, Ci.zero, h4q] at hf
   obtain ⟨rfl, rfl, rfl⟩ := hf
   exact gret [] O6 (⟨rfl, back 1 O6⟩)
 · have h4p : ¬ (100 < (name.length : Int)) := by simpa only [decide_eq_true_eq, decide_eq_false_iff_not] using h4
   have h4q : ¬ 100 < name.length := by omega
   refine sg1 [.a (bT h4), .p 3, .n []] O3 fun b7 w8 O9 => ?_
   obtain ⟨is10, hm11⟩ : ∃ b, (has A.l x) = b := ⟨_, rfl⟩
   refine gU (args := #[.pointer (some ⟨r, 0, none⟩), .slice (some ⟨b7, 0, none⟩) 1 1]) (hasE (xs := [x]) (t := 3) O9 2 0 (by kernel_rfl) (by kernel_rfl) (by simp) (by simpa using hm11)) fun w12 O13 => ?_
   rcases Bool.eq_false_or_eq_true (is10) with h15 | h15
   · refine sg0 [.a (bN h15), .p 6] O13 fun w16 O17 => ?_
     refine gl (fun (zz : Nat × Ar × Int) => match zz with | (k, A2, t) => [(0, .pointer (some ⟨r, 0, none⟩)), (1, .string (strO name)), (2, .int .i64 x), (6, .pointer (some ⟨b1, 0, none⟩)), (7, .int .i64 0), (8, .int .i64 t), (24, .int .i64 (name.length : Int)), (25, .int .i64 (k : Int))]) (fun (zz : Nat × Ar × Int) => match zz with | (k, A2, t) => (.blk b7 (.cells #[.int .i64 x] 3) :: .blk b1 (.cells #[.int .i64 0, .int .i64 0, .int .i64 0, .bool false, .int .u64 0] 40) :: .thing (arena r A2) :: T)) (fun (zz : Nat × Ar × Int) w => match zz with | (k, A2, t) => k ≤ name.length ∧ nameS (name.drop k) A2 t = nameS name A 0) (fun (zz : Nat × Ar × Int) => match zz with | (k, A2, t) => name.length - k) (0, A, 0) (O17.as 0) ⟨(Nat.zero_le _), rfl⟩ ?_
     rintro M20 ⟨k, A2, t⟩ w18 hM21 O19 ⟨hk, hq⟩
     rcases Bool.eq_false_or_eq_true (decide ((k : Int) < (name.length : Int))) with h22 | h22
     · have h22p : ((k : Int) < (name.length : Int)) := by simpa only [decide_eq_true_eq, decide_eq_false_iff_not] using h22
       have hk : k + 1 ≤ name.length := by have := h22p; omega
       obtain ⟨c, hc⟩ : ∃ c, name[k]? = some c := ⟨_, List.getElem?_eq_getElem hk⟩
       have hdrop := drop_at hc
       refine sg0 [.a (bT h22), .p 6, .a (.s _ k c (strO_at hc)), .a (.v (.int .u64 (IntKind.u64.wrap (c.toNat : Int))) (.int .u64 (c.toNat : Int)) (congrArg (Value.int .u64) (u8_u64 c))), .p 1] O19 fun w23 O24 => ?_
       obtain ⟨A25, y26, e27, hm28⟩ : ∃ A25 y26 e27, mk A2 ⟨9, (c.toNat : Int), 0, 0, 0⟩ = (A25, y26, e27) := ⟨_, _, _, rfl⟩
       refine gS (mkE (r := r) O24 2 (by kernel_rfl) (by omega) (by have := c.toNat_lt; omega) hm28) fun w29 O30 => ?_
       refine sg0 [.p 6] O30 fun w32 O33 => ?_
       rcases Bool.eq_false_or_eq_true (e27 == 0) with h34 | h34
       · have h34p : e27 = 0 := by simpa using h34
         refine sg0 [.a (bT h34), .p 5] O33 fun w35 O36 => ?_
         obtain ⟨A37, y38, e39, hm40⟩ : ∃ A37 y38 e39, mk A25 ⟨8, 0, t, y26, 0⟩ = (A37, y38, e39) := ⟨_, _, _, rfl⟩
         refine gS (mkE (r := r) O36 2 (by kernel_rfl) (by decide) (by decide) hm40) fun w41 O42 => ?_
         refine sg0 [.p 6] O42 fun w44 O45 => ?_
         rcases Bool.eq_false_or_eq_true (e39 != 0) with h46 | h46
         · have h46p : ¬ e39 = 0 := by simpa using h46
           refine sg0 [.a (bT h46), .p 3, .s 1 [], .p 1] O45 fun w47 O48 => ?_
           simp [beginS, Sy.zero, Ci.zero, h4q, hm11, h15, ← hq, hdrop, nameS, hm28, h34p, hm40, h46p] at hf
           obtain ⟨rfl, rfl, rfl⟩ := hf
           exact gret [1] O48 (⟨rfl, back 2 O48⟩)
         · have h46p : e39 = 0 := by simpa using h46
           refine sg0 [.a (bT h46), .p 1, .a (iW ((k : Int) + 1)), .p 1] O45 fun w49 O50 => ?_
           exact gz _ fun a F => hM21 a _ (k + 1, A37, y38) F (O50.as 0) ⟨hk, (by rw [← hq, hdrop]; simp [nameS, hm28, h34p, hm40, h46p])⟩ (show name.length - (k + 1) < name.length - k by omega)
       · have h34p : ¬ e27 = 0 := by simpa using h34
         refine sg0 [.a (bT h34), .p 2, .a (bT (bne_t h34p)), .p 3, .s 1 [], .p 1] O33 fun w51 O52 => ?_
         simp [beginS, Sy.zero, Ci.zero, h4q, hm11, h15, ← hq, hdrop, nameS, hm28, h34p] at hf
         obtain ⟨rfl, rfl, rfl⟩ := hf
         exact gret [1] O52 (⟨rfl, back 2 O52⟩)
     · have h22p : ¬ ((k : Int) < (name.length : Int)) := by simpa only [decide_eq_true_eq, decide_eq_false_iff_not] using h22
       have hq2 : nameS name A 0 = (A2, t, 0) := by rw [← hq, List.drop_eq_nil_of_le (by have := h22p; omega)]; rfl
       refine sg0 [.a (bT h22), .p 6] O19 fun w53 O54 => ?_
       obtain ⟨A55, k56, h57, c58, b59, n60, e61, hm62⟩ : ∃ A55 k56 h57 c58 b59 n60 e61, mixHashS A2 ⟨t, t, ⟨0, false, 0⟩⟩ x = (A55, ⟨k56, h57, ⟨c58, b59, n60⟩⟩, e61) := ⟨_, _, _, _, _, _, _, rfl⟩
       refine gS (mixHashE (r := r) O54 2 (by kernel_rfl) hm62) fun w63 O64 => ?_
       refine sg0 [.p 2, .s 1 [], .p 1] O64 fun w66 O67 => ?_
       simp [beginS, Ci.zero, h4q, hm11, h15, hq2, hm62] at hf
       obtain ⟨rfl, rfl, rfl⟩ := hf
       exact gret [1] O67 (⟨rfl, back 2 O67⟩)
   · refine sg0 [.a (bN h15), .p 3, .s 1 [], .p 1] O13 fun w68 O69 => ?_
     simp [beginS, Sy.zero, Ci.zero, h4q, hm11, h15] at hf
     obtain ⟨rfl, rfl, rfl⟩ := hf
     exact gret [1] O69 (⟨rfl, back 2 O69⟩)
end Go.Proofs.YtikimmgileffgaaGreatDoor
end
/- What shake's functions lean on: a clone of ints, a pattern in memory of its own (layer 12). -/
section
namespace Go.Proofs.YtikimmgileffgaaGreatDoor
open Go.RowKit

theorem cloneE {w0 w : World} {M : List Thing} {B : Option Addr} {d : Nat} {l : List Int} (O : Own w0 w M) (hh : Holds w0 B (intsV l)) (hl : l.length * 8 ≤ 140737488355328) :
    Calls Tryz.prog 90 #[.slice B l.length d] w fun e w' => ∃ B' d', e = .returned (.slice B' l.length d') ∧ Own w0 w' (rowT 3 1 (.slice B' l.length d') l.length (intsV l) :: M) := by
  have h1 := hh.below O.below
  have key : Calls Tryz.prog 90 #[.slice B l.length d] w fun e w' => ∃ v', e = .returned v' ∧ w'.ownsRow w.heap.size 3 1 v' l.length (intsV l) ∧ Below w.heap.size w w' := by
    cases B with
    | none =>
      have : l = [] := by
        rcases h1 with h1 | ⟨b, q, hb, _⟩
        · simpa [intsV] using h1
        · cases hb
      subst this
      exact (Sh.slices_Clone_int_nil 0 d w).mono fun e w' ⟨he, hw⟩ => ⟨_, he, hw ▸ World.ownsRow_nil _ _ _ _, hw ▸ Below.refl _ _⟩
    | some a =>
      rcases h1 with h1 | ⟨b, q, hb, h1⟩
      · have : l = [] := by simpa [intsV] using h1
        subst this
        exact (Sh.slices_Clone_int_zero a d w).mono fun e w' ⟨v', he, hr, _, hb⟩ => ⟨v', he, hr, hb⟩
      · cases hb
        refine (Sh.slices_Clone_int b q l.length d l w (Nat.le_refl _) hl (fun j hj => h1 j _ (by simp [intsV, hj]))).mono fun e w' ⟨v', he, hr, _, hb⟩ => ⟨v', he, ?_, hb⟩
        rw [List.take_length] at hr; exact hr
  refine key.mono fun e w' ⟨v', he, hr, hb⟩ => ?_
  obtain ⟨B', d', rfl⟩ := row_form5 hr
  exact ⟨B', d', he, O.newRow hb hr⟩
/-- A thing in which a pattern lies. -/
def HasPat (X : Thing) (x : PatV) (p : Pat) : Prop := ∀ w S, X.P w S → PatIn w (Old w) x p
theorem hasPat_pat (x : PatV) (p : Pat) : HasPat (patT x p) x p := fun _w _S h => h.1.mono h.2
theorem Own.hasPat {w0 w : World} {M : List Thing} {j : Nat} {X : Thing} {x : PatV} {p : Pat} (O : Own w0 w M) (hj : M[j]? = some X) (hX : HasPat X x p) : PatIn w (Old w) x p := by
  obtain ⟨S, h, _⟩ := O.at hj
  exact hX w S h
/-- A pattern, and a row of ints beside it. -/
def shkT (x : PatV) (p : Pat) (v : Value) (l : List Int) : Thing where
  P w S := PatIn w S x p ∧ IntsIn w S v l ∧ ∀ b, S b → b < w.heap.size
  lt _ _ h := h.2.2
  keep _ _ _ _ h u hd := ⟨h.1.keep u hd, h.2.1.keep u hd, fun b hb => Nat.lt_of_lt_of_le (h.2.2 b hb) u.size⟩
theorem hasPat_shk (x : PatV) (p : Pat) (v : Value) (l : List Int) : HasPat (shkT x p v l) x p := fun _w _S h => h.1.mono h.2.2
theorem Own.shk {w0 w : World} {M : List Thing} {x : PatV} {p : Pat} {v : Value} {l : List Int} (O : Own w0 w (rowT 3 1 v l.length (intsV l) :: patT x p :: M)) : Own w0 w (shkT x p v l :: M) :=
  O.merge fun _S _T hS hT => ⟨hT.1.mono fun _ h => .inr h, (intsIn_row hS).or, fun b hb => hb.elim ((rowT 3 1 v l.length (intsV l)).lt _ _ hS b) (hT.2 b)⟩
theorem modeE {w0 w : World} {M : List Thing} {X : Thing} {x : PatV} {p : Pat} {c : Nat} {A : Option Addr} {is : Bool} (O : Own w0 w M) (j : Nat) (hj : M[j]? = some X) (hX : HasPat X x p) (hfit : PatFits p) (hm : modeP p = is) (hA : A = x.A) :
    Calls Tryz.prog 168 #[.slice A p.msgs.length c, .func (.func 199) #[] #[]] w fun e w' => e = .returned (.bool is) ∧ Own w0 w' M := by
  subst hA
  exact anyPskE 199 (.inr rfl) O (O.hasPat hj hX).msgs hfit.msgs hfit.each hm
theorem pvx_of {w : World} {x : PatV} {p : Pat} (h : PatIn w (Old w) x p) : ∃ a0 c0 a1 c1 am cm, x = pvx a0 c0 a1 c1 am cm p := by
  obtain ⟨v0, v1, A, c⟩ := x
  obtain ⟨a0, c0, h0, _⟩ := h.pre0
  obtain ⟨a1, c1, h1, _⟩ := h.pre1
  simp only at h0 h1
  subst h0 h1
  exact ⟨a0, c0, a1, c1, A, c, rfl⟩
theorem parseX {w0 w : World} {M : List Thing} {p : Pat} (O : Own w0 w M) (he : EnvS w0) (hfit : PatFits p) (hr : rightP p = true) :
    Calls Tryz.prog 62 #[.string (strO (printT p))] w fun e w' => ∃ a0 c0 a1 c1 am cm, e = .returned (.tuple #[.agg #[.string (strO p.name), .slice a0 p.pre0.length c0, .slice a1 p.pre1.length c1, .slice am p.msgs.length cm], .int .i64 0]) ∧ Own w0 w' (patT (pvx a0 c0 a1 c1 am cm p) p :: M) :=
  (parseE O he hfit hr).mono fun e w' ⟨x, h1, h2⟩ => by
    obtain ⟨a0, c0, a1, c1, am, cm, rfl⟩ := pvx_of (h2.hasPat (j := 0) rfl (hasPat_pat _ _))
    exact ⟨a0, c0, a1, c1, am, cm, h1, h2⟩
end Go.Proofs.YtikimmgileffgaaGreatDoor
end
