/- Packed by packn.py: ValT, ValM. -/
import Derived.Test.YtikimmgileffgaaGreatDoorQk10
import Derived.Test.YtikimmgileffgaaGreatDoorQk11
/- The rules of patterns (layer 7): a token. Printed by s_valid.py. -/
section
namespace Go.Proofs.YtikimmgileffgaaGreatDoor
open Go.RowKit
set_option warningAsError false in
set_option maxRecDepth 100000 in
set_option maxHeartbeats 2000000 in
theorem tokenE01 {w0 w : World} {M : List Thing} {b : Nat} {f f' : Nat → Bool} {e : Int} (O : Own w0 w M) (i : Nat) (hi : M[i]? = some (blk b (vObj f))) (hf : tokV f 0 1 = (e, f')) :
    Calls Tryz.prog 185 #[.pointer (some ⟨b, 0, none⟩), .int .i64 0, .int .i64 1] w fun e' w' => e' = .returned (.int .i64 e) ∧ Own w0 w' (M.set i (blk b (vObj f'))) := by
 obtain ⟨T, _, O0, back⟩ := O.focD hi
 replace O0 : Own _ _ (List.map Ent.t (.blk b (.cells #[.bool (f 0), .bool (f 1), .bool (f 2), .bool (f 3), .bool (f 4), .bool (f 5), .bool (f 6), .bool (f 7), .bool (f 8), .bool (f 9), .bool (f 10), .bool (f 11), .bool (f 12), .bool (f 13), .bool (f 14), .bool (f 15)] 256) :: T)) := O0
 refine gent O0 Tryz.func185 ?_
 refine sg0 [.p 16] O0 fun w1 O2 => ?_
 rcases Bool.eq_false_or_eq_true (f 1) with h3 | h3
 · refine sg0 [.a (bR 0 h3), .p 2] O2 fun w4 O5 => ?_
   simp [tokV, h3] at hf
   obtain ⟨rfl, rfl⟩ := hf
   exact gret [] O5 (⟨rfl, back 0 O5⟩)
 · refine sg0 [.a (bR 0 h3), .p 3] O2 fun w6 O7 => ?_
   refine gB O7 (args := #[.pointer (some ⟨b, 0, none⟩), .int .i64 0]) (sealing_calls0 (f := f) (O7.blk (i := 0) (by kernel_rfl))) fun w8 O9 => ?_
   refine sg0 [.p 21, .s 0 [], .p 4] O9 fun w11 O12 => ?_
   rcases Bool.eq_false_or_eq_true (f 15) with h13 | h13
   · refine sg0 [.a (bR 0 h13), .p 12, .s 0 [], .p 1] O12 fun w14 O15 => ?_
     simp [tokV, h3, h13] at hf
     obtain ⟨rfl, rfl⟩ := hf
     exact gret [] O15 (⟨rfl, back 0 O15⟩)
   · refine sg0 [.a (bR 0 h13), .p 7] O12 fun w16 O17 => ?_
     rcases Bool.eq_false_or_eq_true (f 14) with h18 | h18
     · refine sg0 [.a (bR 0 h18), .p 4, .s 0 [], .p 1] O17 fun w19 O20 => ?_
       simp [tokV, h3, h13, h18] at hf
       obtain ⟨rfl, rfl⟩ := hf
       exact gret [] O20 (⟨rfl, back 0 O20⟩)
     · refine sg0 [.a (bR 0 h18), .p 4, .s 0 [], .p 1] O17 fun w21 O22 => ?_
       simp [tokV, h3, h13, h18] at hf
       obtain ⟨rfl, rfl⟩ := hf
       exact gret [] O22 (⟨rfl, back 0 O22⟩)
set_option warningAsError false in
set_option maxRecDepth 100000 in
set_option maxHeartbeats 2000000 in
theorem tokenE02 {w0 w : World} {M : List Thing} {b : Nat} {f f' : Nat → Bool} {e : Int} (O : Own w0 w M) (i : Nat) (hi : M[i]? = some (blk b (vObj f))) (hf : tokV f 0 2 = (e, f')) :
    Calls Tryz.prog 185 #[.pointer (some ⟨b, 0, none⟩), .int .i64 0, .int .i64 2] w fun e' w' => e' = .returned (.int .i64 e) ∧ Own w0 w' (M.set i (blk b (vObj f'))) := by
 obtain ⟨T, _, O0, back⟩ := O.focD hi
 replace O0 : Own _ _ (List.map Ent.t (.blk b (.cells #[.bool (f 0), .bool (f 1), .bool (f 2), .bool (f 3), .bool (f 4), .bool (f 5), .bool (f 6), .bool (f 7), .bool (f 8), .bool (f 9), .bool (f 10), .bool (f 11), .bool (f 12), .bool (f 13), .bool (f 14), .bool (f 15)] 256) :: T)) := O0
 refine gent O0 Tryz.func185 ?_
 refine sg0 [.p 16] O0 fun w1 O2 => ?_
 rcases Bool.eq_false_or_eq_true (f 2) with h3 | h3
 · refine sg0 [.a (bR 0 h3), .p 2] O2 fun w4 O5 => ?_
   simp [tokV, h3] at hf
   obtain ⟨rfl, rfl⟩ := hf
   exact gret [] O5 (⟨rfl, back 0 O5⟩)
 · refine sg0 [.a (bR 0 h3), .p 3] O2 fun w6 O7 => ?_
   refine gB O7 (args := #[.pointer (some ⟨b, 0, none⟩), .int .i64 0]) (sealing_calls0 (f := f) (O7.blk (i := 0) (by kernel_rfl))) fun w8 O9 => ?_
   refine sg0 [.p 7] O9 fun w11 O12 => ?_
   rcases Bool.eq_false_or_eq_true (f 15) with h13 | h13
   · refine sg0 [.a (bR 0 h13), .p 3] O12 fun w14 O15 => ?_
     rcases Bool.eq_false_or_eq_true (decide ((forbV f 0) > 0)) with h16 | h16
     · have h16p : (0 < (forbV f 0)) := by simpa only [decide_eq_true_eq, decide_eq_false_iff_not] using h16
       refine sg0 [.a (bT h16), .p 4] O15 fun w17 O18 => ?_
       simp [tokV, h3, h13, h16p] at hf
       obtain ⟨rfl, rfl⟩ := hf
       exact gret [] O18 (⟨rfl, back 0 O18⟩)
     · have h16p : ¬ (0 < (forbV f 0)) := by simpa only [decide_eq_true_eq, decide_eq_false_iff_not] using h16
       refine sg0 [.a (bT h16), .p 9, .s 0 [], .p 4, .a (bR 0 h13), .p 12, .s 0 [], .p 1] O15 fun w19 O20 => ?_
       simp [tokV, h3, h13, h16p] at hf
       obtain ⟨rfl, rfl⟩ := hf
       exact gret [] O20 (⟨rfl, back 0 O20⟩)
   · refine sg0 [.a (bR 0 h13), .p 13, .s 0 [], .p 4, .a (bR 0 h13), .p 12, .s 0 [], .p 1] O12 fun w21 O22 => ?_
     simp [tokV, h3, h13] at hf
     obtain ⟨rfl, rfl⟩ := hf
     exact gret [] O22 (⟨rfl, back 0 O22⟩)
set_option warningAsError false in
set_option maxRecDepth 100000 in
set_option maxHeartbeats 2000000 in
theorem tokenE03 {w0 w : World} {M : List Thing} {b : Nat} {f f' : Nat → Bool} {e : Int} (O : Own w0 w M) (i : Nat) (hi : M[i]? = some (blk b (vObj f))) (hf : tokV f 0 3 = (e, f')) :
    Calls Tryz.prog 185 #[.pointer (some ⟨b, 0, none⟩), .int .i64 0, .int .i64 3] w fun e' w' => e' = .returned (.int .i64 e) ∧ Own w0 w' (M.set i (blk b (vObj f'))) := by
 obtain ⟨T, _, O0, back⟩ := O.focD hi
 replace O0 : Own _ _ (List.map Ent.t (.blk b (.cells #[.bool (f 0), .bool (f 1), .bool (f 2), .bool (f 3), .bool (f 4), .bool (f 5), .bool (f 6), .bool (f 7), .bool (f 8), .bool (f 9), .bool (f 10), .bool (f 11), .bool (f 12), .bool (f 13), .bool (f 14), .bool (f 15)] 256) :: T)) := O0
 refine gent O0 Tryz.func185 ?_
 refine sg0 [.p 9, .d [], .qs [0, 1, 2, 3, 4, 7, 8, 9], .o 5] O0 fun w1 O2 => ?_
 refine gi (args := #[.int .i64 3]) Tryz.func202 O2 fun O2i => ?_
 refine sg1 [.n [], .p 7, .s 0 []] O2i fun b3 w4 O5 => ?_
 refine gir [] O5 fun O6 => ?_
 refine sg0 [.qs [6, 10]] O6 fun w7 O8 => ?_
 rcases Bool.eq_false_or_eq_true (f 1) with h9 | h9
 · refine sg0 [.o 11, .a (bR 1 h9), .qs [12, 13, 14, 15, 18, 19, 20], .o 16] O8 fun w10 O11 => ?_
   refine gi (args := #[.int .i64 3]) Tryz.func202 O11 fun O11i => ?_
   refine sg1 [.n [], .p 7, .s 0 []] O11i fun b12 w13 O14 => ?_
   refine gir [] O14 fun O15 => ?_
   refine sg0 [.qs [17, 21]] O15 fun w16 O17 => ?_
   rcases Bool.eq_false_or_eq_true (f 4) with h18 | h18
   · refine sg0 [.o 22, .a (bR 2 h18), .qs [23, 24, 25, 26], .z, .p 9] O17 fun w19 O20 => ?_
     rcases Bool.eq_false_or_eq_true (f 9) with h21 | h21
     · refine sg0 [.a (bR 2 h21), .p 4] O20 fun w22 O23 => ?_
       simp [tokV, pA, pB, h9, h18, h21] at hf
       obtain ⟨rfl, rfl⟩ := hf
       exact gret [] O23 (⟨rfl, back 2 O23⟩)
     · refine sg0 [.a (bR 2 h21), .p 9, .s 2 [], .p 2, .s 2 [], .p 1] O20 fun w24 O25 => ?_
       simp [tokV, pA, pB, h9, h18, h21] at hf
       obtain ⟨rfl, rfl⟩ := hf
       exact gret [] O25 (⟨rfl, back 2 O25⟩)
   · refine sg0 [.o 22, .a (bR 2 h18), .qs [23, 24, 25, 26], .z, .p 2] O17 fun w26 O27 => ?_
     simp [tokV, pA, pB, h9, h18] at hf
     obtain ⟨rfl, rfl⟩ := hf
     exact gret [] O27 (⟨rfl, back 2 O27⟩)
 · refine sg0 [.o 11, .a (bR 1 h9), .qs [12, 13, 14, 15, 16, 17, 18, 19, 20, 21, 22, 23, 24, 25, 26], .z, .p 2] O8 fun w28 O29 => ?_
   simp [tokV, pA, pB, h9] at hf
   obtain ⟨rfl, rfl⟩ := hf
   exact gret [] O29 (⟨rfl, back 1 O29⟩)
set_option warningAsError false in
set_option maxRecDepth 100000 in
set_option maxHeartbeats 2000000 in
theorem tokenE04 {w0 w : World} {M : List Thing} {b : Nat} {f f' : Nat → Bool} {e : Int} (O : Own w0 w M) (i : Nat) (hi : M[i]? = some (blk b (vObj f))) (hf : tokV f 0 4 = (e, f')) :
    Calls Tryz.prog 185 #[.pointer (some ⟨b, 0, none⟩), .int .i64 0, .int .i64 4] w fun e' w' => e' = .returned (.int .i64 e) ∧ Own w0 w' (M.set i (blk b (vObj f'))) := by
 obtain ⟨T, _, O0, back⟩ := O.focD hi
 replace O0 : Own _ _ (List.map Ent.t (.blk b (.cells #[.bool (f 0), .bool (f 1), .bool (f 2), .bool (f 3), .bool (f 4), .bool (f 5), .bool (f 6), .bool (f 7), .bool (f 8), .bool (f 9), .bool (f 10), .bool (f 11), .bool (f 12), .bool (f 13), .bool (f 14), .bool (f 15)] 256) :: T)) := O0
 refine gent O0 Tryz.func185 ?_
 refine sg0 [.p 9, .d [], .qs [0, 1, 2, 3, 4, 7, 8, 9], .o 5] O0 fun w1 O2 => ?_
 refine gi (args := #[.int .i64 4]) Tryz.func202 O2 fun O2i => ?_
 refine sg1 [.n [], .p 7, .s 0 []] O2i fun b3 w4 O5 => ?_
 refine gir [] O5 fun O6 => ?_
 refine sg0 [.qs [6, 10]] O6 fun w7 O8 => ?_
 rcases Bool.eq_false_or_eq_true (f 1) with h9 | h9
 · refine sg0 [.o 11, .a (bR 1 h9), .qs [12, 13, 14, 15, 18, 19, 20], .o 16] O8 fun w10 O11 => ?_
   refine gi (args := #[.int .i64 4]) Tryz.func202 O11 fun O11i => ?_
   refine sg1 [.n [], .p 7, .s 0 []] O11i fun b12 w13 O14 => ?_
   refine gir [] O14 fun O15 => ?_
   refine sg0 [.qs [17, 21]] O15 fun w16 O17 => ?_
   rcases Bool.eq_false_or_eq_true (f 5) with h18 | h18
   · refine sg0 [.o 22, .a (bR 2 h18), .qs [23, 24, 25, 26], .z, .p 9] O17 fun w19 O20 => ?_
     rcases Bool.eq_false_or_eq_true (f 10) with h21 | h21
     · refine sg0 [.a (bR 2 h21), .p 4] O20 fun w22 O23 => ?_
       simp [tokV, pA, pB, h9, h18, h21] at hf
       obtain ⟨rfl, rfl⟩ := hf
       exact gret [] O23 (⟨rfl, back 2 O23⟩)
     · refine sg0 [.a (bR 2 h21), .p 9, .s 2 [], .p 2, .s 2 [], .p 1] O20 fun w24 O25 => ?_
       simp [tokV, pA, pB, h9, h18, h21] at hf
       obtain ⟨rfl, rfl⟩ := hf
       exact gret [] O25 (⟨rfl, back 2 O25⟩)
   · refine sg0 [.o 22, .a (bR 2 h18), .qs [23, 24, 25, 26], .z, .p 2] O17 fun w26 O27 => ?_
     simp [tokV, pA, pB, h9, h18] at hf
     obtain ⟨rfl, rfl⟩ := hf
     exact gret [] O27 (⟨rfl, back 2 O27⟩)
 · refine sg0 [.o 11, .a (bR 1 h9), .qs [12, 13, 14, 15, 16, 17, 18, 19, 20, 21, 22, 23, 24, 25, 26], .z, .p 2] O8 fun w28 O29 => ?_
   simp [tokV, pA, pB, h9] at hf
   obtain ⟨rfl, rfl⟩ := hf
   exact gret [] O29 (⟨rfl, back 1 O29⟩)
set_option warningAsError false in
set_option maxRecDepth 100000 in
set_option maxHeartbeats 2000000 in
theorem tokenE05 {w0 w : World} {M : List Thing} {b : Nat} {f f' : Nat → Bool} {e : Int} (O : Own w0 w M) (i : Nat) (hi : M[i]? = some (blk b (vObj f))) (hf : tokV f 0 5 = (e, f')) :
    Calls Tryz.prog 185 #[.pointer (some ⟨b, 0, none⟩), .int .i64 0, .int .i64 5] w fun e' w' => e' = .returned (.int .i64 e) ∧ Own w0 w' (M.set i (blk b (vObj f'))) := by
 obtain ⟨T, _, O0, back⟩ := O.focD hi
 replace O0 : Own _ _ (List.map Ent.t (.blk b (.cells #[.bool (f 0), .bool (f 1), .bool (f 2), .bool (f 3), .bool (f 4), .bool (f 5), .bool (f 6), .bool (f 7), .bool (f 8), .bool (f 9), .bool (f 10), .bool (f 11), .bool (f 12), .bool (f 13), .bool (f 14), .bool (f 15)] 256) :: T)) := O0
 refine gent O0 Tryz.func185 ?_
 refine sg0 [.p 9, .d [], .qs [0, 1, 2, 3, 4, 7, 8, 9], .o 5] O0 fun w1 O2 => ?_
 refine gi (args := #[.int .i64 5]) Tryz.func202 O2 fun O2i => ?_
 refine sg1 [.n [], .p 7, .s 0 []] O2i fun b3 w4 O5 => ?_
 refine gir [] O5 fun O6 => ?_
 refine sg0 [.qs [6, 10]] O6 fun w7 O8 => ?_
 rcases Bool.eq_false_or_eq_true (f 2) with h9 | h9
 · refine sg0 [.o 11, .a (bR 1 h9), .qs [12, 13, 14, 15, 18, 19, 20], .o 16] O8 fun w10 O11 => ?_
   refine gi (args := #[.int .i64 5]) Tryz.func202 O11 fun O11i => ?_
   refine sg1 [.n [], .p 7, .s 0 []] O11i fun b12 w13 O14 => ?_
   refine gir [] O14 fun O15 => ?_
   refine sg0 [.qs [17, 21]] O15 fun w16 O17 => ?_
   rcases Bool.eq_false_or_eq_true (f 4) with h18 | h18
   · refine sg0 [.o 22, .a (bR 2 h18), .qs [23, 24, 25, 26], .z, .p 9] O17 fun w19 O20 => ?_
     rcases Bool.eq_false_or_eq_true (f 11) with h21 | h21
     · refine sg0 [.a (bR 2 h21), .p 4] O20 fun w22 O23 => ?_
       simp [tokV, pA, pB, h9, h18, h21] at hf
       obtain ⟨rfl, rfl⟩ := hf
       exact gret [] O23 (⟨rfl, back 2 O23⟩)
     · refine sg0 [.a (bR 2 h21), .p 9, .s 2 [], .p 2, .s 2 [], .p 1] O20 fun w24 O25 => ?_
       simp [tokV, pA, pB, h9, h18, h21] at hf
       obtain ⟨rfl, rfl⟩ := hf
       exact gret [] O25 (⟨rfl, back 2 O25⟩)
   · refine sg0 [.o 22, .a (bR 2 h18), .qs [23, 24, 25, 26], .z, .p 2] O17 fun w26 O27 => ?_
     simp [tokV, pA, pB, h9, h18] at hf
     obtain ⟨rfl, rfl⟩ := hf
     exact gret [] O27 (⟨rfl, back 2 O27⟩)
 · refine sg0 [.o 11, .a (bR 1 h9), .qs [12, 13, 14, 15, 16, 17, 18, 19, 20, 21, 22, 23, 24, 25, 26], .z, .p 2] O8 fun w28 O29 => ?_
   simp [tokV, pA, pB, h9] at hf
   obtain ⟨rfl, rfl⟩ := hf
   exact gret [] O29 (⟨rfl, back 1 O29⟩)
set_option warningAsError false in
set_option maxRecDepth 100000 in
set_option maxHeartbeats 2000000 in
theorem tokenE06 {w0 w : World} {M : List Thing} {b : Nat} {f f' : Nat → Bool} {e : Int} (O : Own w0 w M) (i : Nat) (hi : M[i]? = some (blk b (vObj f))) (hf : tokV f 0 6 = (e, f')) :
    Calls Tryz.prog 185 #[.pointer (some ⟨b, 0, none⟩), .int .i64 0, .int .i64 6] w fun e' w' => e' = .returned (.int .i64 e) ∧ Own w0 w' (M.set i (blk b (vObj f'))) := by
 obtain ⟨T, _, O0, back⟩ := O.focD hi
 replace O0 : Own _ _ (List.map Ent.t (.blk b (.cells #[.bool (f 0), .bool (f 1), .bool (f 2), .bool (f 3), .bool (f 4), .bool (f 5), .bool (f 6), .bool (f 7), .bool (f 8), .bool (f 9), .bool (f 10), .bool (f 11), .bool (f 12), .bool (f 13), .bool (f 14), .bool (f 15)] 256) :: T)) := O0
 refine gent O0 Tryz.func185 ?_
 refine sg0 [.p 9, .d [], .qs [0, 1, 2, 3, 4, 7, 8, 9], .o 5] O0 fun w1 O2 => ?_
 refine gi (args := #[.int .i64 6]) Tryz.func202 O2 fun O2i => ?_
 refine sg1 [.n [], .p 7, .s 0 []] O2i fun b3 w4 O5 => ?_
 refine gir [] O5 fun O6 => ?_
 refine sg0 [.qs [6, 10]] O6 fun w7 O8 => ?_
 rcases Bool.eq_false_or_eq_true (f 2) with h9 | h9
 · refine sg0 [.o 11, .a (bR 1 h9), .qs [12, 13, 14, 15, 18, 19, 20], .o 16] O8 fun w10 O11 => ?_
   refine gi (args := #[.int .i64 6]) Tryz.func202 O11 fun O11i => ?_
   refine sg1 [.n [], .p 7, .s 0 []] O11i fun b12 w13 O14 => ?_
   refine gir [] O14 fun O15 => ?_
   refine sg0 [.qs [17, 21]] O15 fun w16 O17 => ?_
   rcases Bool.eq_false_or_eq_true (f 5) with h18 | h18
   · refine sg0 [.o 22, .a (bR 2 h18), .qs [23, 24, 25, 26], .z, .p 9] O17 fun w19 O20 => ?_
     rcases Bool.eq_false_or_eq_true (f 12) with h21 | h21
     · refine sg0 [.a (bR 2 h21), .p 4] O20 fun w22 O23 => ?_
       simp [tokV, pA, pB, h9, h18, h21] at hf
       obtain ⟨rfl, rfl⟩ := hf
       exact gret [] O23 (⟨rfl, back 2 O23⟩)
     · refine sg0 [.a (bR 2 h21), .p 9, .s 2 [], .p 2, .s 2 [], .p 1] O20 fun w24 O25 => ?_
       simp [tokV, pA, pB, h9, h18, h21] at hf
       obtain ⟨rfl, rfl⟩ := hf
       exact gret [] O25 (⟨rfl, back 2 O25⟩)
   · refine sg0 [.o 22, .a (bR 2 h18), .qs [23, 24, 25, 26], .z, .p 2] O17 fun w26 O27 => ?_
     simp [tokV, pA, pB, h9, h18] at hf
     obtain ⟨rfl, rfl⟩ := hf
     exact gret [] O27 (⟨rfl, back 2 O27⟩)
 · refine sg0 [.o 11, .a (bR 1 h9), .qs [12, 13, 14, 15, 16, 17, 18, 19, 20, 21, 22, 23, 24, 25, 26], .z, .p 2] O8 fun w28 O29 => ?_
   simp [tokV, pA, pB, h9] at hf
   obtain ⟨rfl, rfl⟩ := hf
   exact gret [] O29 (⟨rfl, back 1 O29⟩)
set_option warningAsError false in
set_option maxRecDepth 100000 in
set_option maxHeartbeats 2000000 in
theorem tokenE07 {w0 w : World} {M : List Thing} {b : Nat} {f f' : Nat → Bool} {e : Int} (O : Own w0 w M) (i : Nat) (hi : M[i]? = some (blk b (vObj f))) (hf : tokV f 0 7 = (e, f')) :
    Calls Tryz.prog 185 #[.pointer (some ⟨b, 0, none⟩), .int .i64 0, .int .i64 7] w fun e' w' => e' = .returned (.int .i64 e) ∧ Own w0 w' (M.set i (blk b (vObj f'))) := by
 obtain ⟨T, _, O0, back⟩ := O.focD hi
 replace O0 : Own _ _ (List.map Ent.t (.blk b (.cells #[.bool (f 0), .bool (f 1), .bool (f 2), .bool (f 3), .bool (f 4), .bool (f 5), .bool (f 6), .bool (f 7), .bool (f 8), .bool (f 9), .bool (f 10), .bool (f 11), .bool (f 12), .bool (f 13), .bool (f 14), .bool (f 15)] 256) :: T)) := O0
 refine gent O0 Tryz.func185 ?_
 refine sg0 [.p 9, .d [], .qs [0, 1, 2, 3, 4, 5, 6, 7, 8, 9, 10, 11, 12, 13, 14, 15, 16, 17, 18, 19, 20, 21, 22, 23, 24, 25, 26], .z, .p 19, .s 0 [], .p 2, .s 0 [], .p 1] O0 fun w1 O2 => ?_
 simp [tokV, pA, pB] at hf
 obtain ⟨rfl, rfl⟩ := hf
 exact gret [] O2 (⟨rfl, back 0 O2⟩)
set_option warningAsError false in
set_option maxRecDepth 100000 in
set_option maxHeartbeats 2000000 in
theorem tokenE11 {w0 w : World} {M : List Thing} {b : Nat} {f f' : Nat → Bool} {e : Int} (O : Own w0 w M) (i : Nat) (hi : M[i]? = some (blk b (vObj f))) (hf : tokV f 1 1 = (e, f')) :
    Calls Tryz.prog 185 #[.pointer (some ⟨b, 0, none⟩), .int .i64 1, .int .i64 1] w fun e' w' => e' = .returned (.int .i64 e) ∧ Own w0 w' (M.set i (blk b (vObj f'))) := by
 obtain ⟨T, _, O0, back⟩ := O.focD hi
 replace O0 : Own _ _ (List.map Ent.t (.blk b (.cells #[.bool (f 0), .bool (f 1), .bool (f 2), .bool (f 3), .bool (f 4), .bool (f 5), .bool (f 6), .bool (f 7), .bool (f 8), .bool (f 9), .bool (f 10), .bool (f 11), .bool (f 12), .bool (f 13), .bool (f 14), .bool (f 15)] 256) :: T)) := O0
 refine gent O0 Tryz.func185 ?_
 refine sg0 [.p 16] O0 fun w1 O2 => ?_
 rcases Bool.eq_false_or_eq_true (f 4) with h3 | h3
 · refine sg0 [.a (bR 0 h3), .p 2] O2 fun w4 O5 => ?_
   simp [tokV, h3] at hf
   obtain ⟨rfl, rfl⟩ := hf
   exact gret [] O5 (⟨rfl, back 0 O5⟩)
 · refine sg0 [.a (bR 0 h3), .p 3] O2 fun w6 O7 => ?_
   refine gB O7 (args := #[.pointer (some ⟨b, 0, none⟩), .int .i64 1]) (sealing_calls1 (f := f) (O7.blk (i := 0) (by kernel_rfl))) fun w8 O9 => ?_
   refine sg0 [.p 21, .s 0 [], .p 4] O9 fun w11 O12 => ?_
   rcases Bool.eq_false_or_eq_true (f 15) with h13 | h13
   · refine sg0 [.a (bR 0 h13), .p 12, .s 0 [], .p 1] O12 fun w14 O15 => ?_
     simp [tokV, h3, h13] at hf
     obtain ⟨rfl, rfl⟩ := hf
     exact gret [] O15 (⟨rfl, back 0 O15⟩)
   · refine sg0 [.a (bR 0 h13), .p 7] O12 fun w16 O17 => ?_
     rcases Bool.eq_false_or_eq_true (f 14) with h18 | h18
     · refine sg0 [.a (bR 0 h18), .p 4, .s 0 [], .p 1] O17 fun w19 O20 => ?_
       simp [tokV, h3, h13, h18] at hf
       obtain ⟨rfl, rfl⟩ := hf
       exact gret [] O20 (⟨rfl, back 0 O20⟩)
     · refine sg0 [.a (bR 0 h18), .p 4, .s 0 [], .p 1] O17 fun w21 O22 => ?_
       simp [tokV, h3, h13, h18] at hf
       obtain ⟨rfl, rfl⟩ := hf
       exact gret [] O22 (⟨rfl, back 0 O22⟩)
set_option warningAsError false in
set_option maxRecDepth 100000 in
set_option maxHeartbeats 2000000 in
theorem tokenE12 {w0 w : World} {M : List Thing} {b : Nat} {f f' : Nat → Bool} {e : Int} (O : Own w0 w M) (i : Nat) (hi : M[i]? = some (blk b (vObj f))) (hf : tokV f 1 2 = (e, f')) :
    Calls Tryz.prog 185 #[.pointer (some ⟨b, 0, none⟩), .int .i64 1, .int .i64 2] w fun e' w' => e' = .returned (.int .i64 e) ∧ Own w0 w' (M.set i (blk b (vObj f'))) := by
 obtain ⟨T, _, O0, back⟩ := O.focD hi
 replace O0 : Own _ _ (List.map Ent.t (.blk b (.cells #[.bool (f 0), .bool (f 1), .bool (f 2), .bool (f 3), .bool (f 4), .bool (f 5), .bool (f 6), .bool (f 7), .bool (f 8), .bool (f 9), .bool (f 10), .bool (f 11), .bool (f 12), .bool (f 13), .bool (f 14), .bool (f 15)] 256) :: T)) := O0
 refine gent O0 Tryz.func185 ?_
 refine sg0 [.p 16] O0 fun w1 O2 => ?_
 rcases Bool.eq_false_or_eq_true (f 5) with h3 | h3
 · refine sg0 [.a (bR 0 h3), .p 2] O2 fun w4 O5 => ?_
   simp [tokV, h3] at hf
   obtain ⟨rfl, rfl⟩ := hf
   exact gret [] O5 (⟨rfl, back 0 O5⟩)
 · refine sg0 [.a (bR 0 h3), .p 3] O2 fun w6 O7 => ?_
   refine gB O7 (args := #[.pointer (some ⟨b, 0, none⟩), .int .i64 1]) (sealing_calls1 (f := f) (O7.blk (i := 0) (by kernel_rfl))) fun w8 O9 => ?_
   refine sg0 [.p 7] O9 fun w11 O12 => ?_
   rcases Bool.eq_false_or_eq_true (f 15) with h13 | h13
   · refine sg0 [.a (bR 0 h13), .p 3] O12 fun w14 O15 => ?_
     rcases Bool.eq_false_or_eq_true (decide ((forbV f 1) > 0)) with h16 | h16
     · have h16p : (0 < (forbV f 1)) := by simpa only [decide_eq_true_eq, decide_eq_false_iff_not] using h16
       refine sg0 [.a (bT h16), .p 4] O15 fun w17 O18 => ?_
       simp [tokV, h3, h13, h16p] at hf
       obtain ⟨rfl, rfl⟩ := hf
       exact gret [] O18 (⟨rfl, back 0 O18⟩)
     · have h16p : ¬ (0 < (forbV f 1)) := by simpa only [decide_eq_true_eq, decide_eq_false_iff_not] using h16
       refine sg0 [.a (bT h16), .p 9, .s 0 [], .p 4, .a (bR 0 h13), .p 12, .s 0 [], .p 1] O15 fun w19 O20 => ?_
       simp [tokV, h3, h13, h16p] at hf
       obtain ⟨rfl, rfl⟩ := hf
       exact gret [] O20 (⟨rfl, back 0 O20⟩)
   · refine sg0 [.a (bR 0 h13), .p 13, .s 0 [], .p 4, .a (bR 0 h13), .p 12, .s 0 [], .p 1] O12 fun w21 O22 => ?_
     simp [tokV, h3, h13] at hf
     obtain ⟨rfl, rfl⟩ := hf
     exact gret [] O22 (⟨rfl, back 0 O22⟩)
set_option warningAsError false in
set_option maxRecDepth 100000 in
set_option maxHeartbeats 2000000 in
theorem tokenE13 {w0 w : World} {M : List Thing} {b : Nat} {f f' : Nat → Bool} {e : Int} (O : Own w0 w M) (i : Nat) (hi : M[i]? = some (blk b (vObj f))) (hf : tokV f 1 3 = (e, f')) :
    Calls Tryz.prog 185 #[.pointer (some ⟨b, 0, none⟩), .int .i64 1, .int .i64 3] w fun e' w' => e' = .returned (.int .i64 e) ∧ Own w0 w' (M.set i (blk b (vObj f'))) := by
 obtain ⟨T, _, O0, back⟩ := O.focD hi
 replace O0 : Own _ _ (List.map Ent.t (.blk b (.cells #[.bool (f 0), .bool (f 1), .bool (f 2), .bool (f 3), .bool (f 4), .bool (f 5), .bool (f 6), .bool (f 7), .bool (f 8), .bool (f 9), .bool (f 10), .bool (f 11), .bool (f 12), .bool (f 13), .bool (f 14), .bool (f 15)] 256) :: T)) := O0
 refine gent O0 Tryz.func185 ?_
 refine sg0 [.p 9, .d [], .qs [0, 1, 2, 3, 4, 7, 8, 9], .o 5] O0 fun w1 O2 => ?_
 refine gi (args := #[.int .i64 3]) Tryz.func202 O2 fun O2i => ?_
 refine sg1 [.n [], .p 7, .s 0 []] O2i fun b3 w4 O5 => ?_
 refine gir [] O5 fun O6 => ?_
 refine sg0 [.qs [6, 10]] O6 fun w7 O8 => ?_
 rcases Bool.eq_false_or_eq_true (f 1) with h9 | h9
 · refine sg0 [.o 11, .a (bR 1 h9), .qs [12, 13, 14, 15, 18, 19, 20], .o 16] O8 fun w10 O11 => ?_
   refine gi (args := #[.int .i64 3]) Tryz.func202 O11 fun O11i => ?_
   refine sg1 [.n [], .p 7, .s 0 []] O11i fun b12 w13 O14 => ?_
   refine gir [] O14 fun O15 => ?_
   refine sg0 [.qs [17, 21]] O15 fun w16 O17 => ?_
   rcases Bool.eq_false_or_eq_true (f 4) with h18 | h18
   · refine sg0 [.o 22, .a (bR 2 h18), .qs [23, 24, 25, 26], .z, .p 9] O17 fun w19 O20 => ?_
     rcases Bool.eq_false_or_eq_true (f 9) with h21 | h21
     · refine sg0 [.a (bR 2 h21), .p 4] O20 fun w22 O23 => ?_
       simp [tokV, pA, pB, h9, h18, h21] at hf
       obtain ⟨rfl, rfl⟩ := hf
       exact gret [] O23 (⟨rfl, back 2 O23⟩)
     · refine sg0 [.a (bR 2 h21), .p 9, .s 2 [], .p 2, .s 2 [], .p 1] O20 fun w24 O25 => ?_
       simp [tokV, pA, pB, h9, h18, h21] at hf
       obtain ⟨rfl, rfl⟩ := hf
       exact gret [] O25 (⟨rfl, back 2 O25⟩)
   · refine sg0 [.o 22, .a (bR 2 h18), .qs [23, 24, 25, 26], .z, .p 2] O17 fun w26 O27 => ?_
     simp [tokV, pA, pB, h9, h18] at hf
     obtain ⟨rfl, rfl⟩ := hf
     exact gret [] O27 (⟨rfl, back 2 O27⟩)
 · refine sg0 [.o 11, .a (bR 1 h9), .qs [12, 13, 14, 15, 16, 17, 18, 19, 20, 21, 22, 23, 24, 25, 26], .z, .p 2] O8 fun w28 O29 => ?_
   simp [tokV, pA, pB, h9] at hf
   obtain ⟨rfl, rfl⟩ := hf
   exact gret [] O29 (⟨rfl, back 1 O29⟩)
set_option warningAsError false in
set_option maxRecDepth 100000 in
set_option maxHeartbeats 2000000 in
theorem tokenE14 {w0 w : World} {M : List Thing} {b : Nat} {f f' : Nat → Bool} {e : Int} (O : Own w0 w M) (i : Nat) (hi : M[i]? = some (blk b (vObj f))) (hf : tokV f 1 4 = (e, f')) :
    Calls Tryz.prog 185 #[.pointer (some ⟨b, 0, none⟩), .int .i64 1, .int .i64 4] w fun e' w' => e' = .returned (.int .i64 e) ∧ Own w0 w' (M.set i (blk b (vObj f'))) := by
 obtain ⟨T, _, O0, back⟩ := O.focD hi
 replace O0 : Own _ _ (List.map Ent.t (.blk b (.cells #[.bool (f 0), .bool (f 1), .bool (f 2), .bool (f 3), .bool (f 4), .bool (f 5), .bool (f 6), .bool (f 7), .bool (f 8), .bool (f 9), .bool (f 10), .bool (f 11), .bool (f 12), .bool (f 13), .bool (f 14), .bool (f 15)] 256) :: T)) := O0
 refine gent O0 Tryz.func185 ?_
 refine sg0 [.p 9, .d [], .qs [0, 1, 2, 3, 4, 7, 8, 9], .o 5] O0 fun w1 O2 => ?_
 refine gi (args := #[.int .i64 4]) Tryz.func202 O2 fun O2i => ?_
 refine sg1 [.n [], .p 7, .s 0 []] O2i fun b3 w4 O5 => ?_
 refine gir [] O5 fun O6 => ?_
 refine sg0 [.qs [6, 10]] O6 fun w7 O8 => ?_
 rcases Bool.eq_false_or_eq_true (f 1) with h9 | h9
 · refine sg0 [.o 11, .a (bR 1 h9), .qs [12, 13, 14, 15, 18, 19, 20], .o 16] O8 fun w10 O11 => ?_
   refine gi (args := #[.int .i64 4]) Tryz.func202 O11 fun O11i => ?_
   refine sg1 [.n [], .p 7, .s 0 []] O11i fun b12 w13 O14 => ?_
   refine gir [] O14 fun O15 => ?_
   refine sg0 [.qs [17, 21]] O15 fun w16 O17 => ?_
   rcases Bool.eq_false_or_eq_true (f 5) with h18 | h18
   · refine sg0 [.o 22, .a (bR 2 h18), .qs [23, 24, 25, 26], .z, .p 9] O17 fun w19 O20 => ?_
     rcases Bool.eq_false_or_eq_true (f 10) with h21 | h21
     · refine sg0 [.a (bR 2 h21), .p 4] O20 fun w22 O23 => ?_
       simp [tokV, pA, pB, h9, h18, h21] at hf
       obtain ⟨rfl, rfl⟩ := hf
       exact gret [] O23 (⟨rfl, back 2 O23⟩)
     · refine sg0 [.a (bR 2 h21), .p 9, .s 2 [], .p 2, .s 2 [], .p 1] O20 fun w24 O25 => ?_
       simp [tokV, pA, pB, h9, h18, h21] at hf
       obtain ⟨rfl, rfl⟩ := hf
       exact gret [] O25 (⟨rfl, back 2 O25⟩)
   · refine sg0 [.o 22, .a (bR 2 h18), .qs [23, 24, 25, 26], .z, .p 2] O17 fun w26 O27 => ?_
     simp [tokV, pA, pB, h9, h18] at hf
     obtain ⟨rfl, rfl⟩ := hf
     exact gret [] O27 (⟨rfl, back 2 O27⟩)
 · refine sg0 [.o 11, .a (bR 1 h9), .qs [12, 13, 14, 15, 16, 17, 18, 19, 20, 21, 22, 23, 24, 25, 26], .z, .p 2] O8 fun w28 O29 => ?_
   simp [tokV, pA, pB, h9] at hf
   obtain ⟨rfl, rfl⟩ := hf
   exact gret [] O29 (⟨rfl, back 1 O29⟩)
set_option warningAsError false in
set_option maxRecDepth 100000 in
set_option maxHeartbeats 2000000 in
theorem tokenE15 {w0 w : World} {M : List Thing} {b : Nat} {f f' : Nat → Bool} {e : Int} (O : Own w0 w M) (i : Nat) (hi : M[i]? = some (blk b (vObj f))) (hf : tokV f 1 5 = (e, f')) :
    Calls Tryz.prog 185 #[.pointer (some ⟨b, 0, none⟩), .int .i64 1, .int .i64 5] w fun e' w' => e' = .returned (.int .i64 e) ∧ Own w0 w' (M.set i (blk b (vObj f'))) := by
 obtain ⟨T, _, O0, back⟩ := O.focD hi
 replace O0 : Own _ _ (List.map Ent.t (.blk b (.cells #[.bool (f 0), .bool (f 1), .bool (f 2), .bool (f 3), .bool (f 4), .bool (f 5), .bool (f 6), .bool (f 7), .bool (f 8), .bool (f 9), .bool (f 10), .bool (f 11), .bool (f 12), .bool (f 13), .bool (f 14), .bool (f 15)] 256) :: T)) := O0
 refine gent O0 Tryz.func185 ?_
 refine sg0 [.p 9, .d [], .qs [0, 1, 2, 3, 4, 7, 8, 9], .o 5] O0 fun w1 O2 => ?_
 refine gi (args := #[.int .i64 5]) Tryz.func202 O2 fun O2i => ?_
 refine sg1 [.n [], .p 7, .s 0 []] O2i fun b3 w4 O5 => ?_
 refine gir [] O5 fun O6 => ?_
 refine sg0 [.qs [6, 10]] O6 fun w7 O8 => ?_
 rcases Bool.eq_false_or_eq_true (f 2) with h9 | h9
 · refine sg0 [.o 11, .a (bR 1 h9), .qs [12, 13, 14, 15, 18, 19, 20], .o 16] O8 fun w10 O11 => ?_
   refine gi (args := #[.int .i64 5]) Tryz.func202 O11 fun O11i => ?_
   refine sg1 [.n [], .p 7, .s 0 []] O11i fun b12 w13 O14 => ?_
   refine gir [] O14 fun O15 => ?_
   refine sg0 [.qs [17, 21]] O15 fun w16 O17 => ?_
   rcases Bool.eq_false_or_eq_true (f 4) with h18 | h18
   · refine sg0 [.o 22, .a (bR 2 h18), .qs [23, 24, 25, 26], .z, .p 9] O17 fun w19 O20 => ?_
     rcases Bool.eq_false_or_eq_true (f 11) with h21 | h21
     · refine sg0 [.a (bR 2 h21), .p 4] O20 fun w22 O23 => ?_
       simp [tokV, pA, pB, h9, h18, h21] at hf
       obtain ⟨rfl, rfl⟩ := hf
       exact gret [] O23 (⟨rfl, back 2 O23⟩)
     · refine sg0 [.a (bR 2 h21), .p 9, .s 2 [], .p 2, .s 2 [], .p 1] O20 fun w24 O25 => ?_
       simp [tokV, pA, pB, h9, h18, h21] at hf
       obtain ⟨rfl, rfl⟩ := hf
       exact gret [] O25 (⟨rfl, back 2 O25⟩)
   · refine sg0 [.o 22, .a (bR 2 h18), .qs [23, 24, 25, 26], .z, .p 2] O17 fun w26 O27 => ?_
     simp [tokV, pA, pB, h9, h18] at hf
     obtain ⟨rfl, rfl⟩ := hf
     exact gret [] O27 (⟨rfl, back 2 O27⟩)
 · refine sg0 [.o 11, .a (bR 1 h9), .qs [12, 13, 14, 15, 16, 17, 18, 19, 20, 21, 22, 23, 24, 25, 26], .z, .p 2] O8 fun w28 O29 => ?_
   simp [tokV, pA, pB, h9] at hf
   obtain ⟨rfl, rfl⟩ := hf
   exact gret [] O29 (⟨rfl, back 1 O29⟩)
set_option warningAsError false in
set_option maxRecDepth 100000 in
set_option maxHeartbeats 2000000 in
theorem tokenE16 {w0 w : World} {M : List Thing} {b : Nat} {f f' : Nat → Bool} {e : Int} (O : Own w0 w M) (i : Nat) (hi : M[i]? = some (blk b (vObj f))) (hf : tokV f 1 6 = (e, f')) :
    Calls Tryz.prog 185 #[.pointer (some ⟨b, 0, none⟩), .int .i64 1, .int .i64 6] w fun e' w' => e' = .returned (.int .i64 e) ∧ Own w0 w' (M.set i (blk b (vObj f'))) := by
 obtain ⟨T, _, O0, back⟩ := O.focD hi
 replace O0 : Own _ _ (List.map Ent.t (.blk b (.cells #[.bool (f 0), .bool (f 1), .bool (f 2), .bool (f 3), .bool (f 4), .bool (f 5), .bool (f 6), .bool (f 7), .bool (f 8), .bool (f 9), .bool (f 10), .bool (f 11), .bool (f 12), .bool (f 13), .bool (f 14), .bool (f 15)] 256) :: T)) := O0
 refine gent O0 Tryz.func185 ?_
 refine sg0 [.p 9, .d [], .qs [0, 1, 2, 3, 4, 7, 8, 9], .o 5] O0 fun w1 O2 => ?_
 refine gi (args := #[.int .i64 6]) Tryz.func202 O2 fun O2i => ?_
 refine sg1 [.n [], .p 7, .s 0 []] O2i fun b3 w4 O5 => ?_
 refine gir [] O5 fun O6 => ?_
 refine sg0 [.qs [6, 10]] O6 fun w7 O8 => ?_
 rcases Bool.eq_false_or_eq_true (f 2) with h9 | h9
 · refine sg0 [.o 11, .a (bR 1 h9), .qs [12, 13, 14, 15, 18, 19, 20], .o 16] O8 fun w10 O11 => ?_
   refine gi (args := #[.int .i64 6]) Tryz.func202 O11 fun O11i => ?_
   refine sg1 [.n [], .p 7, .s 0 []] O11i fun b12 w13 O14 => ?_
   refine gir [] O14 fun O15 => ?_
   refine sg0 [.qs [17, 21]] O15 fun w16 O17 => ?_
   rcases Bool.eq_false_or_eq_true (f 5) with h18 | h18
   · refine sg0 [.o 22, .a (bR 2 h18), .qs [23, 24, 25, 26], .z, .p 9] O17 fun w19 O20 => ?_
     rcases Bool.eq_false_or_eq_true (f 12) with h21 | h21
     · refine sg0 [.a (bR 2 h21), .p 4] O20 fun w22 O23 => ?_
       simp [tokV, pA, pB, h9, h18, h21] at hf
       obtain ⟨rfl, rfl⟩ := hf
       exact gret [] O23 (⟨rfl, back 2 O23⟩)
     · refine sg0 [.a (bR 2 h21), .p 9, .s 2 [], .p 2, .s 2 [], .p 1] O20 fun w24 O25 => ?_
       simp [tokV, pA, pB, h9, h18, h21] at hf
       obtain ⟨rfl, rfl⟩ := hf
       exact gret [] O25 (⟨rfl, back 2 O25⟩)
   · refine sg0 [.o 22, .a (bR 2 h18), .qs [23, 24, 25, 26], .z, .p 2] O17 fun w26 O27 => ?_
     simp [tokV, pA, pB, h9, h18] at hf
     obtain ⟨rfl, rfl⟩ := hf
     exact gret [] O27 (⟨rfl, back 2 O27⟩)
 · refine sg0 [.o 11, .a (bR 1 h9), .qs [12, 13, 14, 15, 16, 17, 18, 19, 20, 21, 22, 23, 24, 25, 26], .z, .p 2] O8 fun w28 O29 => ?_
   simp [tokV, pA, pB, h9] at hf
   obtain ⟨rfl, rfl⟩ := hf
   exact gret [] O29 (⟨rfl, back 1 O29⟩)
set_option warningAsError false in
set_option maxRecDepth 100000 in
set_option maxHeartbeats 2000000 in
theorem tokenE17 {w0 w : World} {M : List Thing} {b : Nat} {f f' : Nat → Bool} {e : Int} (O : Own w0 w M) (i : Nat) (hi : M[i]? = some (blk b (vObj f))) (hf : tokV f 1 7 = (e, f')) :
    Calls Tryz.prog 185 #[.pointer (some ⟨b, 0, none⟩), .int .i64 1, .int .i64 7] w fun e' w' => e' = .returned (.int .i64 e) ∧ Own w0 w' (M.set i (blk b (vObj f'))) := by
 obtain ⟨T, _, O0, back⟩ := O.focD hi
 replace O0 : Own _ _ (List.map Ent.t (.blk b (.cells #[.bool (f 0), .bool (f 1), .bool (f 2), .bool (f 3), .bool (f 4), .bool (f 5), .bool (f 6), .bool (f 7), .bool (f 8), .bool (f 9), .bool (f 10), .bool (f 11), .bool (f 12), .bool (f 13), .bool (f 14), .bool (f 15)] 256) :: T)) := O0
 refine gent O0 Tryz.func185 ?_
 refine sg0 [.p 9, .d [], .qs [0, 1, 2, 3, 4, 5, 6, 7, 8, 9, 10, 11, 12, 13, 14, 15, 16, 17, 18, 19, 20, 21, 22, 23, 24, 25, 26], .z, .p 19, .s 0 [], .p 2, .s 0 [], .p 1] O0 fun w1 O2 => ?_
 simp [tokV, pA, pB] at hf
 obtain ⟨rfl, rfl⟩ := hf
 exact gret [] O2 (⟨rfl, back 0 O2⟩)
end Go.Proofs.YtikimmgileffgaaGreatDoor
end
/- The rules of patterns (layer 7): any token. -/
section
namespace Go.Proofs.YtikimmgileffgaaGreatDoor
open Go.RowKit
theorem tokenE {w0 w : World} {M : List Thing} {b : Nat} {f f' : Nat → Bool} {who t e : Int} (O : Own w0 w M) (i : Nat) (hi : M[i]? = some (blk b (vObj f))) (hw : who = 0 ∨ who = 1) (ht : 1 ≤ t ∧ t ≤ 7) (hf : tokV f who.toNat t.toNat = (e, f')) :
    Calls Tryz.prog 185 #[.pointer (some ⟨b, 0, none⟩), .int .i64 who, .int .i64 t] w fun e' w' => e' = .returned (.int .i64 e) ∧ Own w0 w' (M.set i (blk b (vObj f'))) := by
  have h7 : t = 1 ∨ t = 2 ∨ t = 3 ∨ t = 4 ∨ t = 5 ∨ t = 6 ∨ t = 7 := by omega
  rcases hw with rfl | rfl
  · rcases h7 with rfl | rfl | rfl | rfl | rfl | rfl | rfl
    · exact tokenE01 O i hi hf
    · exact tokenE02 O i hi hf
    · exact tokenE03 O i hi hf
    · exact tokenE04 O i hi hf
    · exact tokenE05 O i hi hf
    · exact tokenE06 O i hi hf
    · exact tokenE07 O i hi hf
  · rcases h7 with rfl | rfl | rfl | rfl | rfl | rfl | rfl
    · exact tokenE11 O i hi hf
    · exact tokenE12 O i hi hf
    · exact tokenE13 O i hi hf
    · exact tokenE14 O i hi hf
    · exact tokenE15 O i hi hf
    · exact tokenE16 O i hi hf
    · exact tokenE17 O i hi hf
theorem sealingE {w0 w : World} {M : List Thing} {b : Nat} {f : Nat → Bool} {who : Int} (O : Own w0 w M) (i : Nat) (hi : M[i]? = some (blk b (vObj f))) (hw : who = 0 ∨ who = 1) :
    Calls Tryz.prog 186 #[.pointer (some ⟨b, 0, none⟩), .int .i64 who] w fun e' w' => e' = .returned (.int .i64 (forbV f who.toNat)) ∧ Own w0 w' M := by
  rcases hw with rfl | rfl
  · exact (sealing_calls0 (O.blk hi)).mono fun _ _ ⟨he, hb⟩ => ⟨he, O.call hb⟩
  · exact (sealing_calls1 (O.blk hi)).mono fun _ _ ⟨he, hb⟩ => ⟨he, O.call hb⟩
end Go.Proofs.YtikimmgileffgaaGreatDoor
end
