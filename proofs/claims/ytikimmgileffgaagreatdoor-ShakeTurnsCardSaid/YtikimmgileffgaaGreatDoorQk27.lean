/- Packed by packn.py: LawA, CiphW, Bas2, Bas3. -/
import Derived.Test.YtikimmgileffgaaGreatDoorQk26
import Derived.Test.YtikimmgileffgaaGreatDoorQk22
import Derived.Test.YtikimmgileffgaaGreatDoorQk06
import Derived.Test.YtikimmgileffgaaGreatDoorQk05
/- Law 12: Few, secrets. Printed by s_law12a.py. -/
section
namespace Go.Proofs.YtikimmgileffgaaGreatDoor
open Go.RowKit
set_option warningAsError false in
set_option maxRecDepth 100000 in
set_option maxHeartbeats 4000000 in
theorem fewE {w : World} {a0 a1 am : Option Addr} {c0 c1 cm : Nat} {p : Pat} (hp : PatIn w (Old w) (pvx a0 c0 a1 c1 am cm p) p) (_hfit : PatFits p) :
    Calls Tryz.prog 69 #[.agg #[.string (strO p.name), .slice a0 p.pre0.length c0, .slice a1 p.pre1.length c1, .slice am p.msgs.length cm]] w fun e' w' => e' = .returned (.bool (fewP p)) ∧ Below w.heap.size w w' := by
 have O0 := Own.start w
 replace O0 : Own w w (List.map Ent.t []) := O0
 refine gent O0 Tryz.func69 ?_
 refine sg1 [.n [], .p 2] O0 fun b1 w2 O3 => ?_
 refine gl (fun (k : Nat) => [(1, .pointer (some ⟨b1, 0, none⟩)), (2, .bool false), (3, .int .i64 (k : Int))]) (fun (k : Nat) => [.blk b1 (.cells #[.string (strO p.name), .slice a0 p.pre0.length c0, .slice a1 p.pre1.length c1, .slice am p.msgs.length cm] 33)]) (fun (k : Nat) w => k ≤ p.msgs.length ∧ k ≤ 11 ∧ (∀ i m, i < k → p.msgs[i]? = some m → m.t.length ≤ 20)) (fun (k : Nat) => 11 - k) 0 (O3.as 0) ⟨(Nat.zero_le _), (by omega), (fun i m h => by omega)⟩ ?_
 rintro M6 k w4 hM7 O5 ⟨hk0, hk11, hq⟩
 refine sg0 [.p 2, .a (.r 0), .p 1] O5 fun w8 O9 => ?_
 rcases Bool.eq_false_or_eq_true (decide ((k : Int) < (p.msgs.length : Int))) with h10 | h10
 · have h10p : ((k : Int) < (p.msgs.length : Int)) := by simpa only [decide_eq_true_eq, decide_eq_false_iff_not] using h10
   have hk : k + 1 ≤ p.msgs.length := by have := h10p; omega
   obtain ⟨m, hm⟩ : ∃ m, p.msgs[k]? = some m := ⟨_, List.getElem?_eq_getElem hk⟩
   obtain ⟨mb, mq, D, d, hA, hD, hcell⟩ := msg_at hp.msgs hm
   refine sg0 [.a (bT h10), .p 2] O9 fun w11 O12 => ?_
   rcases Bool.eq_false_or_eq_true (decide ((k : Int) ≤ 10)) with h13 | h13
   · have h13p : ((k : Int) ≤ 10) := by simpa only [decide_eq_true_eq, decide_eq_false_iff_not] using h13
     refine sg0 [.a (bT h13), .p 3, .a (.r 0), .p 1, .a (.i _ mb mq p.msgs.length k hA hk), .p 1] O12 fun w14 O15 => ?_
     refine gx [.cell mb (mq + k * 2 + 1) (.slice D m.t.length d)] O15 ⟨(hcell _ O15.below).2, trivial⟩ fun O16 => ?_
     refine sg0 [.a (.r 0), .p 1] O16 fun w17 O18 => ?_
     rcases Bool.eq_false_or_eq_true (decide ((m.t.length : Int) > 20)) with h19 | h19
     · have h19p : (20 < (m.t.length : Int)) := by simpa only [decide_eq_true_eq, decide_eq_false_iff_not] using h19
       refine sg0 [.a (bT h19), .p 2] O18 fun w20 O21 => ?_
       have hsz : (strO p.name).size = p.name.length := rfl
       exact gret (v := .bool false) [] O21 (⟨by rw [few_no hm (by omega) (by omega)], O21.below⟩)
     · have h19p : ¬ (20 < (m.t.length : Int)) := by simpa only [decide_eq_true_eq, decide_eq_false_iff_not] using h19
       refine sg0 [.a (bT h19), .p 2, .a (iW ((k : Int) + 1)), .p 1] O18 fun w22 O23 => ?_
       exact gz _ fun a F => hM7 a _ (k + 1) F (O23.as 0) ⟨hk, (by omega), (few_next hq hm (by omega))⟩ (show 11 - (k + 1) < 11 - k by omega)
   · have h13p : ¬ ((k : Int) ≤ 10) := by simpa only [decide_eq_true_eq, decide_eq_false_iff_not] using h13
     refine sg0 [.a (bT h13), .p 3, .a (.r 0), .p 1] O12 fun w24 O25 => ?_
     rcases Bool.eq_false_or_eq_true (decide ((p.msgs.length : Int) ≤ 10)) with h26 | h26
     · have h26p : ((p.msgs.length : Int) ≤ 10) := by simpa only [decide_eq_true_eq, decide_eq_false_iff_not] using h26
       refine sg0 [.a (bT h26), .p 2, .a (.r 0), .p 1] O25 fun w27 O28 => ?_
       rcases Bool.eq_false_or_eq_true (decide (((strO p.name).size : Int) ≤ 40)) with h29 | h29
       · have h29p : (((strO p.name).size : Int) ≤ 40) := by simpa only [decide_eq_true_eq, decide_eq_false_iff_not] using h29
         refine sg0 [.a (bT h29), .p 4, .a (.r 0), .p 1] O28 fun w30 O31 => ?_
         rcases Bool.eq_false_or_eq_true (decide ((p.pre0.length : Int) ≤ 5)) with h32 | h32
         · have h32p : ((p.pre0.length : Int) ≤ 5) := by simpa only [decide_eq_true_eq, decide_eq_false_iff_not] using h32
           refine sg0 [.a (bT h32), .p 4, .a (.r 0), .p 1] O31 fun w33 O34 => ?_
           rcases Bool.eq_false_or_eq_true (decide ((p.pre1.length : Int) ≤ 5)) with h35 | h35
           · have h35p : ((p.pre1.length : Int) ≤ 5) := by simpa only [decide_eq_true_eq, decide_eq_false_iff_not] using h35
             refine sg0 [.a (bT h35), .p 2] O34 fun w36 O37 => ?_
             have hsz : (strO p.name).size = p.name.length := rfl
             exact gret (v := .bool true) [] O37 (⟨by rw [few_all hq (by omega)]; refine congrArg (fun b => Ending.returned (Value.bool b)) (Eq.symm ?_); simp only [Bool.and_eq_true, decide_eq_true_eq]; omega, O37.below⟩)
           · have h35p : ¬ ((p.pre1.length : Int) ≤ 5) := by simpa only [decide_eq_true_eq, decide_eq_false_iff_not] using h35
             refine sg0 [.a (bT h35), .p 2] O34 fun w38 O39 => ?_
             have hsz : (strO p.name).size = p.name.length := rfl
             exact gret (v := .bool false) [] O39 (⟨by rw [few_all hq (by omega)]; refine congrArg (fun b => Ending.returned (Value.bool b)) (Eq.symm ?_); rw [Bool.eq_false_iff]; simp only [ne_eq, Bool.and_eq_true, decide_eq_true_eq]; omega, O39.below⟩)
         · have h32p : ¬ ((p.pre0.length : Int) ≤ 5) := by simpa only [decide_eq_true_eq, decide_eq_false_iff_not] using h32
           refine sg0 [.a (bT h32), .p 9] O31 fun w40 O41 => ?_
           have hsz : (strO p.name).size = p.name.length := rfl
           exact gret (v := .bool false) [] O41 (⟨by rw [few_all hq (by omega)]; refine congrArg (fun b => Ending.returned (Value.bool b)) (Eq.symm ?_); rw [Bool.eq_false_iff]; simp only [ne_eq, Bool.and_eq_true, decide_eq_true_eq]; omega, O41.below⟩)
       · have h29p : ¬ (((strO p.name).size : Int) ≤ 40) := by simpa only [decide_eq_true_eq, decide_eq_false_iff_not] using h29
         refine sg0 [.a (bT h29), .p 16] O28 fun w42 O43 => ?_
         have hsz : (strO p.name).size = p.name.length := rfl
         exact gret (v := .bool false) [] O43 (⟨by rw [few_all hq (by omega)]; refine congrArg (fun b => Ending.returned (Value.bool b)) (Eq.symm ?_); rw [Bool.eq_false_iff]; simp only [ne_eq, Bool.and_eq_true, decide_eq_true_eq]; omega, O43.below⟩)
     · have h26p : ¬ ((p.msgs.length : Int) ≤ 10) := by simpa only [decide_eq_true_eq, decide_eq_false_iff_not] using h26
       refine sg0 [.a (bT h26), .p 21] O25 fun w44 O45 => ?_
       have hsz : (strO p.name).size = p.name.length := rfl
       exact gret (v := .bool false) [] O45 (⟨by rw [few_all hq (by omega)]; refine congrArg (fun b => Ending.returned (Value.bool b)) (Eq.symm ?_); rw [Bool.eq_false_iff]; simp only [ne_eq, Bool.and_eq_true, decide_eq_true_eq]; omega, O45.below⟩)
 · have h10p : ¬ ((k : Int) < (p.msgs.length : Int)) := by simpa only [decide_eq_true_eq, decide_eq_false_iff_not] using h10
   refine sg0 [.a (bT h10), .p 6, .a (.r 0), .p 1] O9 fun w46 O47 => ?_
   rcases Bool.eq_false_or_eq_true (decide ((p.msgs.length : Int) ≤ 10)) with h48 | h48
   · have h48p : ((p.msgs.length : Int) ≤ 10) := by simpa only [decide_eq_true_eq, decide_eq_false_iff_not] using h48
     refine sg0 [.a (bT h48), .p 2, .a (.r 0), .p 1] O47 fun w49 O50 => ?_
     rcases Bool.eq_false_or_eq_true (decide (((strO p.name).size : Int) ≤ 40)) with h51 | h51
     · have h51p : (((strO p.name).size : Int) ≤ 40) := by simpa only [decide_eq_true_eq, decide_eq_false_iff_not] using h51
       refine sg0 [.a (bT h51), .p 4, .a (.r 0), .p 1] O50 fun w52 O53 => ?_
       rcases Bool.eq_false_or_eq_true (decide ((p.pre0.length : Int) ≤ 5)) with h54 | h54
       · have h54p : ((p.pre0.length : Int) ≤ 5) := by simpa only [decide_eq_true_eq, decide_eq_false_iff_not] using h54
         refine sg0 [.a (bT h54), .p 4, .a (.r 0), .p 1] O53 fun w55 O56 => ?_
         rcases Bool.eq_false_or_eq_true (decide ((p.pre1.length : Int) ≤ 5)) with h57 | h57
         · have h57p : ((p.pre1.length : Int) ≤ 5) := by simpa only [decide_eq_true_eq, decide_eq_false_iff_not] using h57
           refine sg0 [.a (bT h57), .p 2] O56 fun w58 O59 => ?_
           have hsz : (strO p.name).size = p.name.length := rfl
           exact gret (v := .bool true) [] O59 (⟨by rw [few_all hq (by omega)]; refine congrArg (fun b => Ending.returned (Value.bool b)) (Eq.symm ?_); simp only [Bool.and_eq_true, decide_eq_true_eq]; omega, O59.below⟩)
         · have h57p : ¬ ((p.pre1.length : Int) ≤ 5) := by simpa only [decide_eq_true_eq, decide_eq_false_iff_not] using h57
           refine sg0 [.a (bT h57), .p 2] O56 fun w60 O61 => ?_
           have hsz : (strO p.name).size = p.name.length := rfl
           exact gret (v := .bool false) [] O61 (⟨by rw [few_all hq (by omega)]; refine congrArg (fun b => Ending.returned (Value.bool b)) (Eq.symm ?_); rw [Bool.eq_false_iff]; simp only [ne_eq, Bool.and_eq_true, decide_eq_true_eq]; omega, O61.below⟩)
       · have h54p : ¬ ((p.pre0.length : Int) ≤ 5) := by simpa only [decide_eq_true_eq, decide_eq_false_iff_not] using h54
         refine sg0 [.a (bT h54), .p 9] O53 fun w62 O63 => ?_
         have hsz : (strO p.name).size = p.name.length := rfl
         exact gret (v := .bool false) [] O63 (⟨by rw [few_all hq (by omega)]; refine congrArg (fun b => Ending.returned (Value.bool b)) (Eq.symm ?_); rw [Bool.eq_false_iff]; simp only [ne_eq, Bool.and_eq_true, decide_eq_true_eq]; omega, O63.below⟩)
     · have h51p : ¬ (((strO p.name).size : Int) ≤ 40) := by simpa only [decide_eq_true_eq, decide_eq_false_iff_not] using h51
       refine sg0 [.a (bT h51), .p 16] O50 fun w64 O65 => ?_
       have hsz : (strO p.name).size = p.name.length := rfl
       exact gret (v := .bool false) [] O65 (⟨by rw [few_all hq (by omega)]; refine congrArg (fun b => Ending.returned (Value.bool b)) (Eq.symm ?_); rw [Bool.eq_false_iff]; simp only [ne_eq, Bool.and_eq_true, decide_eq_true_eq]; omega, O65.below⟩)
   · have h48p : ¬ ((p.msgs.length : Int) ≤ 10) := by simpa only [decide_eq_true_eq, decide_eq_false_iff_not] using h48
     refine sg0 [.a (bT h48), .p 21] O47 fun w66 O67 => ?_
     have hsz : (strO p.name).size = p.name.length := rfl
     exact gret (v := .bool false) [] O67 (⟨by rw [few_all hq (by omega)]; refine congrArg (fun b => Ending.returned (Value.bool b)) (Eq.symm ?_); rw [Bool.eq_false_iff]; simp only [ne_eq, Bool.and_eq_true, decide_eq_true_eq]; omega, O67.below⟩)
set_option warningAsError false in
set_option maxRecDepth 100000 in
set_option maxHeartbeats 4000000 in
theorem secretsE0 {w0 w : World} {M : List Thing} {r : Nat} {A A' : Ar} {l' : List Int} (O : Own w0 w M) (i : Nat) (hi : M[i]? = some (arena r A)) (hf : secL 100 (List.range 14) A [] = (A', l', true)) :
    Calls Tryz.prog 70 #[.pointer (some ⟨r, 0, none⟩), .int .i64 0] w fun e' w' => ∃ B d, e' = .returned (.tuple #[.slice B l'.length d, .bool true]) ∧ Own w0 w' (rowT 3 1 (.slice B l'.length d) l'.length (intsV l') :: M.set i (arena r A')) := by
 obtain ⟨T, hT, O0, back, back2⟩ := O.focD3 hi
 refine gent O0 Tryz.func70 ?_
 refine sg0 [.p 4] O0 fun w1 O2 => ?_
 refine gl (fun (zz : Nat × Ar × List Int × Option Addr × Nat) => match zz with | (k, Av, l2, lB, ld) => [(0, .pointer (some ⟨r, 0, none⟩)), (1, .int .i64 0), (4, .slice none 0 0), (5, .bool false), (6, .slice lB l2.length ld), (10, .int .i64 (k : Int))]) (fun (zz : Nat × Ar × List Int × Option Addr × Nat) => match zz with | (k, Av, l2, lB, ld) => (.thing (rowT 3 1 (.slice lB l2.length ld) l2.length (intsV l2)) :: .thing (arena r Av) :: T)) (fun (zz : Nat × Ar × List Int × Option Addr × Nat) w => match zz with | (k, Av, l2, lB, ld) => k ≤ 14 ∧ secL 100 ((List.range 14).drop k) Av l2 = secL 100 (List.range 14) A [] ∧ l2.length ≤ k) (fun (zz : Nat × Ar × List Int × Option Addr × Nat) => match zz with | (k, Av, l2, lB, ld) => 14 - k) (0, A, [], none, 0) (((O2.as 0).nilRow 3 1)) ⟨(Nat.zero_le _), rfl, (Nat.le_refl _)⟩ ?_
 rintro M5 ⟨k, Av, l2, lB, ld⟩ w3 hM6 O4 ⟨hk0, hq, hl2⟩
 rcases Bool.eq_false_or_eq_true (decide ((k : Int) < 14)) with h7 | h7
 · have h7p : ((k : Int) < 14) := by simpa only [decide_eq_true_eq, decide_eq_false_iff_not] using h7
   have hk : k + 1 ≤ 14 := by have := h7p; omega
   have hdrop := range_drop (n := 14) (k := k) (by omega)
   refine sg0 [.a (bT h7), .p 8, .a (iW (100 + (k : Int))), .a (uW (100 + (k : Int))), .p 1] O4 fun w8 O9 => ?_
   obtain ⟨A10, y11, e12, hm13⟩ : ∃ A10 y11 e12, mk Av ⟨1, 100 + (k : Int), 0, 0, 0⟩ = (A10, y11, e12) := ⟨_, _, _, rfl⟩
   refine gS (mkE (r := r) O9 1 (by kernel_rfl) (by omega) (by omega) hm13) fun w14 O15 => ?_
   refine sg0 [.p 6] O15 fun w17 O18 => ?_
   rcases Bool.eq_false_or_eq_true (e12 != 0) with h19 | h19
   · have h19p : ¬ e12 = 0 := by simpa using h19
     refine sg0 [.a (bT h19), .p 3] O18 fun w20 O21 => ?_
     exfalso; rw [← hq, hdrop] at hf; simp [secL, secL, hm13, h19p] at hf
   · have h19p : e12 = 0 := by simpa using h19
     refine sg1 [.a (bT h19), .p 3, .n []] O18 fun b22 w23 O24 => ?_
     refine gcatI (.tmp 27) (.tmp 29) 29 O24 3 l2 lB ld 1 b22 0 y11 3 1 (by first | omega | (simp; omega)) fun B25 d26 w27 O28 => ?_
     refine sg0 [.p 1, .a (iW ((k : Int) + 1)), .p 1] O28 fun w29 O30 => ?_
     exact gz _ fun a F => hM6 a _ (k + 1, A10, l2 ++ [y11], B25, d26) F (O30.as 1) ⟨hk, (by rw [← hq, hdrop]; simp [secL, hm13, h19p]), (by simp; omega)⟩ (show 14 - (k + 1) < 14 - k by omega)
 · have h7p : ¬ ((k : Int) < 14) := by simpa only [decide_eq_true_eq, decide_eq_false_iff_not] using h7
   have h14 : k = 14 := by omega
   subst h14
   simp [List.drop_eq_nil_of_le, secL] at hq
   refine sg0 [.a (bT h7), .p 4] O4 fun w31 O32 => ?_
   rw [← hq] at hf; simp only [Prod.mk.injEq] at hf; obtain ⟨rfl, rfl, _⟩ := hf
   exact gret [] O32 (⟨lB, ld, rfl, back2 0 0 O32⟩)
set_option warningAsError false in
set_option maxRecDepth 100000 in
set_option maxHeartbeats 4000000 in
theorem secretsE1 {w0 w : World} {M : List Thing} {r : Nat} {A A' : Ar} {l' : List Int} (O : Own w0 w M) (i : Nat) (hi : M[i]? = some (arena r A)) (hf : secL 200 (List.range 14) A [] = (A', l', true)) :
    Calls Tryz.prog 70 #[.pointer (some ⟨r, 0, none⟩), .int .i64 1] w fun e' w' => ∃ B d, e' = .returned (.tuple #[.slice B l'.length d, .bool true]) ∧ Own w0 w' (rowT 3 1 (.slice B l'.length d) l'.length (intsV l') :: M.set i (arena r A')) := by
 obtain ⟨T, hT, O0, back, back2⟩ := O.focD3 hi
 refine gent O0 Tryz.func70 ?_
 refine sg0 [.p 4] O0 fun w1 O2 => ?_
 refine gl (fun (zz : Nat × Ar × List Int × Option Addr × Nat) => match zz with | (k, Av, l2, lB, ld) => [(0, .pointer (some ⟨r, 0, none⟩)), (1, .int .i64 1), (4, .slice none 0 0), (5, .bool false), (6, .slice lB l2.length ld), (10, .int .i64 (k : Int))]) (fun (zz : Nat × Ar × List Int × Option Addr × Nat) => match zz with | (k, Av, l2, lB, ld) => (.thing (rowT 3 1 (.slice lB l2.length ld) l2.length (intsV l2)) :: .thing (arena r Av) :: T)) (fun (zz : Nat × Ar × List Int × Option Addr × Nat) w => match zz with | (k, Av, l2, lB, ld) => k ≤ 14 ∧ secL 200 ((List.range 14).drop k) Av l2 = secL 200 (List.range 14) A [] ∧ l2.length ≤ k) (fun (zz : Nat × Ar × List Int × Option Addr × Nat) => match zz with | (k, Av, l2, lB, ld) => 14 - k) (0, A, [], none, 0) (((O2.as 0).nilRow 3 1)) ⟨(Nat.zero_le _), rfl, (Nat.le_refl _)⟩ ?_
 rintro M5 ⟨k, Av, l2, lB, ld⟩ w3 hM6 O4 ⟨hk0, hq, hl2⟩
 rcases Bool.eq_false_or_eq_true (decide ((k : Int) < 14)) with h7 | h7
 · have h7p : ((k : Int) < 14) := by simpa only [decide_eq_true_eq, decide_eq_false_iff_not] using h7
   have hk : k + 1 ≤ 14 := by have := h7p; omega
   have hdrop := range_drop (n := 14) (k := k) (by omega)
   refine sg0 [.a (bT h7), .p 8, .a (iW (200 + (k : Int))), .a (uW (200 + (k : Int))), .p 1] O4 fun w8 O9 => ?_
   obtain ⟨A10, y11, e12, hm13⟩ : ∃ A10 y11 e12, mk Av ⟨1, 200 + (k : Int), 0, 0, 0⟩ = (A10, y11, e12) := ⟨_, _, _, rfl⟩
   refine gS (mkE (r := r) O9 1 (by kernel_rfl) (by omega) (by omega) hm13) fun w14 O15 => ?_
   refine sg0 [.p 6] O15 fun w17 O18 => ?_
   rcases Bool.eq_false_or_eq_true (e12 != 0) with h19 | h19
   · have h19p : ¬ e12 = 0 := by simpa using h19
     refine sg0 [.a (bT h19), .p 3] O18 fun w20 O21 => ?_
     exfalso; rw [← hq, hdrop] at hf; simp [secL, secL, hm13, h19p] at hf
   · have h19p : e12 = 0 := by simpa using h19
     refine sg1 [.a (bT h19), .p 3, .n []] O18 fun b22 w23 O24 => ?_
     refine gcatI (.tmp 27) (.tmp 29) 29 O24 3 l2 lB ld 1 b22 0 y11 3 1 (by first | omega | (simp; omega)) fun B25 d26 w27 O28 => ?_
     refine sg0 [.p 1, .a (iW ((k : Int) + 1)), .p 1] O28 fun w29 O30 => ?_
     exact gz _ fun a F => hM6 a _ (k + 1, A10, l2 ++ [y11], B25, d26) F (O30.as 1) ⟨hk, (by rw [← hq, hdrop]; simp [secL, hm13, h19p]), (by simp; omega)⟩ (show 14 - (k + 1) < 14 - k by omega)
 · have h7p : ¬ ((k : Int) < 14) := by simpa only [decide_eq_true_eq, decide_eq_false_iff_not] using h7
   have h14 : k = 14 := by omega
   subst h14
   simp [List.drop_eq_nil_of_le, secL] at hq
   refine sg0 [.a (bT h7), .p 4] O4 fun w31 O32 => ?_
   rw [← hq] at hf; simp only [Prod.mk.injEq] at hf; obtain ⟨rfl, rfl, _⟩ := hf
   exact gret [] O32 (⟨lB, ld, rfl, back2 0 0 O32⟩)
end Go.Proofs.YtikimmgileffgaaGreatDoor
end
/- Ciphers, trans.Of (layers 12, 13). Printed by s_trans.py. -/
section
namespace Go.Proofs.YtikimmgileffgaaGreatDoor
open Go.RowKit
def ciphersC (A : Ar) (role at_ : Int) (p : Pat) (y : Sy) : Ar × Ci × Ci × Int :=
  if at_ < p.msgs.length then (A, Ci.zero, Ci.zero, 5) else
  let s := splitY A y
  if role = 1 then (s.1, s.2.2.1, s.2.1, s.2.2.2) else s
set_option warningAsError false in
set_option maxRecDepth 100000 in
set_option maxHeartbeats 4000000 in
theorem ciphersE {w0 w : World} {M : List Thing} {r : Nat} {A A' : Ar} {role at_ nx kS kE kRS kRE sk sh sc sn : Int} {sb : Bool} {a0 a1 am bk : Option Addr} {c0 c1 cm dk : Nat} {p : Pat} {psks : List Int} {s1 s2 : Ci} {e : Int} (O : Own w0 w M) (i : Nat) (hi : M[i]? = some (arena r A)) (hf : ciphersC A role at_ p ⟨sk, sh, ⟨sc, sb, sn⟩⟩ = (A', s1, s2, e)) :
    Calls Tryz.prog 25 #[.agg #[.int .i64 role, .int .i64 at_, .int .i64 nx, .string (strO p.name), .slice a0 p.pre0.length c0, .slice a1 p.pre1.length c1, .slice am p.msgs.length cm, .int .i64 kS, .int .i64 kE, .int .i64 kRS, .int .i64 kRE, .slice bk psks.length dk, .int .i64 sk, .int .i64 sh, .int .i64 sc, .bool sb, .int .u64 sn], .pointer (some ⟨r, 0, none⟩)] w fun e' w' => e' = .returned (.tuple #[.agg #[.int .i64 s1.key, .bool s1.has, .int .u64 s1.n], .agg #[.int .i64 s2.key, .bool s2.has, .int .u64 s2.n], .int .i64 e]) ∧ Own w0 w' (M.set i (arena r A')) := by
 obtain ⟨T, hT, O0, back⟩ := O.focD hi
 refine gent O0 Tryz.func25 ?_
 refine sg3 [.n [], .n [], .n [], .p 1, .a (.r 2)] O0 fun b1 b2 b3 w4 O5 => ?_
 refine gi (args := #[.agg #[.int .i64 role, .int .i64 at_, .int .i64 nx, .string (strO p.name), .slice a0 p.pre0.length c0, .slice a1 p.pre1.length c1, .slice am p.msgs.length cm, .int .i64 kS, .int .i64 kE, .int .i64 kRS, .int .i64 kRE, .slice bk psks.length dk, .int .i64 sk, .int .i64 sh, .int .i64 sc, .bool sb, .int .u64 sn]]) Tryz.func24 O5 fun O5i => ?_
 refine sg1 [.n [], .p 2, .a (.r 0), .p 2, .a (.r 0), .p 1] O5i fun b6 w7 O8 => ?_
 rcases Bool.eq_false_or_eq_true (decide (at_ ≥ (p.msgs.length : Int))) with h9 | h9
 · have h9p : ((p.msgs.length : Int) ≤ at_) := by simpa only [decide_eq_true_eq, decide_eq_false_iff_not] using h9
   have h9q : ¬ at_ < (p.msgs.length : Int) := by omega
   refine sg0 [.a (bT h9), .p 1] O8 fun w10 O11 => ?_
   refine gir [] O11 fun O12 => ?_
   refine sg0 [.p 3, .a (.r 3), .p 1] O12 fun w13 O14 => ?_
   obtain ⟨A15, c16, b17, n18, c19, b20, n21, e22, hm23⟩ : ∃ A15 c16 b17 n18 c19 b20 n21 e22, splitY A ⟨sk, sh, ⟨sc, sb, sn⟩⟩ = (A15, ⟨c16, b17, n18⟩, ⟨c19, b20, n21⟩, e22) := ⟨_, _, _, _, _, _, _, _, rfl⟩
   refine gS (splitSE (r := r) O14 4 (by kernel_rfl) hm23) fun w24 O25 => ?_
   refine sg0 [.p 4, .s 2 [], .s 1 [], .p 2, .a (.r 3)] O25 fun w27 O28 => ?_
   rcases Bool.eq_false_or_eq_true (role == 1) with h29 | h29
   · have h29p : role = 1 := by simpa using h29
     refine sg0 [.a (bT h29), .p 1, .a (.r 1), .a (.r 2), .s 2 [], .s 1 [], .d [1, 2], .q 0 (.r 1), .q 1 (.r 0), .qs [2], .o 3, .s 2 [1, 2], .o 4, .s 1 [1, 2], .qs [5], .z] O28 fun w30 O31 => ?_
     simp [ciphersC, h9q, hm23, h29p] at hf
     obtain ⟨rfl, rfl, rfl, rfl⟩ := hf
     exact gret [2, 1] O31 (⟨rfl, back 4 O31⟩)
   · have h29p : ¬ role = 1 := by simpa using h29
     refine sg0 [.a (bT h29), .p 1, .d [1, 2], .q 0 (.r 1), .q 1 (.r 0), .qs [2], .o 3, .s 2 [1, 2], .o 4, .s 1 [1, 2], .qs [5], .z] O28 fun w32 O33 => ?_
     simp [ciphersC, h9q, hm23, h29p] at hf
     obtain ⟨rfl, rfl, rfl, rfl⟩ := hf
     exact gret [2, 1] O33 (⟨rfl, back 4 O33⟩)
 · have h9p : ¬ ((p.msgs.length : Int) ≤ at_) := by simpa only [decide_eq_true_eq, decide_eq_false_iff_not] using h9
   have h9q : at_ < (p.msgs.length : Int) := by omega
   refine sg0 [.a (bT h9), .p 1] O8 fun w34 O35 => ?_
   refine gir [] O35 fun O36 => ?_
   refine sg0 [.p 4, .s 2 [], .s 1 [], .p 1] O36 fun w37 O38 => ?_
   simp [ciphersC, Ci.zero, h9q] at hf
   obtain ⟨rfl, rfl, rfl, rfl⟩ := hf
   exact gret [2, 1] O38 (⟨rfl, back 4 O38⟩)
end Go.Proofs.YtikimmgileffgaaGreatDoor
end
/- The base patterns (layer 6): their rows and names. The rows were printed by a small program. -/
section
namespace Go.Proofs.YtikimmgileffgaaGreatDoor
open Go.RowKit

structure BRow where
  name : List UInt8
  pre0 : List UInt8
  pre1 : List UInt8
  msgs : List UInt8
  deriving DecidableEq
def rowsB : List BRow :=
  [⟨[78], [], [115], [101, 32, 101, 115]⟩,
   ⟨[75], [115], [115], [101, 32, 101, 115, 32, 115, 115]⟩,
   ⟨[88], [], [115], [101, 32, 101, 115, 32, 115, 32, 115, 115]⟩,
   ⟨[78, 78], [], [], [101, 59, 101, 32, 101, 101]⟩,
   ⟨[78, 75], [], [115], [101, 32, 101, 115, 59, 101, 32, 101, 101]⟩,
   ⟨[78, 88], [], [], [101, 59, 101, 32, 101, 101, 32, 115, 32, 101, 115]⟩,
   ⟨[88, 78], [], [], [101, 59, 101, 32, 101, 101, 59, 115, 32, 115, 101]⟩,
   ⟨[88, 75], [], [115], [101, 32, 101, 115, 59, 101, 32, 101, 101, 59, 115, 32, 115, 101]⟩,
   ⟨[88, 88], [], [], [101, 59, 101, 32, 101, 101, 32, 115, 32, 101, 115, 59, 115, 32, 115, 101]⟩,
   ⟨[75, 78], [115], [], [101, 59, 101, 32, 101, 101, 32, 115, 101]⟩,
   ⟨[75, 75], [115], [115], [101, 32, 101, 115, 32, 115, 115, 59, 101, 32, 101, 101, 32, 115, 101]⟩,
   ⟨[75, 88], [115], [], [101, 59, 101, 32, 101, 101, 32, 115, 101, 32, 115, 32, 101, 115]⟩,
   ⟨[73, 78], [], [], [101, 32, 115, 59, 101, 32, 101, 101, 32, 115, 101]⟩,
   ⟨[73, 75], [], [115], [101, 32, 101, 115, 32, 115, 32, 115, 115, 59, 101, 32, 101, 101, 32, 115, 101]⟩,
   ⟨[73, 88], [], [], [101, 32, 115, 59, 101, 32, 101, 101, 32, 115, 101, 32, 115, 32, 101, 115]⟩]
def BRow.cells (r : BRow) : List Value := [.string (strO r.name), .string (strO r.pre0), .string (strO r.pre1), .string (strO r.msgs)]
def rowsBO : Obj := .cells #[.string ⟨#[78]⟩, .string ⟨#[]⟩, .string ⟨#[115]⟩, .string ⟨#[101, 32, 101, 115]⟩, .string ⟨#[75]⟩, .string ⟨#[115]⟩, .string ⟨#[115]⟩, .string ⟨#[101, 32, 101, 115, 32, 115, 115]⟩, .string ⟨#[88]⟩, .string ⟨#[]⟩, .string ⟨#[115]⟩, .string ⟨#[101, 32, 101, 115, 32, 115, 32, 115, 115]⟩, .string ⟨#[78, 78]⟩, .string ⟨#[]⟩, .string ⟨#[]⟩, .string ⟨#[101, 59, 101, 32, 101, 101]⟩, .string ⟨#[78, 75]⟩, .string ⟨#[]⟩, .string ⟨#[115]⟩, .string ⟨#[101, 32, 101, 115, 59, 101, 32, 101, 101]⟩, .string ⟨#[78, 88]⟩, .string ⟨#[]⟩, .string ⟨#[]⟩, .string ⟨#[101, 59, 101, 32, 101, 101, 32, 115, 32, 101, 115]⟩, .string ⟨#[88, 78]⟩, .string ⟨#[]⟩, .string ⟨#[]⟩, .string ⟨#[101, 59, 101, 32, 101, 101, 59, 115, 32, 115, 101]⟩, .string ⟨#[88, 75]⟩, .string ⟨#[]⟩, .string ⟨#[115]⟩, .string ⟨#[101, 32, 101, 115, 59, 101, 32, 101, 101, 59, 115, 32, 115, 101]⟩, .string ⟨#[88, 88]⟩, .string ⟨#[]⟩, .string ⟨#[]⟩, .string ⟨#[101, 59, 101, 32, 101, 101, 32, 115, 32, 101, 115, 59, 115, 32, 115, 101]⟩, .string ⟨#[75, 78]⟩, .string ⟨#[115]⟩, .string ⟨#[]⟩, .string ⟨#[101, 59, 101, 32, 101, 101, 32, 115, 101]⟩, .string ⟨#[75, 75]⟩, .string ⟨#[115]⟩, .string ⟨#[115]⟩, .string ⟨#[101, 32, 101, 115, 32, 115, 115, 59, 101, 32, 101, 101, 32, 115, 101]⟩, .string ⟨#[75, 88]⟩, .string ⟨#[115]⟩, .string ⟨#[]⟩, .string ⟨#[101, 59, 101, 32, 101, 101, 32, 115, 101, 32, 115, 32, 101, 115]⟩, .string ⟨#[73, 78]⟩, .string ⟨#[]⟩, .string ⟨#[]⟩, .string ⟨#[101, 32, 115, 59, 101, 32, 101, 101, 32, 115, 101]⟩, .string ⟨#[73, 75]⟩, .string ⟨#[]⟩, .string ⟨#[115]⟩, .string ⟨#[101, 32, 101, 115, 32, 115, 32, 115, 115, 59, 101, 32, 101, 101, 32, 115, 101]⟩, .string ⟨#[73, 88]⟩, .string ⟨#[]⟩, .string ⟨#[]⟩, .string ⟨#[101, 32, 115, 59, 101, 32, 101, 101, 32, 115, 101, 32, 115, 32, 101, 115]⟩] 146 (0, 0)
theorem rowsBO_eq : rowsBO = .cells (rowsB.flatMap BRow.cells).toArray 146 (0, 0) := rfl
def BRowsPost (w : World) (e : Ending) (w' : World) : Prop := ∃ b, e = .returned (.slice (some ⟨b, 0, none⟩) 15 15) ∧ Own w w' [blk b rowsBO]
set_option maxHeartbeats 1600000 in
set_option maxRecDepth 100000 in
theorem brows_calls (w : World) : Calls Tryz.prog 55 #[] w (BRowsPost w) := by
  unfold BRowsPost
  have O := Lib.hid ((Own.start w).alloc rowsBO)
  unfold rowsBO at O ⊢
  go_enter Tryz.func55, Tryz.ntmps55
  go_wp2_with fail
  go_ret
  exact ⟨_, rfl, O.out⟩
end Go.Proofs.YtikimmgileffgaaGreatDoor
end
/- The base patterns (layer 6): Names. -/
section
namespace Go.Proofs.YtikimmgileffgaaGreatDoor
open Go.RowKit

theorem brow_cells : ∀ (l : List BRow) (i : Nat) (x : BRow), l[i]? = some x → (l.flatMap BRow.cells)[i * 4]? = some (.string (strO x.name)) ∧ (l.flatMap BRow.cells)[i * 4 + 1]? = some (.string (strO x.pre0)) ∧ (l.flatMap BRow.cells)[i * 4 + 2]? = some (.string (strO x.pre1)) ∧ (l.flatMap BRow.cells)[i * 4 + 3]? = some (.string (strO x.msgs))
  | [], i, x, h => by cases h
  | y :: l, 0, x, h => by cases h; exact ⟨rfl, rfl, rfl, rfl⟩
  | y :: l, i + 1, x, h => by
    have h1 := brow_cells l i x h
    have e : (y :: l).flatMap BRow.cells = .string (strO y.name) :: .string (strO y.pre0) :: .string (strO y.pre1) :: .string (strO y.msgs) :: l.flatMap BRow.cells := rfl
    rw [e, show (i + 1) * 4 = i * 4 + 1 + 1 + 1 + 1 by omega]
    exact h1
theorem brow_at {w : World} {b i : Nat} {x : BRow} (h : w.heap[b]? = some rowsBO) (hi : rowsB[i]? = some x) :
    w.cell? ⟨b, i * 4, none⟩ = some (.string (strO x.name)) ∧ w.cell? ⟨b, i * 4 + 1, none⟩ = some (.string (strO x.pre0)) ∧ w.cell? ⟨b, i * 4 + 2, none⟩ = some (.string (strO x.pre1)) ∧ w.cell? ⟨b, i * 4 + 3, none⟩ = some (.string (strO x.msgs)) := by
  rw [rowsBO_eq] at h
  have hc := fun o => cell_of_heap (o := o) h
  obtain ⟨h0, h1, h2, h3⟩ := brow_cells rowsB i x hi
  refine ⟨?_, ?_, ?_, ?_⟩ <;> rw [hc, List.getElem?_toArray] <;> assumption
theorem rowsB_len : rowsB.length = 15 := rfl
def namesB : List (List UInt8) := rowsB.map BRow.name
def BNamesPost (w : World) (e : Ending) (w' : World) : Prop := ∃ v, e = .returned v ∧ Own w w' [rowT 9 1 v 15 (strsV namesB)]
set_option maxHeartbeats 3200000 in
set_option maxRecDepth 100000 in
theorem bnames_calls (w : World) : Calls Tryz.prog 54 #[] w (BNamesPost w) := by
  have HR := Lib.hid (brows_calls w)
  have HL := Lib.hid rowsB_len
  unfold BRowsPost at HR
  unfold BNamesPost
  go_enter Tryz.func54, Tryz.ntmps54
  go_wp2_with fail
  refine HR.out.mono ?_
  rintro e w1 ⟨Z, rfl, o1⟩
  have O1 := Lib.hid (o1.nilRow 9 1)
  clear o1 HR
  go_wp2_with fail
  go_loopw [1, 6] (fun v i wr => ∃ k : Nat, k ≤ 15 ∧ i = .int .i64 k ∧ Own w wr [rowT 9 1 v k (strsV (namesB.take k)), blk Z rowsBO])
    (fun _ i _ => 15 - (intOf i).toNat)
  case atStart => exact ⟨0, by omega, rfl, O1.out⟩
  case round =>
    clear O1
    obtain ⟨k, hk, rfl, ok⟩ := hrel
    have Ok := Lib.hid ok
    clear ok
    by_cases hlt : k < 15
    · obtain ⟨x, hx⟩ : ∃ x, rowsB[k]? = some x := ⟨_, List.getElem?_eq_getElem (by rw [HL.out]; exact hlt)⟩
      have hik : (k : Int) < 15 := by omega
      obtain ⟨c0, c1, c2, c3⟩ := brow_at (Ok.out.blk (i := 1) rfl) hx
      have Htk := Lib.hid (show strsV (namesB.take (k + 1)) = strsV (namesB.take k) ++ [.string (strO x.name)] by
        rw [List.take_add_one]; unfold namesB; rw [List.getElem?_map, hx]; simp [strsV])
      have Hlt := Lib.hid hlt
      clear hx hlt hk
      generalize strsV (namesB.take k) = LL at *
      go_upto_region 5 with fail
      have O2 := Lib.hid (Ok.out.alloc (.cells #[.string (strO x.name), .string (strO x.pre0), .string (strO x.pre1), .string (strO x.msgs)] 146))
      generalize strO x.name = sx at *
      generalize wr.heap.size = Y at *
      generalize wr.alloc (.cells #[.string sx, .string (strO x.pre0), .string (strO x.pre1), .string (strO x.msgs)] 146) = W at *
      clear Ok c0 c1 c2 c3
      have y0 := cell_of_heap (o := 0) (O2.out.blk (i := 0) rfl)
      simp only [List.getElem?_toArray, List.getElem?_cons_zero] at y0
      have o5 := O2.out.alloc (.cells #[.string sx] 9)
      go_wp2_with (at_builtin; go_loud (refine wpList_ocat o5 rfl (.tmp 10) (.tmp 13) 143 rfl 9 (.string ⟨#[]⟩) 1 16 Tryz.underlying143 einfo_strT rfl (by decide) u1 k LL rfl 2 rfl (some ⟨W.heap.size, 0, none⟩) 1 1 [.string sx] rfl (News.block (cs := [.string sx]) (new_at rfl) rfl) (by simp [Value.oneCell']) (by unfold maxLen; omega) (by omega) ?_))
      intro v6 w6 o7
      have O7 := Lib.hid o7.tail.tail
      clear o5 o7 y0 O2
      go_wp2_with fail
      go_roundw
      case rel => have := Hlt.out; exact ⟨k + 1, by omega, by go_num, by rw [Htk.out]; exact O7.out⟩
      case measure => have := Hlt.out; simp only [intOf]; omega
    · obtain rfl : k = 15 := by omega
      have ok := Ok.out
      rw [show namesB.take 15 = namesB from List.take_of_length_le (by decide)] at ok
      have OK := Lib.hid ok
      clear hk hlt Ok ok
      go_wp2_with fail
      go_ret
      exact ⟨_, rfl, OK.out.pick [0] (by rfl)⟩
end Go.Proofs.YtikimmgileffgaaGreatDoor
end
