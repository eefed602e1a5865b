/- Packed by packn.py: ShkD, L12. -/
import Derived.Test.YtikimmgileffgaaGreatDoorQk25
/- Read (layer 12). Printed by s_shk5.py. -/
section
namespace Go.Proofs.YtikimmgileffgaaGreatDoor
open Go.RowKit
set_option warningAsError false in
set_option maxRecDepth 100000 in
set_option maxHeartbeats 8000000 in
theorem partsE {w : World} {ts : List Int} {A : Option Addr} {c : Nat} (hh : Holds w A (intsV ts)) (hl : ts.length ≤ 1000000) :
    Calls Tryz.prog 76 #[.slice A ts.length c] w fun e' w' => e' = .returned (.int .i64 (partsC ts)) ∧ Below w.heap.size w w' := by
 have O0 := Own.start w
 replace O0 : Own w w (List.map Ent.t []) := O0
 refine gent O0 Tryz.func76 ?_
 refine sg0 [.p 5] O0 fun w1 O2 => ?_
 refine gl (fun (zz : Nat × Int) => match zz with | (k, n) => [(2, .int .i64 0), (3, .int .i64 n), (6, .slice A ts.length c), (7, .int .i64 (ts.length : Int)), (8, .int .i64 (k : Int))]) (fun (zz : Nat × Int) => match zz with | (k, n) => []) (fun (zz : Nat × Int) w => match zz with | (k, n) => k ≤ ts.length ∧ n - 1 + partsC (ts.drop k) = partsC ts ∧ (1 ≤ n ∧ n ≤ k + 1)) (fun (zz : Nat × Int) => match zz with | (k, n) => ts.length - k) (0, 1) (O2.as 0) ⟨(Nat.zero_le _), (by simp), (by omega)⟩ ?_
 rintro M5 ⟨k, n⟩ w3 hM6 O4 ⟨hk, hq, hn⟩
 rcases Bool.eq_false_or_eq_true (decide ((k : Int) < (ts.length : Int))) with h7 | h7
 · have h7p : ((k : Int) < (ts.length : Int)) := by simpa only [decide_eq_true_eq, decide_eq_false_iff_not] using h7
   have hk : k + 1 ≤ ts.length := by have := h7p; omega
   obtain ⟨t, ht⟩ : ∃ t, ts[k]? = some t := ⟨_, List.getElem?_eq_getElem hk⟩
   obtain ⟨qb, q, hA, hcell⟩ := holdsI_at hh ht
   have hdrop := drop_at ht
   refine sg0 [.a (bT h7), .p 1, .a (.i _ qb q ts.length k hA hk)] O4 fun w8 O9 => ?_
   refine gx [.cell qb (q + k * 1) (.int .i64 t)] O9 ⟨(hcell _ O9.below), trivial⟩ fun O10 => ?_
   refine sg0 [.a (.r 0), .p 2] O10 fun w11 O12 => ?_
   rcases Bool.eq_false_or_eq_true (decide (t ≤ 2)) with h13 | h13
   · have h13p : (t ≤ 2) := by simpa only [decide_eq_true_eq, decide_eq_false_iff_not] using h13
     refine sg0 [.a (bT h13), .p 2, .a (iW (n + 1)), .p 1, .a (iW ((k : Int) + 1)), .p 1] O12 fun w14 O15 => ?_
     exact gz _ fun a F => hM6 a _ (k + 1, n + 1) F (O15.as 0) ⟨hk, (by rw [hdrop] at hq; simp only [partsC, h13p, if_true] at hq; omega), (by omega)⟩ (show ts.length - (k + 1) < ts.length - k by omega)
   · have h13p : ¬ (t ≤ 2) := by simpa only [decide_eq_true_eq, decide_eq_false_iff_not] using h13
     refine sg0 [.a (bT h13), .p 1, .a (iW ((k : Int) + 1)), .p 1] O12 fun w16 O17 => ?_
     exact gz _ fun a F => hM6 a _ (k + 1, n) F (O17.as 0) ⟨hk, (by rw [hdrop] at hq; simp only [partsC, h13p, if_false] at hq; omega), (by omega)⟩ (show ts.length - (k + 1) < ts.length - k by omega)
 · have h7p : ¬ ((k : Int) < (ts.length : Int)) := by simpa only [decide_eq_true_eq, decide_eq_false_iff_not] using h7
   have hq2 : partsC ts = n := by rw [List.drop_eq_nil_of_le (by have := h7p; omega)] at hq; simp only [partsC] at hq; omega
   refine sg0 [.a (bT h7), .p 3] O4 fun w18 O19 => ?_
   exact gret (v := .int .i64 n) [] O19 (⟨by rw [hq2], O19.below⟩)
set_option warningAsError false in
set_option maxRecDepth 100000 in
set_option maxHeartbeats 8000000 in
theorem readE {w0 w : World} {M : List Thing} {r : Nat} {A A' : Ar} {X : Thing} {role at_ nx kS kE kRS kRE sk sh sc sn : Int} {sb : Bool} {a0 a1 am bk : Option Addr} {c0 c1 cm dk : Nat} {p : Pat} {psks : List Int} {msg : List Int} {mB : Option Addr} {md : Nat} {h' : Hs} {y no : Int} {v : Value} (O : Own w0 w M) (i : Nat) (hi : M[i]? = some (arena r A)) (j : Nat) (hj : M[j]? = some X) (hX : HasShk X (pvx a0 c0 a1 c1 am cm p) p bk dk psks) (hfit : PatFits p) (hij : j ≠ i) (hr : rightP p = true) (hrole : role = 0 ∨ role = 1) (hat0 : 0 ≤ at_) (hp7 : 0 ≤ nx ∧ nx + cnt7 (toks p at_) ≤ psks.length) (hkl : psks.length * 8 ≤ 140737488355328) (hn : U64 sn) (hml : msg.length ≤ 1000000) (hmsg : Kept2 w0 M i j fun w => Holds w mB (intsV msg)) (hf : readC A role kS psks p ⟨at_, nx, kE, kRS, kRE, ⟨sk, sh, ⟨sc, sb, sn⟩⟩⟩ msg = (A', h', y, no)) (hv : h'.res no role (pvx a0 c0 a1 c1 am cm p) p kS (.slice bk psks.length dk) psks = v) :
    Calls Tryz.prog 22 #[.agg #[.int .i64 role, .int .i64 at_, .int .i64 nx, .string (strO p.name), .slice a0 p.pre0.length c0, .slice a1 p.pre1.length c1, .slice am p.msgs.length cm, .int .i64 kS, .int .i64 kE, .int .i64 kRS, .int .i64 kRE, .slice bk psks.length dk, .int .i64 sk, .int .i64 sh, .int .i64 sc, .bool sb, .int .u64 sn], .pointer (some ⟨r, 0, none⟩), .slice mB msg.length md] w fun e' w' => e' = .returned (.tuple #[v, .int .i64 y, .int .i64 no]) ∧ Own w0 w' (M.set i (arena r A')) := by
 obtain ⟨S0, T, hT, hS, hjT, O0, back, back2⟩ := O.focZ hi hj hij
 have hF := hX.frz hS
 have hmT := hmsg T hT
 refine gent O0 Tryz.func22 ?_
 refine sg2 [.n [], .n [], .p 2, .a (.r 1)] O0 fun b1 b2 w3 O4 => ?_
 refine gi (args := #[.agg #[.int .i64 role, .int .i64 at_, .int .i64 nx, .string (strO p.name), .slice a0 p.pre0.length c0, .slice a1 p.pre1.length c1, .slice am p.msgs.length cm, .int .i64 kS, .int .i64 kE, .int .i64 kRS, .int .i64 kRE, .slice bk psks.length dk, .int .i64 sk, .int .i64 sh, .int .i64 sc, .bool sb, .int .u64 sn]]) Tryz.func24 O4 fun O4i => ?_
 refine sg1 [.n [], .p 2, .a (.r 0), .p 2, .a (.r 0), .p 1] O4i fun b5 w6 O7 => ?_
 rcases Bool.eq_false_or_eq_true (decide (at_ ≥ (p.msgs.length : Int))) with h8 | h8
 · have h8p : ((p.msgs.length : Int) ≤ at_) := by simpa only [decide_eq_true_eq, decide_eq_false_iff_not] using h8
   refine sg0 [.a (bT h8), .p 1] O7 fun w9 O10 => ?_
   refine gir [] O10 fun O11 => ?_
   refine sg0 [.p 7, .s 1 [], .p 2] O11 fun w12 O13 => ?_
   simp [readC, Hs.zero, h8p] at hf
   obtain ⟨rfl, rfl, rfl, rfl⟩ := hf
   rw [Hs.res_no (by first | decide | assumption)] at hv
   subst hv
   exact gret [1] O13 (⟨rfl, back 3 O13⟩)
 · have h8p : ¬ ((p.msgs.length : Int) ≤ at_) := by simpa only [decide_eq_true_eq, decide_eq_false_iff_not] using h8
   refine sg0 [.a (bT h8), .p 1] O7 fun w14 O15 => ?_
   refine gir [] O15 fun O16 => ?_
   refine sg0 [.p 1, .a (.r 2)] O16 fun w17 O18 => ?_
   refine gi (args := #[.agg #[.int .i64 role, .int .i64 at_, .int .i64 nx, .string (strO p.name), .slice a0 p.pre0.length c0, .slice a1 p.pre1.length c1, .slice am p.msgs.length cm, .int .i64 kS, .int .i64 kE, .int .i64 kRS, .int .i64 kRE, .slice bk psks.length dk, .int .i64 sk, .int .i64 sh, .int .i64 sc, .bool sb, .int .u64 sn]]) Tryz.func23 O18 fun O18i => ?_
   refine sg1 [.n [], .p 2, .a (.r 0), .p 1, .a (.r 0), .p 1, .a (.r 0)] O18i fun b19 w20 O21 => ?_
   obtain ⟨sd22, hm23⟩ : ∃ b, sendsP p role at_ = b := ⟨_, rfl⟩
   refine gU (args := #[.agg #[.string (strO p.name), .slice a0 p.pre0.length c0, .slice a1 p.pre1.length c1, .slice am p.msgs.length cm], .int .i64 role, .int .i64 at_]) (sendsX O21 (j + 5) (atT hjT 5) hF.hasPat hfit hm23) fun w24 O25 => ?_
   rcases Bool.eq_false_or_eq_true (sd22) with h27 | h27
   · refine sg0 [.a (bT h27)] O25 fun w28 O29 => ?_
     refine gir [] O29 fun O30 => ?_
     refine sg0 [.p 4, .s 2 [], .p 2] O30 fun w31 O32 => ?_
     simp [readC, Hs.zero, h8p, hm23, h27] at hf
     obtain ⟨rfl, rfl, rfl, rfl⟩ := hf
     rw [Hs.res_no (by first | decide | assumption)] at hv
     subst hv
     exact gret [2] O32 (⟨rfl, back 4 O32⟩)
   · obtain ⟨q, rfl⟩ : ∃ q : Nat, at_ = (q : Int) := ⟨at_.toNat, by omega⟩
     obtain ⟨m, hm⟩ : ∃ m, p.msgs[q]? = some m := ⟨_, List.getElem?_eq_getElem (by omega)⟩
     have htk : toks p (q : Int) = m.t := by unfold toks; rw [Int.toNat_natCast, getD_at hm]
     have hqq : q < p.msgs.length := (List.getElem?_eq_some_iff.1 hm).1
     obtain ⟨mb, mq, D, d, hA, hSb, hc0, hc1, hD, hDS⟩ := msg_atS (hX.pat _ _ hS).msgs hm
     obtain ⟨hnm, htold0, htold1, hma, hmz, hms⟩ := right_facts hr
     have hmf := hms m (List.mem_of_getElem? hm)
     rw [htk] at hp7
     refine sg0 [.a (bT h27)] O25 fun w33 O34 => ?_
     refine gir [] O34 fun O35 => ?_
     refine sg0 [.p 5] O35 fun w36 O37 => ?_
     obtain ⟨is38, hm39⟩ : ∃ b, (msg.all fun x => has A.l x) = b := ⟨_, rfl⟩
     refine gU (args := #[.pointer (some ⟨r, 0, none⟩), .slice mB msg.length md]) (hasHE (r := r) (A := A) O37 4 (by kernel_rfl) (hmT 4 (y := arena r A) O37 (by kernel_rfl)) (by omega) hm39) fun w40 O41 => ?_
     rcases Bool.eq_false_or_eq_true (is38) with h43 | h43
     · refine sg0 [.a (bN h43), .p 6, .a (.r 3), .p 1, .a (.r 3), .a (.i _ mb mq p.msgs.length q hA hqq), .p 1] O41 fun w44 O45 => ?_
       refine gx [.cell mb (mq + q * 2 + 1) (.slice D m.t.length d)] O45 ⟨(frz_cell O45 (atT hjT 5) hSb hc1), trivial⟩ fun O46 => ?_
       refine sg0 [.a (.r 0)] O46 fun w47 O48 => ?_
       refine gB O48 (partsE (c := d) (frz_holds O48 (atT hjT 5) hDS hD) (by have := hmf.2.2.1; omega)) fun w49 O50 => ?_
       rcases Bool.eq_false_or_eq_true ((msg.length : Int) != (partsC m.t)) with h52 | h52
       · have h52p : ¬ (msg.length : Int) = (partsC m.t) := by simpa using h52
         refine sg0 [.a (bT h52), .p 3, .s 2 [], .p 2] O50 fun w53 O54 => ?_
         simp [readC, Hs.zero, h8p, hm23, h27, htk, (show ¬ (p.msgs.length : Int) ≤ (q : Int) by omega), hm39, h43, h52p] at hf
         obtain ⟨rfl, rfl, rfl, rfl⟩ := hf
         rw [Hs.res_no (by first | decide | assumption)] at hv
         subst hv
         exact gret [2] O54 (⟨rfl, back 4 O54⟩)
       · have h52p : (msg.length : Int) = (partsC m.t) := by simpa using h52
         refine sg0 [.a (bT h52), .p 6, .a (.r 3), .p 1, .a (.r 3), .a (.i _ mb mq p.msgs.length q hA hqq), .p 1] O50 fun w55 O56 => ?_
         refine gx [.cell mb (mq + q * 2 + 1) (.slice D m.t.length d)] O56 ⟨(frz_cell O56 (atT hjT 5) hSb hc1), trivial⟩ fun O57 => ?_
         refine sg0 [.a (.r 0), .p 2] O57 fun w58 O59 => ?_
         refine gl (fun (zz : Nat × Ar × Int × Int × Int × Int × Int × Int × Int × Int × Bool × Int × Nat) => match zz with | (k, Av, va, vx, vE, vS, vR, vk, vh, vc, vb, vn, ka) => [(1, .pointer (some ⟨r, 0, none⟩)), (2, .slice mB msg.length md), (3, .pointer (some ⟨b1, 0, none⟩)), (6, .pointer (some ⟨b2, 0, none⟩)), (7, .int .i64 0), (8, .int .i64 0), (9, .int .i64 (ka : Int)), (49, .slice D m.t.length d), (50, .int .i64 (m.t.length : Int)), (51, .int .i64 (k : Int))]) (fun (zz : Nat × Ar × Int × Int × Int × Int × Int × Int × Int × Int × Bool × Int × Nat) => match zz with | (k, Av, va, vx, vE, vS, vR, vk, vh, vc, vb, vn, ka) => (.blk b19 (.cells #[.int .i64 role, .int .i64 (q : Int), .int .i64 nx, .string (strO p.name), .slice a0 p.pre0.length c0, .slice a1 p.pre1.length c1, .slice am p.msgs.length cm, .int .i64 kS, .int .i64 kE, .int .i64 kRS, .int .i64 kRE, .slice bk psks.length dk, .int .i64 sk, .int .i64 sh, .int .i64 sc, .bool sb, .int .u64 sn] 42) :: .blk b5 (.cells #[.int .i64 role, .int .i64 (q : Int), .int .i64 nx, .string (strO p.name), .slice a0 p.pre0.length c0, .slice a1 p.pre1.length c1, .slice am p.msgs.length cm, .int .i64 kS, .int .i64 kE, .int .i64 kRS, .int .i64 kRE, .slice bk psks.length dk, .int .i64 sk, .int .i64 sh, .int .i64 sc, .bool sb, .int .u64 sn] 42) :: .blk b2 (.cells #[.int .i64 0, .int .i64 0, .int .i64 0, .string ⟨#[]⟩, .slice none 0 0, .slice none 0 0, .slice none 0 0, .int .i64 0, .int .i64 0, .int .i64 0, .int .i64 0, .slice none 0 0, .int .i64 0, .int .i64 0, .int .i64 0, .bool false, .int .u64 0] 42) :: .blk b1 (.cells #[.int .i64 role, .int .i64 va, .int .i64 vx, .string (strO p.name), .slice a0 p.pre0.length c0, .slice a1 p.pre1.length c1, .slice am p.msgs.length cm, .int .i64 kS, .int .i64 vE, .int .i64 vS, .int .i64 vR, .slice bk psks.length dk, .int .i64 vk, .int .i64 vh, .int .i64 vc, .bool vb, .int .u64 vn] 42) :: .thing (arena r Av) :: T)) (fun (zz : Nat × Ar × Int × Int × Int × Int × Int × Int × Int × Int × Bool × Int × Nat) w => match zz with | (k, Av, va, vx, vE, vS, vR, vk, vh, vc, vb, vn, ka) => k ≤ m.t.length ∧ readL role kS psks (modeP p) msg (m.t.drop k) Av ⟨va, vx, vE, vS, vR, ⟨vk, vh, ⟨vc, vb, vn⟩⟩⟩ ka = readL role kS psks (modeP p) msg m.t A ⟨(q : Int), nx, kE, kRS, kRE, ⟨sk, sh, ⟨sc, sb, sn⟩⟩⟩ 0 ∧ va = (q : Int) ∧ (0 ≤ vx ∧ vx + cnt7 (m.t.drop k) ≤ psks.length) ∧ U64 vn ∧ (ka : Int) + partsC (m.t.drop k) = (msg.length : Int)) (fun (zz : Nat × Ar × Int × Int × Int × Int × Int × Int × Int × Int × Bool × Int × Nat) => match zz with | (k, Av, va, vx, vE, vS, vR, vk, vh, vc, vb, vn, ka) => m.t.length - k) (0, A, (q : Int), nx, kE, kRS, kRE, sk, sh, sc, sb, sn, 0) (O59.as 0) ⟨(Nat.zero_le _), rfl, rfl, (by simpa using hp7), hn, (by have := h52p; simp; omega)⟩ ?_
         rintro M62 ⟨k, Av, va, vx, vE, vS, vR, vk, vh, vc, vb, vn, ka⟩ w60 hM63 O61 ⟨hk, hq, hat, hnx2, hn2, hka⟩
         rcases Bool.eq_false_or_eq_true (decide ((k : Int) < (m.t.length : Int))) with h64 | h64
         · have h64p : ((k : Int) < (m.t.length : Int)) := by simpa only [decide_eq_true_eq, decide_eq_false_iff_not] using h64
           have hk : k + 1 ≤ m.t.length := by have := h64p; omega
           obtain ⟨t, ht⟩ : ∃ t, m.t[k]? = some t := ⟨_, List.getElem?_eq_getElem hk⟩
           obtain ⟨tb, tq, hDt, _⟩ := holdsI_at hD ht
           have htk2 := hmf.2.2.2 t (List.mem_of_getElem? ht)
           have hdrop := drop_at ht
           refine sg0 [.a (bT h64), .p 1, .a (.i _ tb tq m.t.length k hDt hk)] O61 fun w65 O66 => ?_
           refine gx [.cell tb (tq + k * 1) (.int .i64 t)] O66 ⟨(holds_cell (frz_holds O66 (atT hjT 5) hDS hD) hDt ht), trivial⟩ fun O67 => ?_
           refine sg0 [.a (.r 0), .p 2] O67 fun w68 O69 => ?_
           rcases Bool.eq_false_or_eq_true (decide (t > 2)) with h70 | h70
           · have h70p : (2 < t) := by simpa only [decide_eq_true_eq, decide_eq_false_iff_not] using h70
             refine sg0 [.a (bT h70), .p 1, .a (.r 4), .p 2] O69 fun w71 O72 => ?_
             obtain ⟨A73, ha74, hx75, hE76, hS77, hR78, k79, h80, c81, b82, n83, e84, hm85⟩ : ∃ A73 ha74 hx75 hE76 hS77 hR78 k79 h80 c81 b82 n83 e84, mixC Av role kS psks ⟨va, vx, vE, vS, vR, ⟨vk, vh, ⟨vc, vb, vn⟩⟩⟩ t = (A73, ⟨ha74, hx75, hE76, hS77, hR78, ⟨k79, h80, ⟨c81, b82, n83⟩⟩⟩, e84) := ⟨_, _, _, _, _, _, _, _, _, _, _, _, rfl⟩
             rcases Decidable.em (e84 = 0) with h86 | h86
             · subst h86
               refine gS (args := #[.agg #[.int .i64 role, .int .i64 va, .int .i64 vx, .string (strO p.name), .slice a0 p.pre0.length c0, .slice a1 p.pre1.length c1, .slice am p.msgs.length cm, .int .i64 kS, .int .i64 vE, .int .i64 vS, .int .i64 vR, .slice bk psks.length dk, .int .i64 vk, .int .i64 vh, .int .i64 vc, .bool vb, .int .u64 vn], .pointer (some ⟨r, 0, none⟩), .int .i64 t]) (mixE (psks := psks) (v := .agg #[.int .i64 role, .int .i64 ha74, .int .i64 hx75, .string (strO p.name), .slice a0 p.pre0.length c0, .slice a1 p.pre1.length c1, .slice am p.msgs.length cm, .int .i64 kS, .int .i64 hE76, .int .i64 hS77, .int .i64 hR78, .slice bk psks.length dk, .int .i64 k79, .int .i64 h80, .int .i64 c81, .bool b82, .int .u64 n83]) O72 4 (by kernel_rfl) (j + 5) (atT hjT 5) hF hfit (by omega) hrole (by omega) (fun h7 => cnt_at hnx2 hdrop h7) hkl hm85 (by rfl)) fun w87 O88 => ?_
               have hk90 := mixC_nk (hn2) hm85
               have hs91 : ha74 = va ∧ hx75 = vx + (if t = 7 then 1 else 0) ∧ hE76 = vE ∧ hS77 = vS ∧ hR78 = vR := mixC_st hm85
               refine sg0 [.p 3, .s 3 [], .p 4, .a (iW ((k : Int) + 1)), .p 1] O88 fun w92 O93 => ?_
               exact gz _ fun a F => hM63 a _ (k + 1, A73, ha74, hx75, hE76, hS77, hR78, k79, h80, c81, b82, n83, ka) F (O93.as 0) ⟨hk, (by rw [← hq, hdrop]; simp [readL, (show ¬ (p.msgs.length : Int) ≤ (q : Int) by omega), h70p, hm85]), (hs91.1.trans hat), (cnt_next hnx2 hdrop hs91.2.1), hk90, (parts_next7 hka hdrop (by omega))⟩ (show m.t.length - (k + 1) < m.t.length - k by omega)
             · refine gS (args := #[.agg #[.int .i64 role, .int .i64 va, .int .i64 vx, .string (strO p.name), .slice a0 p.pre0.length c0, .slice a1 p.pre1.length c1, .slice am p.msgs.length cm, .int .i64 kS, .int .i64 vE, .int .i64 vS, .int .i64 vR, .slice bk psks.length dk, .int .i64 vk, .int .i64 vh, .int .i64 vc, .bool vb, .int .u64 vn], .pointer (some ⟨r, 0, none⟩), .int .i64 t]) (mixE (psks := psks) (v := .agg #[.int .i64 0, .int .i64 0, .int .i64 0, .string ⟨#[]⟩, .slice none 0 0, .slice none 0 0, .slice none 0 0, .int .i64 0, .int .i64 0, .int .i64 0, .int .i64 0, .slice none 0 0, .int .i64 0, .int .i64 0, .int .i64 0, .bool false, .int .u64 0]) O72 4 (by kernel_rfl) (j + 5) (atT hjT 5) hF hfit (by omega) hrole (by omega) (fun h7 => cnt_at hnx2 hdrop h7) hkl hm85 (Hs.res_no h86)) fun w94 O95 => ?_
               have hk97 := mixC_nk (hn2) hm85
               refine sg0 [.p 3, .s 3 [], .p 2, .a (bT (bne_t h86)), .p 3, .s 2 [], .p 2] O95 fun w98 O99 => ?_
               simp [readC, Hs.zero, h8p, hm23, h27, htk, (show ¬ (p.msgs.length : Int) ≤ (q : Int) by omega), hm39, h43, h52p, ← hq, hdrop, readL, h70p, h86, hm85] at hf
               obtain ⟨rfl, rfl, rfl, rfl⟩ := hf
               rw [Hs.res_no (by first | decide | assumption)] at hv
               subst hv
               exact gret [2] O99 (⟨rfl, back 4 O99⟩)
           · have h70p : ¬ (2 < t) := by simpa only [decide_eq_true_eq, decide_eq_false_iff_not] using h70
             have hka1 : ka < msg.length := parts_lt hka hdrop
             obtain ⟨z, hz⟩ : ∃ z, msg[ka]? = some z := ⟨_, List.getElem?_eq_getElem hka1⟩
             have hzz : msg[ka] = z := (List.getElem?_eq_some_iff.1 hz).2
             obtain ⟨zb, zq, hB, _⟩ := holdsI_at (hmT 4 (y := arena r Av) O69 (by kernel_rfl)) hz
             refine sg0 [.a (bT h70), .p 1] O69 fun w100 O101 => ?_
             refine gx [] O101 trivial fun O102 => ?_
             refine sg0 [.d [], .qs [1, 2, 3, 4], .q 5 (.i _ zb zq msg.length ka hB hka1)] O102 fun w103 O104 => ?_
             refine gA [0, 6] O104 ⟨?_, ?_, trivial⟩
             · intro O105
               refine sg0 [.a (.r 3), .o 6] O105 fun w106 O107 => ?_
               refine gx [.cell zb (zq + ka * 1) (.int .i64 z)] O107 ⟨(holds_cell (hmT 4 (y := arena r Av) O107 (by kernel_rfl)) hB hz), trivial⟩ fun O108 => ?_
               refine sg0 [.a (.r 0), .o 7] O108 fun w109 O110 => ?_
               obtain ⟨A111, ha112, hx113, hE114, hS115, hR116, k117, h118, c119, b120, n121, e122, hm123⟩ : ∃ A111 ha112 hx113 hE114 hS115 hR116 k117 h118 c119 b120 n121 e122, receiveC Av (modeP p) ⟨va, vx, vE, vS, vR, ⟨vk, vh, ⟨vc, vb, vn⟩⟩⟩ t z = (A111, ⟨ha112, hx113, hE114, hS115, hR116, ⟨k117, h118, ⟨c119, b120, n121⟩⟩⟩, e122) := ⟨_, _, _, _, _, _, _, _, _, _, _, _, rfl⟩
               rcases Decidable.em (e122 = 0) with h124 | h124
               · subst h124
                 refine gS (args := #[.agg #[.int .i64 role, .int .i64 va, .int .i64 vx, .string (strO p.name), .slice a0 p.pre0.length c0, .slice a1 p.pre1.length c1, .slice am p.msgs.length cm, .int .i64 kS, .int .i64 vE, .int .i64 vS, .int .i64 vR, .slice bk psks.length dk, .int .i64 vk, .int .i64 vh, .int .i64 vc, .bool vb, .int .u64 vn], .pointer (some ⟨r, 0, none⟩), .int .i64 t, .int .i64 z]) (receiveE (psks := psks) (v := .agg #[.int .i64 role, .int .i64 ha112, .int .i64 hx113, .string (strO p.name), .slice a0 p.pre0.length c0, .slice a1 p.pre1.length c1, .slice am p.msgs.length cm, .int .i64 kS, .int .i64 hE114, .int .i64 hS115, .int .i64 hR116, .slice bk psks.length dk, .int .i64 k117, .int .i64 h118, .int .i64 c119, .bool b120, .int .u64 n121]) O110 4 (by kernel_rfl) (j + 5) (atT hjT 5) hF hfit (by omega) (by omega) hn2 hm123 (by rfl)) fun w125 O126 => ?_
                 have hk128 := receiveC_nk (hn2) hm123
                 have hs129 : ha112 = va ∧ hx113 = vx ∧ hE114 = vE := receiveC_st hm123
                 refine sg0 [.qs [8, 9, 10], .o 11, .s 3 [], .qs [12], .z, .p 1, .a (iW ((ka : Int) + 1)), .p 4, .a (iW ((k : Int) + 1)), .p 1] O126 fun w130 O131 => ?_
                 exact gz _ fun a F => hM63 a _ (k + 1, A111, ha112, hx113, hE114, hS115, hR116, k117, h118, c119, b120, n121, ka + 1) F (O131.as 0) ⟨hk, (by rw [← hq, hdrop]; simp [readL, (show ¬ (p.msgs.length : Int) ≤ (q : Int) by omega), h70p, hzz, hka1, hm123]), (hs129.1.trans hat), (cnt_next0 hnx2 hdrop (by omega) hs129.2.1), hk128, (parts_next hka hdrop (by omega))⟩ (show m.t.length - (k + 1) < m.t.length - k by omega)
               · refine gS (args := #[.agg #[.int .i64 role, .int .i64 va, .int .i64 vx, .string (strO p.name), .slice a0 p.pre0.length c0, .slice a1 p.pre1.length c1, .slice am p.msgs.length cm, .int .i64 kS, .int .i64 vE, .int .i64 vS, .int .i64 vR, .slice bk psks.length dk, .int .i64 vk, .int .i64 vh, .int .i64 vc, .bool vb, .int .u64 vn], .pointer (some ⟨r, 0, none⟩), .int .i64 t, .int .i64 z]) (receiveE (psks := psks) (v := .agg #[.int .i64 0, .int .i64 0, .int .i64 0, .string ⟨#[]⟩, .slice none 0 0, .slice none 0 0, .slice none 0 0, .int .i64 0, .int .i64 0, .int .i64 0, .int .i64 0, .slice none 0 0, .int .i64 0, .int .i64 0, .int .i64 0, .bool false, .int .u64 0]) O110 4 (by kernel_rfl) (j + 5) (atT hjT 5) hF hfit (by omega) (by omega) hn2 hm123 (Hs.res_no h124)) fun w132 O133 => ?_
                 have hk135 := receiveC_nk (hn2) hm123
                 refine sg0 [.qs [8, 9, 10], .o 11, .s 3 [], .qs [12], .z, .p 1, .a (iW ((ka : Int) + 1)), .p 2, .a (bT (bne_t h124)), .p 3, .s 2 [], .p 2] O133 fun w136 O137 => ?_
                 simp [readC, Hs.zero, h8p, hm23, h27, htk, (show ¬ (p.msgs.length : Int) ≤ (q : Int) by omega), hm39, h43, h52p, ← hq, hdrop, readL, h70p, hzz, hka1, h124, hm123] at hf
                 obtain ⟨rfl, rfl, rfl, rfl⟩ := hf
                 rw [Hs.res_no (by first | decide | assumption)] at hv
                 subst hv
                 exact gret [2] O137 (⟨rfl, back 4 O137⟩)
             · intro O138
               refine gx [.cell zb (zq + ka * 1) (.int .i64 z)] O138 ⟨(holds_cell (hmT 4 (y := arena r Av) O138 (by kernel_rfl)) hB hz), trivial⟩ fun O139 => ?_
               refine sg0 [.a (.r 0), .o 0, .a (.r 4), .o 7] O139 fun w140 O141 => ?_
               obtain ⟨A142, ha143, hx144, hE145, hS146, hR147, k148, h149, c150, b151, n152, e153, hm154⟩ : ∃ A142 ha143 hx144 hE145 hS146 hR147 k148 h149 c150 b151 n152 e153, receiveC Av (modeP p) ⟨va, vx, vE, vS, vR, ⟨vk, vh, ⟨vc, vb, vn⟩⟩⟩ t z = (A142, ⟨ha143, hx144, hE145, hS146, hR147, ⟨k148, h149, ⟨c150, b151, n152⟩⟩⟩, e153) := ⟨_, _, _, _, _, _, _, _, _, _, _, _, rfl⟩
               rcases Decidable.em (e153 = 0) with h155 | h155
               · subst h155
                 refine gS (args := #[.agg #[.int .i64 role, .int .i64 va, .int .i64 vx, .string (strO p.name), .slice a0 p.pre0.length c0, .slice a1 p.pre1.length c1, .slice am p.msgs.length cm, .int .i64 kS, .int .i64 vE, .int .i64 vS, .int .i64 vR, .slice bk psks.length dk, .int .i64 vk, .int .i64 vh, .int .i64 vc, .bool vb, .int .u64 vn], .pointer (some ⟨r, 0, none⟩), .int .i64 t, .int .i64 z]) (receiveE (psks := psks) (v := .agg #[.int .i64 role, .int .i64 ha143, .int .i64 hx144, .string (strO p.name), .slice a0 p.pre0.length c0, .slice a1 p.pre1.length c1, .slice am p.msgs.length cm, .int .i64 kS, .int .i64 hE145, .int .i64 hS146, .int .i64 hR147, .slice bk psks.length dk, .int .i64 k148, .int .i64 h149, .int .i64 c150, .bool b151, .int .u64 n152]) O141 4 (by kernel_rfl) (j + 5) (atT hjT 5) hF hfit (by omega) (by omega) hn2 hm154 (by rfl)) fun w156 O157 => ?_
                 have hk159 := receiveC_nk (hn2) hm154
                 have hs160 : ha143 = va ∧ hx144 = vx ∧ hE145 = vE := receiveC_st hm154
                 refine sg0 [.qs [8, 9, 10], .o 11, .s 3 [], .qs [12], .z, .p 1, .a (iW ((ka : Int) + 1)), .p 4, .a (iW ((k : Int) + 1)), .p 1] O157 fun w161 O162 => ?_
                 exact gz _ fun a F => hM63 a _ (k + 1, A142, ha143, hx144, hE145, hS146, hR147, k148, h149, c150, b151, n152, ka + 1) F (O162.as 0) ⟨hk, (by rw [← hq, hdrop]; simp [readL, (show ¬ (p.msgs.length : Int) ≤ (q : Int) by omega), h70p, hzz, hka1, hm154]), (hs160.1.trans hat), (cnt_next0 hnx2 hdrop (by omega) hs160.2.1), hk159, (parts_next hka hdrop (by omega))⟩ (show m.t.length - (k + 1) < m.t.length - k by omega)
               · refine gS (args := #[.agg #[.int .i64 role, .int .i64 va, .int .i64 vx, .string (strO p.name), .slice a0 p.pre0.length c0, .slice a1 p.pre1.length c1, .slice am p.msgs.length cm, .int .i64 kS, .int .i64 vE, .int .i64 vS, .int .i64 vR, .slice bk psks.length dk, .int .i64 vk, .int .i64 vh, .int .i64 vc, .bool vb, .int .u64 vn], .pointer (some ⟨r, 0, none⟩), .int .i64 t, .int .i64 z]) (receiveE (psks := psks) (v := .agg #[.int .i64 0, .int .i64 0, .int .i64 0, .string ⟨#[]⟩, .slice none 0 0, .slice none 0 0, .slice none 0 0, .int .i64 0, .int .i64 0, .int .i64 0, .int .i64 0, .slice none 0 0, .int .i64 0, .int .i64 0, .int .i64 0, .bool false, .int .u64 0]) O141 4 (by kernel_rfl) (j + 5) (atT hjT 5) hF hfit (by omega) (by omega) hn2 hm154 (Hs.res_no h155)) fun w163 O164 => ?_
                 have hk166 := receiveC_nk (hn2) hm154
                 refine sg0 [.qs [8, 9, 10], .o 11, .s 3 [], .qs [12], .z, .p 1, .a (iW ((ka : Int) + 1)), .p 2, .a (bT (bne_t h155)), .p 3, .s 2 [], .p 2] O164 fun w167 O168 => ?_
                 simp [readC, Hs.zero, h8p, hm23, h27, htk, (show ¬ (p.msgs.length : Int) ≤ (q : Int) by omega), hm39, h43, h52p, ← hq, hdrop, readL, h70p, hzz, hka1, h155, hm154] at hf
                 obtain ⟨rfl, rfl, rfl, rfl⟩ := hf
                 rw [Hs.res_no (by first | decide | assumption)] at hv
                 subst hv
                 exact gret [2] O168 (⟨rfl, back 4 O168⟩)
         · have h64p : ¬ ((k : Int) < (m.t.length : Int)) := by simpa only [decide_eq_true_eq, decide_eq_false_iff_not] using h64
           have hq2 : readL role kS psks (modeP p) msg m.t A ⟨(q : Int), nx, kE, kRS, kRE, ⟨sk, sh, ⟨sc, sb, sn⟩⟩⟩ 0 = (Av, ⟨va, vx, vE, vS, vR, ⟨vk, vh, ⟨vc, vb, vn⟩⟩⟩, ka, 0) := by rw [← hq, List.drop_eq_nil_of_le (by have := h64p; omega)]; rfl
           have hka0 : (ka : Int) + 1 = (msg.length : Int) := by have h9 := hka; rw [List.drop_eq_nil_of_le (by have := h64p; omega)] at h9; simpa [partsC] using h9
           have hka1 : ka < msg.length := by omega
           obtain ⟨z, hz⟩ : ∃ z, msg[ka]? = some z := ⟨_, List.getElem?_eq_getElem hka1⟩
           have hzz : msg[ka] = z := (List.getElem?_eq_some_iff.1 hz).2
           obtain ⟨zb, zq, hB, _⟩ := holdsI_at (hmT 4 (y := arena r Av) O61 (by kernel_rfl)) hz
           refine sg0 [.a (bT h64), .p 1, .d [], .qs [1, 2, 3], .q 4 (.i _ zb zq msg.length ka hB hka1)] O61 fun w169 O170 => ?_
           refine gA [0, 5] O170 ⟨?_, ?_, trivial⟩
           · intro O171
             refine sg0 [.a (.r 3), .o 5] O171 fun w172 O173 => ?_
             refine gx [.cell zb (zq + ka * 1) (.int .i64 z)] O173 ⟨(holds_cell (hmT 4 (y := arena r Av) O173 (by kernel_rfl)) hB hz), trivial⟩ fun O174 => ?_
             refine sg0 [.a (.r 0), .o 6] O174 fun w175 O176 => ?_
             obtain ⟨A177, ha178, hx179, hE180, hS181, hR182, k183, h184, c185, b186, n187, x188, e189, hm190⟩ : ∃ A177 ha178 hx179 hE180 hS181 hR182 k183 h184 c185 b186 n187 x188 e189, openedC Av ⟨va, vx, vE, vS, vR, ⟨vk, vh, ⟨vc, vb, vn⟩⟩⟩ z = (A177, ⟨ha178, hx179, hE180, hS181, hR182, ⟨k183, h184, ⟨c185, b186, n187⟩⟩⟩, x188, e189) := ⟨_, _, _, _, _, _, _, _, _, _, _, _, _, rfl⟩
             rcases Decidable.em (e189 = 0) with h191 | h191
             · subst h191
               refine gS (args := #[.agg #[.int .i64 role, .int .i64 va, .int .i64 vx, .string (strO p.name), .slice a0 p.pre0.length c0, .slice a1 p.pre1.length c1, .slice am p.msgs.length cm, .int .i64 kS, .int .i64 vE, .int .i64 vS, .int .i64 vR, .slice bk psks.length dk, .int .i64 vk, .int .i64 vh, .int .i64 vc, .bool vb, .int .u64 vn], .pointer (some ⟨r, 0, none⟩), .int .i64 z]) (openedE (psks := psks) (v := .agg #[.int .i64 role, .int .i64 ha178, .int .i64 hx179, .string (strO p.name), .slice a0 p.pre0.length c0, .slice a1 p.pre1.length c1, .slice am p.msgs.length cm, .int .i64 kS, .int .i64 hE180, .int .i64 hS181, .int .i64 hR182, .slice bk psks.length dk, .int .i64 k183, .int .i64 h184, .int .i64 c185, .bool b186, .int .u64 n187]) O176 4 (by kernel_rfl) hn2 hm190 (by rfl)) fun w192 O193 => ?_
               have hk195 := openedC_nk (hn2) hm190
               have hs196 : ha178 = va ∧ hx179 = vx ∧ hE180 = vE ∧ hS181 = vS ∧ hR182 = vR := openedC_st hm190
               refine sg0 [.qs [7, 8, 9, 10], .o 11, .s 3 [], .qs [12, 13], .z, .p 4, .a (.r 3), .a (iW (ha178 + 1)), .p 1, .s 3 [], .a (.r 3), .p 1, .s 2 [], .p 2] O193 fun w197 O198 => ?_
               simp [readC, h8p, hm23, h27, htk, (show ¬ (p.msgs.length : Int) ≤ (q : Int) by omega), hm39, h43, h52p, hq2, hzz, hka1, hm190] at hf
               obtain ⟨rfl, rfl, rfl, rfl⟩ := hf
               rw [Hs.res_ok] at hv
               subst hv
               exact gret [2] O198 (⟨rfl, back 4 O198⟩)
             · refine gS (args := #[.agg #[.int .i64 role, .int .i64 va, .int .i64 vx, .string (strO p.name), .slice a0 p.pre0.length c0, .slice a1 p.pre1.length c1, .slice am p.msgs.length cm, .int .i64 kS, .int .i64 vE, .int .i64 vS, .int .i64 vR, .slice bk psks.length dk, .int .i64 vk, .int .i64 vh, .int .i64 vc, .bool vb, .int .u64 vn], .pointer (some ⟨r, 0, none⟩), .int .i64 z]) (openedE (psks := psks) (v := .agg #[.int .i64 0, .int .i64 0, .int .i64 0, .string ⟨#[]⟩, .slice none 0 0, .slice none 0 0, .slice none 0 0, .int .i64 0, .int .i64 0, .int .i64 0, .int .i64 0, .slice none 0 0, .int .i64 0, .int .i64 0, .int .i64 0, .bool false, .int .u64 0]) O176 4 (by kernel_rfl) hn2 hm190 (Hs.res_no h191)) fun w199 O200 => ?_
               have hk202 := openedC_nk (hn2) hm190
               obtain rfl : x188 = 0 := openedC_zero hm190 h191
               refine sg0 [.qs [7, 8, 9, 10], .o 11, .s 3 [], .qs [12, 13], .z, .p 1, .a (bT (bne_t h191)), .p 3, .s 2 [], .p 2] O200 fun w203 O204 => ?_
               simp [readC, Hs.zero, h8p, hm23, h27, htk, (show ¬ (p.msgs.length : Int) ≤ (q : Int) by omega), hm39, h43, h52p, hq2, hzz, hka1, h191, hm190] at hf
               obtain ⟨rfl, rfl, rfl, rfl⟩ := hf
               rw [Hs.res_no (by first | decide | assumption)] at hv
               subst hv
               exact gret [2] O204 (⟨rfl, back 4 O204⟩)
           · intro O205
             refine gx [.cell zb (zq + ka * 1) (.int .i64 z)] O205 ⟨(holds_cell (hmT 4 (y := arena r Av) O205 (by kernel_rfl)) hB hz), trivial⟩ fun O206 => ?_
             refine sg0 [.a (.r 0), .o 0, .a (.r 4), .o 6] O206 fun w207 O208 => ?_
             obtain ⟨A209, ha210, hx211, hE212, hS213, hR214, k215, h216, c217, b218, n219, x220, e221, hm222⟩ : ∃ A209 ha210 hx211 hE212 hS213 hR214 k215 h216 c217 b218 n219 x220 e221, openedC Av ⟨va, vx, vE, vS, vR, ⟨vk, vh, ⟨vc, vb, vn⟩⟩⟩ z = (A209, ⟨ha210, hx211, hE212, hS213, hR214, ⟨k215, h216, ⟨c217, b218, n219⟩⟩⟩, x220, e221) := ⟨_, _, _, _, _, _, _, _, _, _, _, _, _, rfl⟩
             rcases Decidable.em (e221 = 0) with h223 | h223
             · subst h223
               refine gS (args := #[.agg #[.int .i64 role, .int .i64 va, .int .i64 vx, .string (strO p.name), .slice a0 p.pre0.length c0, .slice a1 p.pre1.length c1, .slice am p.msgs.length cm, .int .i64 kS, .int .i64 vE, .int .i64 vS, .int .i64 vR, .slice bk psks.length dk, .int .i64 vk, .int .i64 vh, .int .i64 vc, .bool vb, .int .u64 vn], .pointer (some ⟨r, 0, none⟩), .int .i64 z]) (openedE (psks := psks) (v := .agg #[.int .i64 role, .int .i64 ha210, .int .i64 hx211, .string (strO p.name), .slice a0 p.pre0.length c0, .slice a1 p.pre1.length c1, .slice am p.msgs.length cm, .int .i64 kS, .int .i64 hE212, .int .i64 hS213, .int .i64 hR214, .slice bk psks.length dk, .int .i64 k215, .int .i64 h216, .int .i64 c217, .bool b218, .int .u64 n219]) O208 4 (by kernel_rfl) hn2 hm222 (by rfl)) fun w224 O225 => ?_
               have hk227 := openedC_nk (hn2) hm222
               have hs228 : ha210 = va ∧ hx211 = vx ∧ hE212 = vE ∧ hS213 = vS ∧ hR214 = vR := openedC_st hm222
               refine sg0 [.qs [7, 8, 9, 10], .o 11, .s 3 [], .qs [12, 13], .z, .p 4, .a (.r 3), .a (iW (ha210 + 1)), .p 1, .s 3 [], .a (.r 3), .p 1, .s 2 [], .p 2] O225 fun w229 O230 => ?_
               simp [readC, h8p, hm23, h27, htk, (show ¬ (p.msgs.length : Int) ≤ (q : Int) by omega), hm39, h43, h52p, hq2, hzz, hka1, hm222] at hf
               obtain ⟨rfl, rfl, rfl, rfl⟩ := hf
               rw [Hs.res_ok] at hv
               subst hv
               exact gret [2] O230 (⟨rfl, back 4 O230⟩)
             · refine gS (args := #[.agg #[.int .i64 role, .int .i64 va, .int .i64 vx, .string (strO p.name), .slice a0 p.pre0.length c0, .slice a1 p.pre1.length c1, .slice am p.msgs.length cm, .int .i64 kS, .int .i64 vE, .int .i64 vS, .int .i64 vR, .slice bk psks.length dk, .int .i64 vk, .int .i64 vh, .int .i64 vc, .bool vb, .int .u64 vn], .pointer (some ⟨r, 0, none⟩), .int .i64 z]) (openedE (psks := psks) (v := .agg #[.int .i64 0, .int .i64 0, .int .i64 0, .string ⟨#[]⟩, .slice none 0 0, .slice none 0 0, .slice none 0 0, .int .i64 0, .int .i64 0, .int .i64 0, .int .i64 0, .slice none 0 0, .int .i64 0, .int .i64 0, .int .i64 0, .bool false, .int .u64 0]) O208 4 (by kernel_rfl) hn2 hm222 (Hs.res_no h223)) fun w231 O232 => ?_
               have hk234 := openedC_nk (hn2) hm222
               obtain rfl : x220 = 0 := openedC_zero hm222 h223
               refine sg0 [.qs [7, 8, 9, 10], .o 11, .s 3 [], .qs [12, 13], .z, .p 1, .a (bT (bne_t h223)), .p 3, .s 2 [], .p 2] O232 fun w235 O236 => ?_
               simp [readC, Hs.zero, h8p, hm23, h27, htk, (show ¬ (p.msgs.length : Int) ≤ (q : Int) by omega), hm39, h43, h52p, hq2, hzz, hka1, h223, hm222] at hf
               obtain ⟨rfl, rfl, rfl, rfl⟩ := hf
               rw [Hs.res_no (by first | decide | assumption)] at hv
               subst hv
               exact gret [2] O236 (⟨rfl, back 4 O236⟩)
     · refine sg0 [.a (bN h43), .p 3, .s 2 [], .p 2] O41 fun w237 O238 => ?_
       simp [readC, Hs.zero, h8p, hm23, h27, (show ¬ (p.msgs.length : Int) ≤ (q : Int) by omega), hm39, h43] at hf
       obtain ⟨rfl, rfl, rfl, rfl⟩ := hf
       rw [Hs.res_no (by first | decide | assumption)] at hv
       subst hv
       exact gret [2] O238 (⟨rfl, back 4 O238⟩)
end Go.Proofs.YtikimmgileffgaaGreatDoor
end
/- What law 12 makes ahead of its handshakes (plain). -/
section
namespace Go.Proofs.YtikimmgileffgaaGreatDoor
open Go.RowKit
def fewP (p : Pat) : Bool := (p.msgs.take 11).all (fun m => decide (m.t.length ≤ 20)) && (decide (p.msgs.length ≤ 10) && (decide (p.name.length ≤ 40) && (decide (p.pre0.length ≤ 5) && decide (p.pre1.length ≤ 5))))
theorem few_next {p : Pat} {k : Nat} {m : Msg} (hq : ∀ i m, i < k → p.msgs[i]? = some m → m.t.length ≤ 20) (hm : p.msgs[k]? = some m) (hl : m.t.length ≤ 20) : ∀ i m, i < k + 1 → p.msgs[i]? = some m → m.t.length ≤ 20 := fun i m' hi h => by
  by_cases e : i = k
  · subst e; rw [hm] at h; cases h; exact hl
  · exact hq i m' (by omega) h
theorem few_no {p : Pat} {k : Nat} {m : Msg} (hm : p.msgs[k]? = some m) (hl : 20 < m.t.length) (hk : k ≤ 10) : fewP p = false := by
  have h : ¬ (p.msgs.take 11).all (fun m => decide (m.t.length ≤ 20)) = true := fun h => by
    rw [List.all_eq_true] at h
    have := h m (List.mem_of_getElem? (i := k) (by rw [List.getElem?_take, if_pos (by omega)]; exact hm))
    simp at this; omega
  simp only [fewP, Bool.and_eq_false_iff]
  exact .inl (by simpa using h)
theorem few_all {p : Pat} {k : Nat} (hq : ∀ i m, i < k → p.msgs[i]? = some m → m.t.length ≤ 20) (hk : p.msgs.length ≤ k ∨ 11 ≤ k) : fewP p = (decide (p.msgs.length ≤ 10) && (decide (p.name.length ≤ 40) && (decide (p.pre0.length ≤ 5) && decide (p.pre1.length ≤ 5)))) := by
  have h : (p.msgs.take 11).all (fun m => decide (m.t.length ≤ 20)) = true := by
    rw [List.all_eq_true]
    intro m hm
    obtain ⟨i, hi⟩ := List.mem_iff_getElem?.1 hm
    rw [List.getElem?_take] at hi
    split at hi
    · have hl := (List.getElem?_eq_some_iff.1 hi).1
      simpa using hq i m (by omega) hi
    · cases hi
  unfold fewP; rw [h, Bool.true_and]
def secL (b : Int) : List Nat → Ar → List Int → Ar × List Int × Bool
  | [], A, l => (A, l, true)
  | n :: ns, A, l =>
    let m := mk A ⟨1, b + n, 0, 0, 0⟩
    if m.2.2 ≠ 0 then (m.1, [], false) else secL b ns m.1 (l ++ [m.2.1])
theorem range_drop {n k : Nat} (h : k < n) : (List.range n).drop k = k :: (List.range n).drop (k + 1) := by
  rw [List.drop_eq_getElem_cons (by simpa using h)]; simp
/-- The names of psks, made one by one. -/
def pskL : List Int → Ar → List Int → Ar × List Int
  | [], A, l => (A, l)
  | n :: ns, A, l => let m := mk A ⟨1, 1000 + n.tmod 1000, 0, 0, 0⟩; pskL ns m.1 (l ++ [m.2.1])
def s100 : List Int := [1, 2, 3, 4, 5, 6, 7, 8, 9, 10, 11, 12, 13, 14]
def s200 : List Int := [15, 16, 17, 18, 19, 20, 21, 22, 23, 24, 25, 26, 27, 28]
def arS0 : Ar := (secL 100 (List.range 14) (newAr 2000) []).1
def arS1 : Ar := (secL 200 (List.range 14) arS0 []).1
theorem secS0 : secL 100 (List.range 14) (newAr 2000) [] = (arS0, s100, true) := by kernel_rfl
theorem secS1 : secL 200 (List.range 14) arS0 [] = (arS1, s200, true) := by kernel_rfl
/-- Both sides' keys, and the arena behind them. -/
structure Two where
  A : Ar
  rs0 : Int
  re0 : Int
  k0 : List Int
  rs1 : Int
  re1 : Int
  k1 : List Int
def twoC (us : List Int) : Two :=
  let a := mk arS1 ⟨2, 0, 15, 0, 0⟩
  let b := mk a.1 ⟨2, 0, 16, 0, 0⟩
  let k := pskL us b.1 []
  let c := mk k.1 ⟨2, 0, 1, 0, 0⟩
  let d := mk c.1 ⟨2, 0, 2, 0, 0⟩
  let l := pskL us d.1 []
  ⟨l.1, a.2.1, b.2.1, k.2, c.2.1, d.2.1, l.2⟩
theorem tmod_le {n : Int} (h : 0 ≤ n) : 0 ≤ n.tmod 1000 ∧ n.tmod 1000 < 1000 := ⟨Int.tmod_nonneg _ h, Int.tmod_lt_of_pos _ (by decide)⟩
def u64V (l : List Int) : List Value := l.map (Value.int .u64)
theorem holdsU_at {w : World} {A : Option Addr} {ts : List Int} {k : Nat} {t : Int} (h : Holds w A (u64V ts)) (ht : ts[k]? = some t) :
    ∃ b q, A = some ⟨b, q, none⟩ ∧ ∀ w', Below w.heap.size w w' → w'.cell? ⟨b, q + k * 1, none⟩ = some (.int .u64 t) := by
  rcases h with h | ⟨b, q, hA, h⟩
  · have : ts = [] := by simpa [u64V] using h
    subst this; simp at ht
  · refine ⟨b, q, hA, fun w' hb => ?_⟩
    have h1 := h k (.int .u64 t) (by simp [u64V, ht])
    rw [Nat.mul_one]; exact (hb.cell (World.block_lt_of_cell? w _ h1)).trans h1
theorem lenAE {w0 w : World} {M : List Thing} {r : Nat} {A : Ar} (O : Own w0 w M) (i : Nat) (hi : M[i]? = some (arena r A)) : Calls Tryz.prog 26 #[.pointer (some ⟨r, 0, none⟩)] w fun e w' => e = .returned (.int .i64 A.l.length) ∧ Own w0 w' M := by
  obtain ⟨S, hr⟩ := O.arena hi
  exact (len_calls hr).mono fun _ _ ⟨h, hw⟩ => ⟨h, hw ▸ O⟩
theorem Own.room {w0 w : World} {M : List Thing} {r : Nat} {A : Ar} (O : Own w0 w M) (i : Nat) (hi : M[i]? = some (Go.Proofs.YtikimmgileffgaaGreatDoor.arena r A)) : A.l.length ≤ 65536 := by
  obtain ⟨S, hr⟩ := O.arena hi
  have := hr.room; omega
end Go.Proofs.YtikimmgileffgaaGreatDoor
end
