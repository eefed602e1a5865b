/- Packed by packn.py: ShkC. -/
import Derived.Test.YtikimmgileffgaaGreatDoorQk24
namespace Go.Proofs.YtikimmgileffgaaGreatDoor
open Go.RowKit
theorem sendsX {w0 w : World} {M : List Thing} {X : Thing} {a0 a1 am : Option Addr} {c0 c1 cm : Nat} {p : Pat} {role n : Int} {is : Bool} (O : Own w0 w M) (j : Nat) (hj : M[j]? = some X) (hX : HasPat X (pvx a0 c0 a1 c1 am cm p) p) (hfit : PatFits p) (hm : sendsP p role n = is) :
    Calls Tryz.prog 79 #[.agg #[.string (strO p.name), .slice a0 p.pre0.length c0, .slice a1 p.pre1.length c1, .slice am p.msgs.length cm], .int .i64 role, .int .i64 n] w fun e' w' => e' = .returned (.bool is) ∧ Own w0 w' M :=
  (sendsE (O.hasPat hj hX) hfit).mono fun _ _ ⟨h, hb⟩ => ⟨by rw [← hm]; exact h, O.call hb⟩
set_option warningAsError false in
set_option maxRecDepth 100000 in
set_option maxHeartbeats 8000000 in
theorem writeE {w0 w : World} {M : List Thing} {r : Nat} {A A' : Ar} {X : Thing} {role at_ nx kS kE kRS kRE sk sh sc sn : Int} {sb : Bool} {a0 a1 am bk : Option Addr} {c0 c1 cm dk : Nat} {p : Pat} {psks : List Int} {e payload : Int} {h' : Hs} {msg' : List Int} {no : Int} (O : Own w0 w M) (i : Nat) (hi : M[i]? = some (arena r A)) (j : Nat) (hj : M[j]? = some X) (hX : HasShk X (pvx a0 c0 a1 c1 am cm p) p bk dk psks) (hfit : PatFits p) (hij : j ≠ i) (hr : rightP p = true) (hrole : role = 0 ∨ role = 1) (hp7 : 0 ≤ nx ∧ nx + cnt7 (toks p at_) ≤ psks.length) (hkl : psks.length * 8 ≤ 140737488355328) (hn : U64 sn) (hf : writeC A role kS psks p ⟨at_, nx, kE, kRS, kRE, ⟨sk, sh, ⟨sc, sb, sn⟩⟩⟩ e payload = (A', h', msg', no)) :
    Calls Tryz.prog 21 #[.agg #[.int .i64 role, .int .i64 at_, .int .i64 nx, .string (strO p.name), .slice a0 p.pre0.length c0, .slice a1 p.pre1.length c1, .slice am p.msgs.length cm, .int .i64 kS, .int .i64 kE, .int .i64 kRS, .int .i64 kRE, .slice bk psks.length dk, .int .i64 sk, .int .i64 sh, .int .i64 sc, .bool sb, .int .u64 sn], .pointer (some ⟨r, 0, none⟩), .int .i64 e, .int .i64 payload] w (fun e' w' => (no = 0 ∧ ∃ B d, e' = .returned (.tuple #[(h'.sh role (pvx a0 c0 a1 c1 am cm p) p kS (.slice bk psks.length dk) psks).val, .slice B msg'.length d, .int .i64 0]) ∧ Own w0 w' (rowT 3 1 (.slice B msg'.length d) msg'.length (intsV msg') :: M.set i (arena r A'))) ∨ (¬ no = 0 ∧ e' = .returned (.tuple #[Sh.zero.val, .slice none 0 0, .int .i64 no]) ∧ Own w0 w' (M.set i (arena r A')))) := by
 obtain ⟨S0, T, hT, hS, hjT, O0, back, back2⟩ := O.focZ hi hj hij
 have hF := hX.frz hS
 refine gent O0 Tryz.func21 ?_
 refine sg2 [.n [], .n [], .p 2, .a (.r 1)] O0 fun b1 b2 w3 O4 => ?_
 refine gi (args := #[.agg #[.int .i64 role, .int .i64 at_, .int .i64 nx, .string (strO p.name), .slice a0 p.pre0.length c0, .slice a1 p.pre1.length c1, .slice am p.msgs.length cm, .int .i64 kS, .int .i64 kE, .int .i64 kRS, .int .i64 kRE, .slice bk psks.length dk, .int .i64 sk, .int .i64 sh, .int .i64 sc, .bool sb, .int .u64 sn]]) Tryz.func23 O4 fun O4i => ?_
 refine sg1 [.n [], .p 2, .a (.r 0), .p 1, .a (.r 0), .p 1, .a (.r 0)] O4i fun b5 w6 O7 => ?_
 obtain ⟨sd8, hm9⟩ : ∃ b, sendsP p role at_ = b := ⟨_, rfl⟩
 refine gU (args := #[.agg #[.string (strO p.name), .slice a0 p.pre0.length c0, .slice a1 p.pre1.length c1, .slice am p.msgs.length cm], .int .i64 role, .int .i64 at_]) (sendsX O7 (j + 4) (atT hjT 4) hF.hasPat hfit hm9) fun w10 O11 => ?_
 rcases Bool.eq_false_or_eq_true (sd8) with h13 | h13
 · obtain ⟨q, m, rfl, hm, hfr, htk⟩ := sendsP_facts (hm9.trans h13)
   have hqq : q < p.msgs.length := (List.getElem?_eq_some_iff.1 hm).1
   obtain ⟨mb, mq, D, d, hA, hSb, hc0, hc1, hD, hDS⟩ := msg_atS (hX.pat _ _ hS).msgs hm
   obtain ⟨hnm, htold0, htold1, hma, hmz, hms⟩ := right_facts hr
   have hmf := hms m (List.mem_of_getElem? hm)
   rw [htk] at hp7
   refine sg0 [.a (bT h13)] O11 fun w14 O15 => ?_
   refine gir [] O15 fun O16 => ?_
   refine sg1 [.p 5, .n []] O16 fun b17 w18 O19 => ?_
   obtain ⟨is20, hm21⟩ : ∃ b, (has A.l e && has A.l payload) = b := ⟨_, rfl⟩
   refine gU (args := #[.pointer (some ⟨r, 0, none⟩), .slice (some ⟨b17, 0, none⟩) 2 2]) (hasE (xs := [e, payload]) (t := 3) O19 4 0 (by kernel_rfl) (by kernel_rfl) (by simp) (by simpa using hm21)) fun w22 O23 => ?_
   rcases Bool.eq_false_or_eq_true (is20) with h25 | h25
   · refine sg0 [.a (bN h25), .p 5, .a (.r 3), .p 1, .a (.r 3), .a (.i _ mb mq p.msgs.length q hA hqq), .p 1] O23 fun w26 O27 => ?_
     refine gx [.cell mb (mq + q * 2 + 1) (.slice D m.t.length d)] O27 ⟨(frz_cell O27 (atT hjT 5) hSb hc1), trivial⟩ fun O28 => ?_
     refine sg0 [.a (.r 0), .p 2] O28 fun w29 O30 => ?_
     refine gl (fun (zz : Nat × Ar × Int × Int × Int × Int × Int × Int × Int × Int × Bool × Int × List Int × Option Addr × Nat) => match zz with | (k, Av, va, vx, vE, vS, vR, vk, vh, vc, vb, vn, msg2, mB, md) => [(1, .pointer (some ⟨r, 0, none⟩)), (2, .int .i64 e), (3, .int .i64 payload), (4, .pointer (some ⟨b1, 0, none⟩)), (8, .pointer (some ⟨b2, 0, none⟩)), (9, .slice none 0 0), (10, .int .i64 0), (11, .slice mB msg2.length md), (35, .slice D m.t.length d), (36, .int .i64 (m.t.length : Int)), (37, .int .i64 (k : Int))]) (fun (zz : Nat × Ar × Int × Int × Int × Int × Int × Int × Int × Int × Bool × Int × List Int × Option Addr × Nat) => match zz with | (k, Av, va, vx, vE, vS, vR, vk, vh, vc, vb, vn, msg2, mB, md) => (.thing (rowT 3 1 (.slice mB msg2.length md) msg2.length (intsV msg2)) :: .blk b17 (.cells #[.int .i64 e, .int .i64 payload] 3) :: .blk b5 (.cells #[.int .i64 role, .int .i64 (q : Int), .int .i64 nx, .string (strO p.name), .slice a0 p.pre0.length c0, .slice a1 p.pre1.length c1, .slice am p.msgs.length cm, .int .i64 kS, .int .i64 kE, .int .i64 kRS, .int .i64 kRE, .slice bk psks.length dk, .int .i64 sk, .int .i64 sh, .int .i64 sc, .bool sb, .int .u64 sn] 42) :: .blk b2 (.cells #[.int .i64 0, .int .i64 0, .int .i64 0, .string ⟨#[]⟩, .slice none 0 0, .slice none 0 0, .slice none 0 0, .int .i64 0, .int .i64 0, .int .i64 0, .int .i64 0, .slice none 0 0, .int .i64 0, .int .i64 0, .int .i64 0, .bool false, .int .u64 0] 42) :: .blk b1 (.cells #[.int .i64 role, .int .i64 va, .int .i64 vx, .string (strO p.name), .slice a0 p.pre0.length c0, .slice a1 p.pre1.length c1, .slice am p.msgs.length cm, .int .i64 kS, .int .i64 vE, .int .i64 vS, .int .i64 vR, .slice bk psks.length dk, .int .i64 vk, .int .i64 vh, .int .i64 vc, .bool vb, .int .u64 vn] 42) :: .thing (arena r Av) :: T)) (fun (zz : Nat × Ar × Int × Int × Int × Int × Int × Int × Int × Int × Bool × Int × List Int × Option Addr × Nat) w => match zz with | (k, Av, va, vx, vE, vS, vR, vk, vh, vc, vb, vn, msg2, mB, md) => k ≤ m.t.length ∧ writeL role kS e psks (modeP p) (m.t.drop k) Av ⟨va, vx, vE, vS, vR, ⟨vk, vh, ⟨vc, vb, vn⟩⟩⟩ msg2 = writeL role kS e psks (modeP p) m.t A ⟨(q : Int), nx, kE, kRS, kRE, ⟨sk, sh, ⟨sc, sb, sn⟩⟩⟩ [] ∧ va = (q : Int) ∧ (0 ≤ vx ∧ vx + cnt7 (m.t.drop k) ≤ psks.length) ∧ U64 vn ∧ msg2.length ≤ k) (fun (zz : Nat × Ar × Int × Int × Int × Int × Int × Int × Int × Int × Bool × Int × List Int × Option Addr × Nat) => match zz with | (k, Av, va, vx, vE, vS, vR, vk, vh, vc, vb, vn, msg2, mB, md) => m.t.length - k) (0, A, (q : Int), nx, kE, kRS, kRE, sk, sh, sc, sb, sn, [], none, 0) (((O30.as 0).nilRow 3 1)) ⟨(Nat.zero_le _), rfl, rfl, (by simpa using hp7), hn, (Nat.le_refl _)⟩ ?_
     rintro M33 ⟨k, Av, va, vx, vE, vS, vR, vk, vh, vc, vb, vn, msg2, mB, md⟩ w31 hM34 O32 ⟨hk, hq, hat, hnx2, hn2, hml⟩
     rcases Bool.eq_false_or_eq_true (decide ((k : Int) < (m.t.length : Int))) with h35 | h35
     · have h35p : ((k : Int) < (m.t.length : Int)) := by simpa only [decide_eq_true_eq, decide_eq_false_iff_not] using h35
       have hk : k + 1 ≤ m.t.length := by have := h35p; omega
       obtain ⟨t, ht⟩ : ∃ t, m.t[k]? = some t := ⟨_, List.getElem?_eq_getElem hk⟩
       obtain ⟨tb, tq, hDt, _⟩ := holdsI_at hD ht
       have htk2 := hmf.2.2.2 t (List.mem_of_getElem? ht)
       have hdrop := drop_at ht
       refine sg0 [.a (bT h35), .p 1, .a (.i _ tb tq m.t.length k hDt hk)] O32 fun w36 O37 => ?_
       refine gx [.cell tb (tq + k * 1) (.int .i64 t)] O37 ⟨(holds_cell (frz_holds O37 (atT hjT 6) hDS hD) hDt ht), trivial⟩ fun O38 => ?_
       refine sg0 [.a (.r 0), .p 3] O38 fun w39 O40 => ?_
       rcases Bool.eq_false_or_eq_true (t == 1) with h41 | h41
       · have h41p : t = 1 := by simpa using h41
         subst h41p
         refine sg0 [.p 5, .s 4 [], .p 3, .a (.r 4), .p 2] O40 fun w42 O43 => ?_
         obtain ⟨A44, ha45, hx46, hE47, hS48, hR49, k50, h51, c52, b53, n54, x55, e56, hm57⟩ : ∃ A44 ha45 hx46 hE47 hS48 hR49 k50 h51 c52 b53 n54 x55 e56, sendC Av role kS (modeP p) ⟨va, vx, e, vS, vR, ⟨vk, vh, ⟨vc, vb, vn⟩⟩⟩ 1 = (A44, ⟨ha45, hx46, hE47, hS48, hR49, ⟨k50, h51, ⟨c52, b53, n54⟩⟩⟩, x55, e56) := ⟨_, _, _, _, _, _, _, _, _, _, _, _, _, rfl⟩
         rcases Decidable.em (e56 = 0) with h58 | h58
         · subst h58
           refine gS (args := #[.agg #[.int .i64 role, .int .i64 va, .int .i64 vx, .string (strO p.name), .slice a0 p.pre0.length c0, .slice a1 p.pre1.length c1, .slice am p.msgs.length cm, .int .i64 kS, .int .i64 e, .int .i64 vS, .int .i64 vR, .slice bk psks.length dk, .int .i64 vk, .int .i64 vh, .int .i64 vc, .bool vb, .int .u64 vn], .pointer (some ⟨r, 0, none⟩), .int .i64 1]) (sendE (psks := psks) (v := .agg #[.int .i64 role, .int .i64 ha45, .int .i64 hx46, .string (strO p.name), .slice a0 p.pre0.length c0, .slice a1 p.pre1.length c1, .slice am p.msgs.length cm, .int .i64 kS, .int .i64 hE47, .int .i64 hS48, .int .i64 hR49, .slice bk psks.length dk, .int .i64 k50, .int .i64 h51, .int .i64 c52, .bool b53, .int .u64 n54]) O43 5 (by kernel_rfl) (j + 6) (atT hjT 6) hF hfit (by omega) (by omega) hn2 hm57 (by rfl)) fun w59 O60 => ?_
           have hk62 := sendC_nk (hn2) hm57
           have hs63 : ha45 = va ∧ hx46 = vx ∧ hE47 = e ∧ hS48 = vS ∧ hR49 = vR := sendC_st hm57
           refine sg1 [.p 4, .s 4 [], .p 4, .n []] O60 fun b64 w65 O66 => ?_
           refine gcatI (.tmp 63) (.tmp 65) 29 O66 3 msg2 mB md 1 b64 0 x55 3 1 (by first | omega | (simp; omega)) fun B67 d68 w69 O70 => ?_
           refine sg0 [.p 4, .a (iW ((k : Int) + 1)), .p 1] O70 fun w71 O72 => ?_
           exact gz _ fun a F => hM34 a _ (k + 1, A44, ha45, hx46, hE47, hS48, hR49, k50, h51, c52, b53, n54, msg2 ++ [x55], B67, d68) F (O72.as 1) ⟨hk, (by rw [← hq, hdrop]; simp [writeL, hm57]), (hs63.1.trans hat), (cnt_next0 hnx2 hdrop (by omega) hs63.2.1), hk62, (by first | omega | (simp; omega))⟩ (show m.t.length - (k + 1) < m.t.length - k by omega)
         · refine gS (args := #[.agg #[.int .i64 role, .int .i64 va, .int .i64 vx, .string (strO p.name), .slice a0 p.pre0.length c0, .slice a1 p.pre1.length c1, .slice am p.msgs.length cm, .int .i64 kS, .int .i64 e, .int .i64 vS, .int .i64 vR, .slice bk psks.length dk, .int .i64 vk, .int .i64 vh, .int .i64 vc, .bool vb, .int .u64 vn], .pointer (some ⟨r, 0, none⟩), .int .i64 1]) (sendE (psks := psks) (v := .agg #[.int .i64 0, .int .i64 0, .int .i64 0, .string ⟨#[]⟩, .slice none 0 0, .slice none 0 0, .slice none 0 0, .int .i64 0, .int .i64 0, .int .i64 0, .int .i64 0, .slice none 0 0, .int .i64 0, .int .i64 0, .int .i64 0, .bool false, .int .u64 0]) O43 5 (by kernel_rfl) (j + 6) (atT hjT 6) hF hfit (by omega) (by omega) hn2 hm57 (Hs.res_no h58)) fun w73 O74 => ?_
           have hk76 := sendC_nk (hn2) hm57
           refine sg1 [.p 4, .s 4 [], .p 4, .n []] O74 fun b77 w78 O79 => ?_
           refine gcatI (.tmp 63) (.tmp 65) 29 O79 3 msg2 mB md 1 b77 0 x55 3 1 (by first | omega | (simp; omega)) fun B80 d81 w82 O83 => ?_
           refine sg0 [.p 2, .a (bT (bne_t h58)), .p 3, .s 4 [], .p 2] O83 fun w84 O85 => ?_
           simp [writeC, Hs.zero, hm9, h13, htk, hm21, h25, ← hq, hdrop, writeL, h58, hm57] at hf
           obtain ⟨rfl, rfl, rfl, rfl⟩ := hf
           exact gret [4] O85 (.inr ⟨by first | decide | assumption, rfl, back 6 O85⟩)
       · have h41p : ¬ t = 1 := by simpa using h41
         refine sg0 [.a (bT h41), .p 2] O40 fun w86 O87 => ?_
         rcases Bool.eq_false_or_eq_true (decide (t > 2)) with h88 | h88
         · have h88p : (2 < t) := by simpa only [decide_eq_true_eq, decide_eq_false_iff_not] using h88
           refine sg0 [.a (bT h88), .p 1, .a (.r 5), .p 2] O87 fun w89 O90 => ?_
           obtain ⟨A91, ha92, hx93, hE94, hS95, hR96, k97, h98, c99, b100, n101, e102, hm103⟩ : ∃ A91 ha92 hx93 hE94 hS95 hR96 k97 h98 c99 b100 n101 e102, mixC Av role kS psks ⟨va, vx, vE, vS, vR, ⟨vk, vh, ⟨vc, vb, vn⟩⟩⟩ t = (A91, ⟨ha92, hx93, hE94, hS95, hR96, ⟨k97, h98, ⟨c99, b100, n101⟩⟩⟩, e102) := ⟨_, _, _, _, _, _, _, _, _, _, _, _, rfl⟩
           rcases Decidable.em (e102 = 0) with h104 | h104
           · subst h104
             refine gS (args := #[.agg #[.int .i64 role, .int .i64 va, .int .i64 vx, .string (strO p.name), .slice a0 p.pre0.length c0, .slice a1 p.pre1.length c1, .slice am p.msgs.length cm, .int .i64 kS, .int .i64 vE, .int .i64 vS, .int .i64 vR, .slice bk psks.length dk, .int .i64 vk, .int .i64 vh, .int .i64 vc, .bool vb, .int .u64 vn], .pointer (some ⟨r, 0, none⟩), .int .i64 t]) (mixE (psks := psks) (v := .agg #[.int .i64 role, .int .i64 ha92, .int .i64 hx93, .string (strO p.name), .slice a0 p.pre0.length c0, .slice a1 p.pre1.length c1, .slice am p.msgs.length cm, .int .i64 kS, .int .i64 hE94, .int .i64 hS95, .int .i64 hR96, .slice bk psks.length dk, .int .i64 k97, .int .i64 h98, .int .i64 c99, .bool b100, .int .u64 n101]) O90 5 (by kernel_rfl) (j + 6) (atT hjT 6) hF hfit (by omega) hrole (by omega) (fun h7 => cnt_at hnx2 hdrop h7) hkl hm103 (by rfl)) fun w105 O106 => ?_
             have hk108 := mixC_nk (hn2) hm103
             have hs109 : ha92 = va ∧ hx93 = vx + (if t = 7 then 1 else 0) ∧ hE94 = vE ∧ hS95 = vS ∧ hR96 = vR := mixC_st hm103
             refine sg0 [.p 3, .s 4 [], .p 4, .a (iW ((k : Int) + 1)), .p 1] O106 fun w110 O111 => ?_
             exact gz _ fun a F => hM34 a _ (k + 1, A91, ha92, hx93, hE94, hS95, hR96, k97, h98, c99, b100, n101, msg2, mB, md) F (O111.as 0) ⟨hk, (by rw [← hq, hdrop]; simp [writeL, h41p, h88p, hm103]), (hs109.1.trans hat), (cnt_next hnx2 hdrop hs109.2.1), hk108, (by first | omega | (simp; omega))⟩ (show m.t.length - (k + 1) < m.t.length - k by omega)
           · refine gS (args := #[.agg #[.int .i64 role, .int .i64 va, .int .i64 vx, .string (strO p.name), .slice a0 p.pre0.length c0, .slice a1 p.pre1.length c1, .slice am p.msgs.length cm, .int .i64 kS, .int .i64 vE, .int .i64 vS, .int .i64 vR, .slice bk psks.length dk, .int .i64 vk, .int .i64 vh, .int .i64 vc, .bool vb, .int .u64 vn], .pointer (some ⟨r, 0, none⟩), .int .i64 t]) (mixE (psks := psks) (v := .agg #[.int .i64 0, .int .i64 0, .int .i64 0, .string ⟨#[]⟩, .slice none 0 0, .slice none 0 0, .slice none 0 0, .int .i64 0, .int .i64 0, .int .i64 0, .int .i64 0, .slice none 0 0, .int .i64 0, .int .i64 0, .int .i64 0, .bool false, .int .u64 0]) O90 5 (by kernel_rfl) (j + 6) (atT hjT 6) hF hfit (by omega) hrole (by omega) (fun h7 => cnt_at hnx2 hdrop h7) hkl hm103 (Hs.res_no h104)) fun w112 O113 => ?_
             have hk115 := mixC_nk (hn2) hm103
             refine sg0 [.p 3, .s 4 [], .p 2, .a (bT (bne_t h104)), .p 3, .s 3 [], .p 2] O113 fun w116 O117 => ?_
             simp [writeC, Hs.zero, hm9, h13, htk, hm21, h25, ← hq, hdrop, writeL, h41p, h88p, h104, hm103] at hf
             obtain ⟨rfl, rfl, rfl, rfl⟩ := hf
             exact gret [3] O117 (.inr ⟨by first | decide | assumption, rfl, back 5 O117⟩)
         · have h88p : ¬ (2 < t) := by simpa only [decide_eq_true_eq, decide_eq_false_iff_not] using h88
           refine sg0 [.a (bT h88), .p 1, .a (.r 5), .p 2] O87 fun w118 O119 => ?_
           obtain ⟨A120, ha121, hx122, hE123, hS124, hR125, k126, h127, c128, b129, n130, x131, e132, hm133⟩ : ∃ A120 ha121 hx122 hE123 hS124 hR125 k126 h127 c128 b129 n130 x131 e132, sendC Av role kS (modeP p) ⟨va, vx, vE, vS, vR, ⟨vk, vh, ⟨vc, vb, vn⟩⟩⟩ t = (A120, ⟨ha121, hx122, hE123, hS124, hR125, ⟨k126, h127, ⟨c128, b129, n130⟩⟩⟩, x131, e132) := ⟨_, _, _, _, _, _, _, _, _, _, _, _, _, rfl⟩
           rcases Decidable.em (e132 = 0) with h134 | h134
           · subst h134
             refine gS (args := #[.agg #[.int .i64 role, .int .i64 va, .int .i64 vx, .string (strO p.name), .slice a0 p.pre0.length c0, .slice a1 p.pre1.length c1, .slice am p.msgs.length cm, .int .i64 kS, .int .i64 vE, .int .i64 vS, .int .i64 vR, .slice bk psks.length dk, .int .i64 vk, .int .i64 vh, .int .i64 vc, .bool vb, .int .u64 vn], .pointer (some ⟨r, 0, none⟩), .int .i64 t]) (sendE (psks := psks) (v := .agg #[.int .i64 role, .int .i64 ha121, .int .i64 hx122, .string (strO p.name), .slice a0 p.pre0.length c0, .slice a1 p.pre1.length c1, .slice am p.msgs.length cm, .int .i64 kS, .int .i64 hE123, .int .i64 hS124, .int .i64 hR125, .slice bk psks.length dk, .int .i64 k126, .int .i64 h127, .int .i64 c128, .bool b129, .int .u64 n130]) O119 5 (by kernel_rfl) (j + 6) (atT hjT 6) hF hfit (by omega) (by omega) hn2 hm133 (by rfl)) fun w135 O136 => ?_
             have hk138 := sendC_nk (hn2) hm133
             have hs139 : ha121 = va ∧ hx122 = vx ∧ hE123 = vE ∧ hS124 = vS ∧ hR125 = vR := sendC_st hm133
             refine sg1 [.p 4, .s 4 [], .p 4, .n []] O136 fun b140 w141 O142 => ?_
             refine gcatI (.tmp 63) (.tmp 65) 29 O142 3 msg2 mB md 1 b140 0 x131 3 1 (by first | omega | (simp; omega)) fun B143 d144 w145 O146 => ?_
             refine sg0 [.p 4, .a (iW ((k : Int) + 1)), .p 1] O146 fun w147 O148 => ?_
             exact gz _ fun a F => hM34 a _ (k + 1, A120, ha121, hx122, hE123, hS124, hR125, k126, h127, c128, b129, n130, msg2 ++ [x131], B143, d144) F (O148.as 1) ⟨hk, (by rw [← hq, hdrop]; simp [writeL, h41p, h88p, hm133]), (hs139.1.trans hat), (cnt_next0 hnx2 hdrop (by omega) hs139.2.1), hk138, (by first | omega | (simp; omega))⟩ (show m.t.length - (k + 1) < m.t.length - k by omega)
           · refine gS (args := #[.agg #[.int .i64 role, .int .i64 va, .int .i64 vx, .string (strO p.name), .slice a0 p.pre0.length c0, .slice a1 p.pre1.length c1, .slice am p.msgs.length cm, .int .i64 kS, .int .i64 vE, .int .i64 vS, .int .i64 vR, .slice bk psks.length dk, .int .i64 vk, .int .i64 vh, .int .i64 vc, .bool vb, .int .u64 vn], .pointer (some ⟨r, 0, none⟩), .int .i64 t]) (sendE (psks := psks) (v := .agg #[.int .i64 0, .int .i64 0, .int .i64 0, .string ⟨#[]⟩, .slice none 0 0, .slice none 0 0, .slice none 0 0, .int .i64 0, .int .i64 0, .int .i64 0, .int .i64 0, .slice none 0 0, .int .i64 0, .int .i64 0, .int .i64 0, .bool false, .int .u64 0]) O119 5 (by kernel_rfl) (j + 6) (atT hjT 6) hF hfit (by omega) (by omega) hn2 hm133 (Hs.res_no h134)) fun w149 O150 => ?_
             have hk152 := sendC_nk (hn2) hm133
             refine sg1 [.p 4, .s 4 [], .p 4, .n []] O150 fun b153 w154 O155 => ?_
             refine gcatI (.tmp 63) (.tmp 65) 29 O155 3 msg2 mB md 1 b153 0 x131 3 1 (by first | omega | (simp; omega)) fun B156 d157 w158 O159 => ?_
             refine sg0 [.p 2, .a (bT (bne_t h134)), .p 3, .s 4 [], .p 2] O159 fun w160 O161 => ?_
             simp [writeC, Hs.zero, hm9, h13, htk, hm21, h25, ← hq, hdrop, writeL, h41p, h88p, h134, hm133] at hf
             obtain ⟨rfl, rfl, rfl, rfl⟩ := hf
             exact gret [4] O161 (.inr ⟨by first | decide | assumption, rfl, back 6 O161⟩)
     · have h35p : ¬ ((k : Int) < (m.t.length : Int)) := by simpa only [decide_eq_true_eq, decide_eq_false_iff_not] using h35
       have hq2 : writeL role kS e psks (modeP p) m.t A ⟨(q : Int), nx, kE, kRS, kRE, ⟨sk, sh, ⟨sc, sb, sn⟩⟩⟩ [] = (Av, ⟨va, vx, vE, vS, vR, ⟨vk, vh, ⟨vc, vb, vn⟩⟩⟩, msg2, 0) := by rw [← hq, List.drop_eq_nil_of_le (by have := h35p; omega)]; rfl
       refine sg0 [.a (bT h35), .p 1, .a (.r 4), .p 2] O32 fun w162 O163 => ?_
       obtain ⟨A164, ha165, hx166, hE167, hS168, hR169, k170, h171, c172, b173, n174, x175, e176, hm177⟩ : ∃ A164 ha165 hx166 hE167 hS168 hR169 k170 h171 c172 b173 n174 x175 e176, sealedC Av ⟨va, vx, vE, vS, vR, ⟨vk, vh, ⟨vc, vb, vn⟩⟩⟩ payload = (A164, ⟨ha165, hx166, hE167, hS168, hR169, ⟨k170, h171, ⟨c172, b173, n174⟩⟩⟩, x175, e176) := ⟨_, _, _, _, _, _, _, _, _, _, _, _, _, rfl⟩
       rcases Decidable.em (e176 = 0) with h178 | h178
       · subst h178
         refine gS (args := #[.agg #[.int .i64 role, .int .i64 va, .int .i64 vx, .string (strO p.name), .slice a0 p.pre0.length c0, .slice a1 p.pre1.length c1, .slice am p.msgs.length cm, .int .i64 kS, .int .i64 vE, .int .i64 vS, .int .i64 vR, .slice bk psks.length dk, .int .i64 vk, .int .i64 vh, .int .i64 vc, .bool vb, .int .u64 vn], .pointer (some ⟨r, 0, none⟩), .int .i64 payload]) (sealedE (psks := psks) (v := .agg #[.int .i64 role, .int .i64 ha165, .int .i64 hx166, .string (strO p.name), .slice a0 p.pre0.length c0, .slice a1 p.pre1.length c1, .slice am p.msgs.length cm, .int .i64 kS, .int .i64 hE167, .int .i64 hS168, .int .i64 hR169, .slice bk psks.length dk, .int .i64 k170, .int .i64 h171, .int .i64 c172, .bool b173, .int .u64 n174]) O163 5 (by kernel_rfl) hn2 hm177 (by rfl)) fun w179 O180 => ?_
         have hk182 := sealedC_nk (hn2) hm177
         have hs183 : ha165 = va ∧ hx166 = vx ∧ hE167 = vE ∧ hS168 = vS ∧ hR169 = vR := sealedC_st hm177
         refine sg1 [.p 4, .s 4 [], .p 6, .a (.r 4), .a (iW (ha165 + 1)), .p 1, .s 4 [], .d [4], .q 0 (.r 0), .qs [1, 2], .o 3, .n [5], .o 4] O180 fun b184 w185 O186 => ?_
         refine gcatI (js := [5]) (.tmp 89) (.tmp 91) 29 O186 3 msg2 mB md 1 b184 0 x175 3 1 (by first | omega | (simp; omega)) fun B187 d188 w189 O190 => ?_
         refine sg0 [.o 5, .s 4 [5], .qs [6, 7], .z] O190 fun w191 O192 => ?_
         simp [writeC, hm9, h13, htk, hm21, h25, hq2, hm177] at hf
         obtain ⟨rfl, rfl, rfl, rfl⟩ := hf
         exact gret [4] O192 (.inl ⟨rfl, B187, d188, rfl, back2 1 4 O192⟩)
       · refine gS (args := #[.agg #[.int .i64 role, .int .i64 va, .int .i64 vx, .string (strO p.name), .slice a0 p.pre0.length c0, .slice a1 p.pre1.length c1, .slice am p.msgs.length cm, .int .i64 kS, .int .i64 vE, .int .i64 vS, .int .i64 vR, .slice bk psks.length dk, .int .i64 vk, .int .i64 vh, .int .i64 vc, .bool vb, .int .u64 vn], .pointer (some ⟨r, 0, none⟩), .int .i64 payload]) (sealedE (psks := psks) (v := .agg #[.int .i64 0, .int .i64 0, .int .i64 0, .string ⟨#[]⟩, .slice none 0 0, .slice none 0 0, .slice none 0 0, .int .i64 0, .int .i64 0, .int .i64 0, .int .i64 0, .slice none 0 0, .int .i64 0, .int .i64 0, .int .i64 0, .bool false, .int .u64 0]) O163 5 (by kernel_rfl) hn2 hm177 (Hs.res_no h178)) fun w193 O194 => ?_
         have hk196 := sealedC_nk (hn2) hm177
         obtain rfl : x175 = 0 := sealedC_zero hm177 h178
         refine sg0 [.p 4, .s 4 [], .p 3, .a (bT (bne_t h178)), .p 3, .s 3 [], .p 2] O194 fun w197 O198 => ?_
         simp [writeC, Hs.zero, hm9, h13, htk, hm21, h25, hq2, h178, hm177] at hf
         obtain ⟨rfl, rfl, rfl, rfl⟩ := hf
         exact gret [3] O198 (.inr ⟨by first | decide | assumption, rfl, back 5 O198⟩)
   · refine sg0 [.a (bN h25), .p 2, .s 2 [], .p 2] O23 fun w199 O200 => ?_
     simp [writeC, Hs.zero, hm9, h13, hm21, h25] at hf
     obtain ⟨rfl, rfl, rfl, rfl⟩ := hf
     exact gret [2] O200 (.inr ⟨by first | decide | assumption, rfl, back 4 O200⟩)
 · refine sg0 [.a (bT h13)] O11 fun w201 O202 => ?_
   refine gir [] O202 fun O203 => ?_
   refine sg0 [.p 3, .s 1 [], .p 2] O203 fun w204 O205 => ?_
   simp [writeC, Hs.zero, hm9, h13] at hf
   obtain ⟨rfl, rfl, rfl, rfl⟩ := hf
   exact gret [1] O205 (.inr ⟨by first | decide | assumption, rfl, back 3 O205⟩)
end Go.Proofs.YtikimmgileffgaaGreatDoor
