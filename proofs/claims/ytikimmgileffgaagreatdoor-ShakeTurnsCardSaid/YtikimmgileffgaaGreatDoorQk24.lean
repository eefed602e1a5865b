/- Packed by packn.py: ShkB. -/
import Derived.Test.YtikimmgileffgaaGreatDoorQk23
namespace Go.Proofs.YtikimmgileffgaaGreatDoor
open Go.RowKit
theorem pairX {w : World} {role at_ nx kS kE kRS kRE sk sh sc sn : Int} {sb : Bool} {a0 a1 am bk : Option Addr} {c0 c1 cm dk : Nat} {p : Pat} {psks : List Int} {t : Int} (hr : role = 0 ∨ role = 1) (ht : t = 3 ∨ t = 4 ∨ t = 5 ∨ t = 6) :
    Calls Tryz.prog 131 #[.agg #[.int .i64 role, .int .i64 at_, .int .i64 nx, .string (strO p.name), .slice a0 p.pre0.length c0, .slice a1 p.pre1.length c1, .slice am p.msgs.length cm, .int .i64 kS, .int .i64 kE, .int .i64 kRS, .int .i64 kRE, .slice bk psks.length dk, .int .i64 sk, .int .i64 sh, .int .i64 sc, .bool sb, .int .u64 sn], .int .i64 t] w fun e' w' => e' = .returned (.tuple #[.int .i64 (pOwn role kS kE t), .int .i64 (pOther role kRS kRE t)]) ∧ Below w.heap.size w w' := by
 rcases hr with rfl | rfl <;> rcases ht with rfl | rfl | rfl | rfl
 · exact pairE03
 · exact pairE04
 · exact pairE05
 · exact pairE06
 · exact pairE13
 · exact pairE14
 · exact pairE15
 · exact pairE16
set_option warningAsError false in
set_option maxRecDepth 100000 in
set_option maxHeartbeats 4000000 in
theorem mixE {w0 w : World} {M : List Thing} {r : Nat} {A A' : Ar} {X : Thing} {role at_ nx kS kE kRS kRE sk sh sc sn : Int} {sb : Bool} {a0 a1 am bk : Option Addr} {c0 c1 cm dk : Nat} {p : Pat} {psks : List Int} {t : Int} {h' : Hs} {e : Int} {v : Value} (O : Own w0 w M) (i : Nat) (hi : M[i]? = some (arena r A)) (j : Nat) (hj : M[j]? = some X) (hX : HasShk X (pvx a0 c0 a1 c1 am cm p) p bk dk psks) (_hfit : PatFits p) (hij : j ≠ i) (hrole : role = 0 ∨ role = 1) (ht : 3 ≤ t ∧ t ≤ 7) (hnx : t = 7 → 0 ≤ nx ∧ nx < psks.length) (hkl : psks.length * 8 ≤ 140737488355328) (hf : mixC A role kS psks ⟨at_, nx, kE, kRS, kRE, ⟨sk, sh, ⟨sc, sb, sn⟩⟩⟩ t = (A', h', e)) (hv : h'.res e role (pvx a0 c0 a1 c1 am cm p) p kS (.slice bk psks.length dk) psks = v) :
    Calls Tryz.prog 73 #[.agg #[.int .i64 role, .int .i64 at_, .int .i64 nx, .string (strO p.name), .slice a0 p.pre0.length c0, .slice a1 p.pre1.length c1, .slice am p.msgs.length cm, .int .i64 kS, .int .i64 kE, .int .i64 kRS, .int .i64 kRE, .slice bk psks.length dk, .int .i64 sk, .int .i64 sh, .int .i64 sc, .bool sb, .int .u64 sn], .pointer (some ⟨r, 0, none⟩), .int .i64 t] w fun e' w' => e' = .returned (.tuple #[v, .int .i64 e]) ∧ Own w0 w' (M.set i (arena r A')) := by
 obtain ⟨T, hT, O0, back⟩ := O.focD hi
 have hjT := hT j X hij hj
 refine gent O0 Tryz.func73 ?_
 refine sg3 [.n [], .n [], .p 1, .n [], .p 2] O0 fun b1 b2 b3 w4 O5 => ?_
 rcases Bool.eq_false_or_eq_true (t == 7) with h6 | h6
 · have h6p : t = 7 := by simpa using h6
   obtain ⟨hx0, hx1⟩ := hnx h6p
   obtain ⟨k, rfl⟩ : ∃ k : Nat, nx = (k : Int) := ⟨nx.toNat, by omega⟩
   have hk : k < psks.length := by omega
   obtain ⟨z, hz⟩ : ∃ z, psks[k]? = some z := ⟨_, List.getElem?_eq_getElem hk⟩
   have hzz : psks[k] = z := (List.getElem?_eq_some_iff.1 hz).2
   obtain ⟨pb, pq, hbk, _⟩ := holdsI_at (O5.psks (atT hjT 4) hX) hz
   refine sg0 [.a (bT h6), .p 1, .d [2], .qs [0], .q 1 (.r 0), .qs [2, 3, 4], .q 5 (.r 0), .qs [6], .q 7 (.r 0), .q 8 (.i _ pb pq psks.length k hbk hk), .o 9] O5 fun w7 O8 => ?_
   refine gx [.cell pb (pq + k * 1) (.int .i64 z)] O8 ⟨(holds_cell (O8.psks (atT hjT 4) hX) hbk hz), trivial⟩ fun O9 => ?_
   refine sg0 [.a (.r 0), .o 10] O9 fun w10 O11 => ?_
   obtain ⟨A12, k13, h14, c15, b16, n17, e18, hm19⟩ : ∃ A12 k13 h14 c15 b16 n17 e18, mixBothS A ⟨sk, sh, ⟨sc, sb, sn⟩⟩ z = (A12, ⟨k13, h14, ⟨c15, b16, n17⟩⟩, e18) := ⟨_, _, _, _, _, _, _, rfl⟩
   refine gS (js := [2]) (mixBothE (r := r) O11 3 (by kernel_rfl) hm19) fun w20 O21 => ?_
   refine sg0 [.qs [11, 12, 13], .o 14, .s 0 [2], .qs [15], .z, .p 1, .a (.r 2), .a (iW ((k : Int) + 1)), .p 1, .s 2 [], .p 1] O21 fun w23 O24 => ?_
   rcases Bool.eq_false_or_eq_true (e18 != 0) with h25 | h25
   · have h25p : ¬ e18 = 0 := by simpa using h25
     refine sg0 [.a (bT h25), .p 3, .s 1 [], .p 1] O24 fun w26 O27 => ?_
     simp [mixC, Sy.zero, Ci.zero, Hs.zero, h6p, hzz, hk, hm19, h25p] at hf
     obtain ⟨rfl, rfl, rfl⟩ := hf
     first | rw [Hs.res_ok] at hv | rw [Hs.res_no (by first | assumption | decide)] at hv
     subst hv
     exact gret [1] O27 (⟨rfl, back 3 O27⟩)
   · have h25p : e18 = 0 := by simpa using h25
     refine sg0 [.a (bT h25), .p 1, .a (.r 0), .p 1, .s 2 [], .a (.r 2), .s 1 [], .p 1] O24 fun w28 O29 => ?_
     simp [mixC, h6p, hzz, hk, hm19, h25p] at hf
     obtain ⟨rfl, rfl, rfl⟩ := hf
     first | rw [Hs.res_ok] at hv | rw [Hs.res_no (by first | assumption | decide)] at hv
     subst hv
     exact gret [1] O29 (⟨rfl, back 3 O29⟩)
 · have h6p : ¬ t = 7 := by simpa using h6
   refine sg0 [.a (bT h6), .p 3, .a (.r 2), .p 1] O5 fun w30 O31 => ?_
   refine gB O31 (args := #[.agg #[.int .i64 role, .int .i64 at_, .int .i64 nx, .string (strO p.name), .slice a0 p.pre0.length c0, .slice a1 p.pre1.length c1, .slice am p.msgs.length cm, .int .i64 kS, .int .i64 kE, .int .i64 kRS, .int .i64 kRE, .slice bk psks.length dk, .int .i64 sk, .int .i64 sh, .int .i64 sc, .bool sb, .int .u64 sn], .int .i64 t]) (pairX (psks := psks) (p := p) hrole (by omega)) fun w32 O33 => ?_
   refine sg0 [.p 2] O33 fun w35 O36 => ?_
   obtain ⟨A37, z38, e39, hm40⟩ : ∃ A37 z38 e39, share A (pOwn role kS kE t) (pOther role kRS kRE t) = (A37, z38, e39) := ⟨_, _, _, rfl⟩
   refine gS (shareE (r := r) O36 3 (by kernel_rfl) hm40) fun w41 O42 => ?_
   refine sg0 [.p 6] O42 fun w44 O45 => ?_
   rcases Bool.eq_false_or_eq_true (e39 == 0) with h46 | h46
   · have h46p : e39 = 0 := by simpa using h46
     refine sg0 [.a (bT h46), .p 2, .a (.r 2), .p 2] O45 fun w47 O48 => ?_
     obtain ⟨A49, k50, h51, c52, b53, n54, e55, hm56⟩ : ∃ A49 k50 h51 c52 b53 n54 e55, mixKeyS A37 ⟨sk, sh, ⟨sc, sb, sn⟩⟩ z38 = (A49, ⟨k50, h51, ⟨c52, b53, n54⟩⟩, e55) := ⟨_, _, _, _, _, _, _, rfl⟩
     refine gS (mixKeyE (r := r) O48 3 (by kernel_rfl) hm56) fun w57 O58 => ?_
     refine sg0 [.p 3, .s 0 [], .p 2] O58 fun w60 O61 => ?_
     rcases Bool.eq_false_or_eq_true (e55 != 0) with h62 | h62
     · have h62p : ¬ e55 = 0 := by simpa using h62
       refine sg0 [.a (bT h62), .p 3, .s 1 [], .p 1] O61 fun w63 O64 => ?_
       simp [mixC, Sy.zero, Ci.zero, Hs.zero, h6p, hm40, h46p, hm56, h62p] at hf
       obtain ⟨rfl, rfl, rfl⟩ := hf
       first | rw [Hs.res_ok] at hv | rw [Hs.res_no (by first | assumption | decide)] at hv
       subst hv
       exact gret [1] O64 (⟨rfl, back 3 O64⟩)
     · have h62p : e55 = 0 := by simpa using h62
       refine sg0 [.a (bT h62), .p 1, .a (.r 0), .p 1, .s 2 [], .a (.r 2), .s 1 [], .p 1] O61 fun w65 O66 => ?_
       simp [mixC, h6p, hm40, h46p, hm56, h62p] at hf
       obtain ⟨rfl, rfl, rfl⟩ := hf
       first | rw [Hs.res_ok] at hv | rw [Hs.res_no (by first | assumption | decide)] at hv
       subst hv
       exact gret [1] O66 (⟨rfl, back 3 O66⟩)
   · have h46p : ¬ e39 = 0 := by simpa using h46
     refine sg0 [.a (bT h46), .p 2, .a (bT (bne_t h46p)), .p 3, .s 1 [], .p 1] O45 fun w67 O68 => ?_
     simp [mixC, Sy.zero, Ci.zero, Hs.zero, h6p, hm40, h46p] at hf
     obtain ⟨rfl, rfl, rfl⟩ := hf
     first | rw [Hs.res_ok] at hv | rw [Hs.res_no (by first | assumption | decide)] at hv
     subst hv
     exact gret [1] O68 (⟨rfl, back 3 O68⟩)
set_option warningAsError false in
set_option maxRecDepth 100000 in
set_option maxHeartbeats 4000000 in
theorem sealedE {w0 w : World} {M : List Thing} {r : Nat} {A A' : Ar} {role at_ nx kS kE kRS kRE sk sh sc sn : Int} {sb : Bool} {a0 a1 am bk : Option Addr} {c0 c1 cm dk : Nat} {p : Pat} {psks : List Int} {t y : Int} {h' : Hs} {e : Int} {v : Value} (O : Own w0 w M) (i : Nat) (hi : M[i]? = some (arena r A)) (hn : U64 sn) (hf : sealedC A ⟨at_, nx, kE, kRS, kRE, ⟨sk, sh, ⟨sc, sb, sn⟩⟩⟩ t = (A', h', y, e)) (hv : h'.res e role (pvx a0 c0 a1 c1 am cm p) p kS (.slice bk psks.length dk) psks = v) :
    Calls Tryz.prog 75 #[.agg #[.int .i64 role, .int .i64 at_, .int .i64 nx, .string (strO p.name), .slice a0 p.pre0.length c0, .slice a1 p.pre1.length c1, .slice am p.msgs.length cm, .int .i64 kS, .int .i64 kE, .int .i64 kRS, .int .i64 kRE, .slice bk psks.length dk, .int .i64 sk, .int .i64 sh, .int .i64 sc, .bool sb, .int .u64 sn], .pointer (some ⟨r, 0, none⟩), .int .i64 t] w fun e' w' => e' = .returned (.tuple #[v, .int .i64 y, .int .i64 e]) ∧ Own w0 w' (M.set i (arena r A')) := by
 obtain ⟨T, hT, O0, back⟩ := O.focD hi
 refine gent O0 Tryz.func75 ?_
 refine sg2 [.n [], .n [], .p 3, .a (.r 1), .p 2] O0 fun b1 b2 w3 O4 => ?_
 obtain ⟨A5, k6, h7, c8, b9, n10, x11, e12, hm13⟩ : ∃ A5 k6 h7 c8 b9 n10 x11 e12, sealS A ⟨sk, sh, ⟨sc, sb, sn⟩⟩ t = (A5, ⟨k6, h7, ⟨c8, b9, n10⟩⟩, x11, e12) := ⟨_, _, _, _, _, _, _, _, rfl⟩
 refine gS (sealSE (r := r) O4 2 (by kernel_rfl) hn hm13) fun w14 O15 => ?_
 refine sg1 [.p 4, .n [], .s 0 [], .p 3] O15 fun b17 w18 O19 => ?_
 rcases Bool.eq_false_or_eq_true (e12 != 0) with h20 | h20
 · have h20p : ¬ e12 = 0 := by simpa using h20
   refine sg0 [.a (bT h20), .p 3, .s 1 [], .p 2] O19 fun w21 O22 => ?_
   simp [sealedC, Sy.zero, Ci.zero, Hs.zero, hm13, h20p] at hf
   obtain ⟨rfl, rfl, rfl, rfl⟩ := hf
   first | rw [Hs.res_ok] at hv | rw [Hs.res_no (by first | assumption | decide)] at hv
   subst hv
   exact gret [1] O22 (⟨rfl, back 3 O22⟩)
 · have h20p : e12 = 0 := by simpa using h20
   refine sg0 [.a (bT h20), .p 1, .a (.r 0), .p 1, .s 2 [], .a (.r 2), .p 1, .s 1 [], .p 2] O19 fun w23 O24 => ?_
   simp [sealedC, hm13, h20p] at hf
   obtain ⟨rfl, rfl, rfl, rfl⟩ := hf
   first | rw [Hs.res_ok] at hv | rw [Hs.res_no (by first | assumption | decide)] at hv
   subst hv
   exact gret [1] O24 (⟨rfl, back 3 O24⟩)
set_option warningAsError false in
set_option maxRecDepth 100000 in
set_option maxHeartbeats 4000000 in
theorem openedE {w0 w : World} {M : List Thing} {r : Nat} {A A' : Ar} {role at_ nx kS kE kRS kRE sk sh sc sn : Int} {sb : Bool} {a0 a1 am bk : Option Addr} {c0 c1 cm dk : Nat} {p : Pat} {psks : List Int} {t y : Int} {h' : Hs} {e : Int} {v : Value} (O : Own w0 w M) (i : Nat) (hi : M[i]? = some (arena r A)) (hn : U64 sn) (hf : openedC A ⟨at_, nx, kE, kRS, kRE, ⟨sk, sh, ⟨sc, sb, sn⟩⟩⟩ t = (A', h', y, e)) (hv : h'.res e role (pvx a0 c0 a1 c1 am cm p) p kS (.slice bk psks.length dk) psks = v) :
    Calls Tryz.prog 78 #[.agg #[.int .i64 role, .int .i64 at_, .int .i64 nx, .string (strO p.name), .slice a0 p.pre0.length c0, .slice a1 p.pre1.length c1, .slice am p.msgs.length cm, .int .i64 kS, .int .i64 kE, .int .i64 kRS, .int .i64 kRE, .slice bk psks.length dk, .int .i64 sk, .int .i64 sh, .int .i64 sc, .bool sb, .int .u64 sn], .pointer (some ⟨r, 0, none⟩), .int .i64 t] w fun e' w' => e' = .returned (.tuple #[v, .int .i64 y, .int .i64 e]) ∧ Own w0 w' (M.set i (arena r A')) := by
 obtain ⟨T, hT, O0, back⟩ := O.focD hi
 refine gent O0 Tryz.func78 ?_
 refine sg2 [.n [], .n [], .p 3, .a (.r 1), .p 2] O0 fun b1 b2 w3 O4 => ?_
 obtain ⟨A5, k6, h7, c8, b9, n10, x11, e12, hm13⟩ : ∃ A5 k6 h7 c8 b9 n10 x11 e12, openS A ⟨sk, sh, ⟨sc, sb, sn⟩⟩ t = (A5, ⟨k6, h7, ⟨c8, b9, n10⟩⟩, x11, e12) := ⟨_, _, _, _, _, _, _, _, rfl⟩
 refine gS (openSE (r := r) O4 2 (by kernel_rfl) hn hm13) fun w14 O15 => ?_
 refine sg1 [.p 4, .n [], .s 0 [], .p 3] O15 fun b17 w18 O19 => ?_
 rcases Bool.eq_false_or_eq_true (e12 != 0) with h20 | h20
 · have h20p : ¬ e12 = 0 := by simpa using h20
   refine sg0 [.a (bT h20), .p 3, .s 1 [], .p 2] O19 fun w21 O22 => ?_
   simp [openedC, Sy.zero, Ci.zero, Hs.zero, hm13, h20p] at hf
   obtain ⟨rfl, rfl, rfl, rfl⟩ := hf
   first | rw [Hs.res_ok] at hv | rw [Hs.res_no (by first | assumption | decide)] at hv
   subst hv
   exact gret [1] O22 (⟨rfl, back 3 O22⟩)
 · have h20p : e12 = 0 := by simpa using h20
   refine sg0 [.a (bT h20), .p 1, .a (.r 0), .p 1, .s 2 [], .a (.r 2), .p 1, .s 1 [], .p 2] O19 fun w23 O24 => ?_
   simp [openedC, hm13, h20p] at hf
   obtain ⟨rfl, rfl, rfl, rfl⟩ := hf
   first | rw [Hs.res_ok] at hv | rw [Hs.res_no (by first | assumption | decide)] at hv
   subst hv
   exact gret [1] O24 (⟨rfl, back 3 O24⟩)
set_option warningAsError false in
set_option maxRecDepth 100000 in
set_option maxHeartbeats 4000000 in
theorem sendE {w0 w : World} {M : List Thing} {r : Nat} {A A' : Ar} {X : Thing} {role at_ nx kS kE kRS kRE sk sh sc sn : Int} {sb : Bool} {a0 a1 am bk : Option Addr} {c0 c1 cm dk : Nat} {p : Pat} {psks : List Int} {t y : Int} {h' : Hs} {e : Int} {v : Value} (O : Own w0 w M) (i : Nat) (hi : M[i]? = some (arena r A)) (j : Nat) (hj : M[j]? = some X) (hX : HasShk X (pvx a0 c0 a1 c1 am cm p) p bk dk psks) (hfit : PatFits p) (hij : j ≠ i) (ht : t = 1 ∨ t = 2) (hn : U64 sn) (hf : sendC A role kS (modeP p) ⟨at_, nx, kE, kRS, kRE, ⟨sk, sh, ⟨sc, sb, sn⟩⟩⟩ t = (A', h', y, e)) (hv : h'.res e role (pvx a0 c0 a1 c1 am cm p) p kS (.slice bk psks.length dk) psks = v) :
    Calls Tryz.prog 74 #[.agg #[.int .i64 role, .int .i64 at_, .int .i64 nx, .string (strO p.name), .slice a0 p.pre0.length c0, .slice a1 p.pre1.length c1, .slice am p.msgs.length cm, .int .i64 kS, .int .i64 kE, .int .i64 kRS, .int .i64 kRE, .slice bk psks.length dk, .int .i64 sk, .int .i64 sh, .int .i64 sc, .bool sb, .int .u64 sn], .pointer (some ⟨r, 0, none⟩), .int .i64 t] w fun e' w' => e' = .returned (.tuple #[v, .int .i64 y, .int .i64 e]) ∧ Own w0 w' (M.set i (arena r A')) := by
 obtain ⟨T, hT, O0, back⟩ := O.focD hi
 have hjT := hT j X hij hj
 refine gent O0 Tryz.func74 ?_
 refine sg2 [.n [], .n [], .p 3] O0 fun b1 b2 w3 O4 => ?_
 rcases Bool.eq_false_or_eq_true (t == 1) with h5 | h5
 · have h5p : t = 1 := by simpa using h5
   refine sg0 [.a (bT h5), .p 3, .a (.r 1)] O4 fun w6 O7 => ?_
   rcases Bool.eq_false_or_eq_true (kE == 0) with h8 | h8
   · have h8p : kE = 0 := by simpa using h8
     refine sg0 [.a (bT h8), .p 3, .s 0 [], .p 2] O7 fun w9 O10 => ?_
     simp [sendC, Sy.zero, Ci.zero, Hs.zero, h5p, h8p] at hf
     obtain ⟨rfl, rfl, rfl, rfl⟩ := hf
     first | rw [Hs.res_ok] at hv | rw [Hs.res_no (by first | assumption | decide)] at hv
     subst hv
     exact gret [] O10 (⟨rfl, back 2 O10⟩)
   · have h8p : ¬ kE = 0 := by simpa using h8
     refine sg0 [.a (bT h8), .p 2, .a (.r 1), .p 2, .a (.r 1), .p 1] O7 fun w11 O12 => ?_
     obtain ⟨A13, y14, e15, hm16⟩ : ∃ A13 y14 e15, publicC A role kS kE kRS kRE role t = (A13, y14, e15) := ⟨_, _, _, rfl⟩
     refine gS (args := #[.agg #[.int .i64 role, .int .i64 at_, .int .i64 nx, .string (strO p.name), .slice a0 p.pre0.length c0, .slice a1 p.pre1.length c1, .slice am p.msgs.length cm, .int .i64 kS, .int .i64 kE, .int .i64 kRS, .int .i64 kRE, .slice bk psks.length dk, .int .i64 sk, .int .i64 sh, .int .i64 sc, .bool sb, .int .u64 sn], .pointer (some ⟨r, 0, none⟩), .int .i64 role, .int .i64 t]) (publicE (r := r) O12 2 (by kernel_rfl) hm16) fun w17 O18 => ?_
     refine sg0 [.p 6] O18 fun w20 O21 => ?_
     rcases Bool.eq_false_or_eq_true (e15 != 0) with h22 | h22
     · have h22p : ¬ e15 = 0 := by simpa using h22
       refine sg0 [.a (bT h22), .p 4, .s 0 [], .p 2] O21 fun w23 O24 => ?_
       try simp only [sendC, hm16] at hf
       simp [Sy.zero, Ci.zero, Hs.zero, h5p, h8p, h22p] at hf
       obtain ⟨rfl, rfl, rfl, rfl⟩ := hf
       first | rw [Hs.res_ok] at hv | rw [Hs.res_no (by first | assumption | decide)] at hv
       subst hv
       exact gret [] O24 (⟨rfl, back 2 O24⟩)
     · have h22p : e15 = 0 := by simpa using h22
       refine sg0 [.a (bT h22), .p 3, .a (bT (beq_f (x := t) (y := 2) (by omega))), .p 2, .a (.r 1), .p 2] O21 fun w25 O26 => ?_
       obtain ⟨A27, k28, h29, c30, b31, n32, e33, hm34⟩ : ∃ A27 k28 h29 c30 b31 n32 e33, openY A13 ⟨sk, sh, ⟨sc, sb, sn⟩⟩ (modeP p) y14 true = (A27, ⟨k28, h29, ⟨c30, b31, n32⟩⟩, e33) := ⟨_, _, _, _, _, _, _, rfl⟩
       rcases Decidable.em (e33 = 0) with h35 | h35
       · subst h35
         refine gS (args := #[.agg #[.int .i64 role, .int .i64 at_, .int .i64 nx, .string (strO p.name), .slice a0 p.pre0.length c0, .slice a1 p.pre1.length c1, .slice am p.msgs.length cm, .int .i64 kS, .int .i64 kE, .int .i64 kRS, .int .i64 kRE, .slice bk psks.length dk, .int .i64 sk, .int .i64 sh, .int .i64 sc, .bool sb, .int .u64 sn], .pointer (some ⟨r, 0, none⟩), .int .i64 y14, .bool true]) (openHE (psks := psks) (v := .agg #[.int .i64 role, .int .i64 at_, .int .i64 nx, .string (strO p.name), .slice a0 p.pre0.length c0, .slice a1 p.pre1.length c1, .slice am p.msgs.length cm, .int .i64 kS, .int .i64 kE, .int .i64 kRS, .int .i64 kRE, .slice bk psks.length dk, .int .i64 k28, .int .i64 h29, .int .i64 c30, .bool b31, .int .u64 n32]) O26 2 (by kernel_rfl) (j + 3) (atT hjT 3) hX.hasPat hfit (by omega) hm34 (by rfl)) fun w36 O37 => ?_
         refine sg0 [.p 3, .s 1 [], .p 1, .a (.r 1), .p 2, .s 0 [], .p 2] O37 fun w39 O40 => ?_
         try simp only [sendC, hm16, hm34] at hf
         simp [h5p, h8p, h22p] at hf
         obtain ⟨rfl, rfl, rfl, rfl⟩ := hf
         first | rw [Hs.res_ok] at hv | rw [Hs.res_no (by first | assumption | decide)] at hv
         subst hv
         exact gret [] O40 (⟨rfl, back 2 O40⟩)
       · refine gS (args := #[.agg #[.int .i64 role, .int .i64 at_, .int .i64 nx, .string (strO p.name), .slice a0 p.pre0.length c0, .slice a1 p.pre1.length c1, .slice am p.msgs.length cm, .int .i64 kS, .int .i64 kE, .int .i64 kRS, .int .i64 kRE, .slice bk psks.length dk, .int .i64 sk, .int .i64 sh, .int .i64 sc, .bool sb, .int .u64 sn], .pointer (some ⟨r, 0, none⟩), .int .i64 y14, .bool true]) (openHE (psks := psks) (v := .agg #[.int .i64 0, .int .i64 0, .int .i64 0, .string ⟨#[]⟩, .slice none 0 0, .slice none 0 0, .slice none 0 0, .int .i64 0, .int .i64 0, .int .i64 0, .int .i64 0, .slice none 0 0, .int .i64 0, .int .i64 0, .int .i64 0, .bool false, .int .u64 0]) O26 2 (by kernel_rfl) (j + 3) (atT hjT 3) hX.hasPat hfit (by omega) hm34 (by rw [upd_no h35]; rfl)) fun w41 O42 => ?_
         refine sg0 [.p 3, .s 1 [], .p 1, .a (.r 1), .p 2, .s 0 [], .p 2] O42 fun w44 O45 => ?_
         try simp only [sendC, hm16, hm34] at hf
         simp [Sy.zero, Ci.zero, Hs.zero, h5p, h8p, h22p, h35] at hf
         obtain ⟨rfl, rfl, rfl, rfl⟩ := hf
         first | rw [Hs.res_ok] at hv | rw [Hs.res_no (by first | assumption | decide)] at hv
         subst hv
         exact gret [] O45 (⟨rfl, back 2 O45⟩)
 · have h5p : ¬ t = 1 := by simpa using h5
   have h5q : t = 2 := by omega
   refine sg0 [.a (bT h5), .p 7, .a (.r 1), .p 2, .a (.r 1), .p 1] O4 fun w46 O47 => ?_
   obtain ⟨A48, y49, e50, hm51⟩ : ∃ A48 y49 e50, publicC A role kS kE kRS kRE role t = (A48, y49, e50) := ⟨_, _, _, rfl⟩
   refine gS (args := #[.agg #[.int .i64 role, .int .i64 at_, .int .i64 nx, .string (strO p.name), .slice a0 p.pre0.length c0, .slice a1 p.pre1.length c1, .slice am p.msgs.length cm, .int .i64 kS, .int .i64 kE, .int .i64 kRS, .int .i64 kRE, .slice bk psks.length dk, .int .i64 sk, .int .i64 sh, .int .i64 sc, .bool sb, .int .u64 sn], .pointer (some ⟨r, 0, none⟩), .int .i64 role, .int .i64 t]) (publicE (r := r) O47 2 (by kernel_rfl) hm51) fun w52 O53 => ?_
   refine sg0 [.p 6] O53 fun w55 O56 => ?_
   rcases Bool.eq_false_or_eq_true (e50 != 0) with h57 | h57
   · have h57p : ¬ e50 = 0 := by simpa using h57
     refine sg0 [.a (bT h57), .p 4, .s 0 [], .p 2] O56 fun w58 O59 => ?_
     try simp only [sendC, hm51] at hf
     simp [Sy.zero, Ci.zero, Hs.zero, h5q, h57p] at hf
     obtain ⟨rfl, rfl, rfl, rfl⟩ := hf
     first | rw [Hs.res_ok] at hv | rw [Hs.res_no (by first | assumption | decide)] at hv
     subst hv
     exact gret [] O59 (⟨rfl, back 2 O59⟩)
   · have h57p : e50 = 0 := by simpa using h57
     refine sg0 [.a (bT h57), .p 3, .a (bT (beq_t h5q)), .p 2, .a (.r 1), .p 2] O56 fun w60 O61 => ?_
     obtain ⟨A62, ha63, hx64, hE65, hS66, hR67, k68, h69, c70, b71, n72, x73, e74, hm75⟩ : ∃ A62 ha63 hx64 hE65 hS66 hR67 k68 h69 c70 b71 n72 x73 e74, sealedC A48 ⟨at_, nx, kE, kRS, kRE, ⟨sk, sh, ⟨sc, sb, sn⟩⟩⟩ y49 = (A62, ⟨ha63, hx64, hE65, hS66, hR67, ⟨k68, h69, ⟨c70, b71, n72⟩⟩⟩, x73, e74) := ⟨_, _, _, _, _, _, _, _, _, _, _, _, _, rfl⟩
     rcases Decidable.em (e74 = 0) with h76 | h76
     · subst h76
       refine gS (args := #[.agg #[.int .i64 role, .int .i64 at_, .int .i64 nx, .string (strO p.name), .slice a0 p.pre0.length c0, .slice a1 p.pre1.length c1, .slice am p.msgs.length cm, .int .i64 kS, .int .i64 kE, .int .i64 kRS, .int .i64 kRE, .slice bk psks.length dk, .int .i64 sk, .int .i64 sh, .int .i64 sc, .bool sb, .int .u64 sn], .pointer (some ⟨r, 0, none⟩), .int .i64 y49]) (sealedE (psks := psks) (v := .agg #[.int .i64 role, .int .i64 ha63, .int .i64 hx64, .string (strO p.name), .slice a0 p.pre0.length c0, .slice a1 p.pre1.length c1, .slice am p.msgs.length cm, .int .i64 kS, .int .i64 hE65, .int .i64 hS66, .int .i64 hR67, .slice bk psks.length dk, .int .i64 k68, .int .i64 h69, .int .i64 c70, .bool b71, .int .u64 n72]) O61 2 (by kernel_rfl) hn hm75 (by rfl)) fun w77 O78 => ?_
       have hk80 := sealedC_nk (hn) hm75
       refine sg0 [.p 3, .s 0 [], .p 2] O78 fun w81 O82 => ?_
       try simp only [sendC, hm51, hm75] at hf
       simp [h5q, h57p] at hf
       obtain ⟨rfl, rfl, rfl, rfl⟩ := hf
       first | rw [Hs.res_ok] at hv | rw [Hs.res_no (by first | assumption | decide)] at hv
       subst hv
       exact gret [] O82 (⟨rfl, back 2 O82⟩)
     · refine gS (args := #[.agg #[.int .i64 role, .int .i64 at_, .int .i64 nx, .string (strO p.name), .slice a0 p.pre0.length c0, .slice a1 p.pre1.length c1, .slice am p.msgs.length cm, .int .i64 kS, .int .i64 kE, .int .i64 kRS, .int .i64 kRE, .slice bk psks.length dk, .int .i64 sk, .int .i64 sh, .int .i64 sc, .bool sb, .int .u64 sn], .pointer (some ⟨r, 0, none⟩), .int .i64 y49]) (sealedE (psks := psks) (v := .agg #[.int .i64 0, .int .i64 0, .int .i64 0, .string ⟨#[]⟩, .slice none 0 0, .slice none 0 0, .slice none 0 0, .int .i64 0, .int .i64 0, .int .i64 0, .int .i64 0, .slice none 0 0, .int .i64 0, .int .i64 0, .int .i64 0, .bool false, .int .u64 0]) O61 2 (by kernel_rfl) hn hm75 (Hs.res_no h76)) fun w83 O84 => ?_
       have hk86 := sealedC_nk (hn) hm75
       obtain rfl : x73 = 0 := sealedC_zero hm75 h76
       refine sg0 [.p 3, .s 0 [], .p 2] O84 fun w87 O88 => ?_
       try simp only [sendC, hm51, hm75] at hf
       simp [h5q, h57p] at hf
       obtain ⟨rfl, rfl, rfl, rfl⟩ := hf
       first | rw [Hs.res_ok] at hv | rw [Hs.res_no (by first | assumption | decide)] at hv
       subst hv
       exact gret [] O88 (⟨rfl, back 2 O88⟩)
set_option warningAsError false in
set_option maxRecDepth 100000 in
set_option maxHeartbeats 4000000 in
theorem receiveE {w0 w : World} {M : List Thing} {r : Nat} {A A' : Ar} {X : Thing} {role at_ nx kS kE kRS kRE sk sh sc sn : Int} {sb : Bool} {a0 a1 am bk : Option Addr} {c0 c1 cm dk : Nat} {p : Pat} {psks : List Int} {t part : Int} {h' : Hs} {e : Int} {v : Value} (O : Own w0 w M) (i : Nat) (hi : M[i]? = some (arena r A)) (j : Nat) (hj : M[j]? = some X) (hX : HasShk X (pvx a0 c0 a1 c1 am cm p) p bk dk psks) (hfit : PatFits p) (hij : j ≠ i) (ht : t = 1 ∨ t = 2) (hn : U64 sn) (hf : receiveC A (modeP p) ⟨at_, nx, kE, kRS, kRE, ⟨sk, sh, ⟨sc, sb, sn⟩⟩⟩ t part = (A', h', e)) (hv : h'.res e role (pvx a0 c0 a1 c1 am cm p) p kS (.slice bk psks.length dk) psks = v) :
    Calls Tryz.prog 77 #[.agg #[.int .i64 role, .int .i64 at_, .int .i64 nx, .string (strO p.name), .slice a0 p.pre0.length c0, .slice a1 p.pre1.length c1, .slice am p.msgs.length cm, .int .i64 kS, .int .i64 kE, .int .i64 kRS, .int .i64 kRE, .slice bk psks.length dk, .int .i64 sk, .int .i64 sh, .int .i64 sc, .bool sb, .int .u64 sn], .pointer (some ⟨r, 0, none⟩), .int .i64 t, .int .i64 part] w fun e' w' => e' = .returned (.tuple #[v, .int .i64 e]) ∧ Own w0 w' (M.set i (arena r A')) := by
 obtain ⟨T, hT, O0, back⟩ := O.focD hi
 have hjT := hT j X hij hj
 refine gent O0 Tryz.func77 ?_
 refine sg2 [.n [], .n [], .p 2] O0 fun b1 b2 w3 O4 => ?_
 rcases Bool.eq_false_or_eq_true (t == 1) with h5 | h5
 · have h5p : t = 1 := by simpa using h5
   refine sg0 [.a (bT h5), .p 4, .s 1 [], .a (.r 1), .p 2] O4 fun w6 O7 => ?_
   obtain ⟨A8, k9, h10, c11, b12, n13, e14, hm15⟩ : ∃ A8 k9 h10 c11 b12 n13 e14, openY A ⟨sk, sh, ⟨sc, sb, sn⟩⟩ (modeP p) part true = (A8, ⟨k9, h10, ⟨c11, b12, n13⟩⟩, e14) := ⟨_, _, _, _, _, _, _, rfl⟩
   rcases Decidable.em (e14 = 0) with h16 | h16
   · subst h16
     refine gS (args := #[.agg #[.int .i64 role, .int .i64 at_, .int .i64 nx, .string (strO p.name), .slice a0 p.pre0.length c0, .slice a1 p.pre1.length c1, .slice am p.msgs.length cm, .int .i64 kS, .int .i64 kE, .int .i64 kRS, .int .i64 part, .slice bk psks.length dk, .int .i64 sk, .int .i64 sh, .int .i64 sc, .bool sb, .int .u64 sn], .pointer (some ⟨r, 0, none⟩), .int .i64 part, .bool true]) (openHE (psks := psks) (v := .agg #[.int .i64 role, .int .i64 at_, .int .i64 nx, .string (strO p.name), .slice a0 p.pre0.length c0, .slice a1 p.pre1.length c1, .slice am p.msgs.length cm, .int .i64 kS, .int .i64 kE, .int .i64 kRS, .int .i64 part, .slice bk psks.length dk, .int .i64 k9, .int .i64 h10, .int .i64 c11, .bool b12, .int .u64 n13]) O7 2 (by kernel_rfl) (j + 3) (atT hjT 3) hX.hasPat hfit (by omega) hm15 (by rfl)) fun w17 O18 => ?_
     refine sg0 [.p 2, .s 0 [], .p 1] O18 fun w20 O21 => ?_
     try simp only [receiveC, hm15] at hf
     simp [h5p] at hf
     obtain ⟨rfl, rfl, rfl⟩ := hf
     first | rw [Hs.res_ok] at hv | rw [Hs.res_no (by first | assumption | decide)] at hv
     subst hv
     exact gret [] O21 (⟨rfl, back 2 O21⟩)
   · refine gS (args := #[.agg #[.int .i64 role, .int .i64 at_, .int .i64 nx, .string (strO p.name), .slice a0 p.pre0.length c0, .slice a1 p.pre1.length c1, .slice am p.msgs.length cm, .int .i64 kS, .int .i64 kE, .int .i64 kRS, .int .i64 part, .slice bk psks.length dk, .int .i64 sk, .int .i64 sh, .int .i64 sc, .bool sb, .int .u64 sn], .pointer (some ⟨r, 0, none⟩), .int .i64 part, .bool true]) (openHE (psks := psks) (v := .agg #[.int .i64 0, .int .i64 0, .int .i64 0, .string ⟨#[]⟩, .slice none 0 0, .slice none 0 0, .slice none 0 0, .int .i64 0, .int .i64 0, .int .i64 0, .int .i64 0, .slice none 0 0, .int .i64 0, .int .i64 0, .int .i64 0, .bool false, .int .u64 0]) O7 2 (by kernel_rfl) (j + 3) (atT hjT 3) hX.hasPat hfit (by omega) hm15 (by rw [upd_no h16]; rfl)) fun w22 O23 => ?_
     refine sg0 [.p 2, .s 0 [], .p 1] O23 fun w25 O26 => ?_
     try simp only [receiveC, hm15] at hf
     simp [Sy.zero, Ci.zero, Hs.zero, h5p, h16] at hf
     obtain ⟨rfl, rfl, rfl⟩ := hf
     first | rw [Hs.res_ok] at hv | rw [Hs.res_no (by first | assumption | decide)] at hv
     subst hv
     exact gret [] O26 (⟨rfl, back 2 O26⟩)
 · have h5p : ¬ t = 1 := by simpa using h5
   have h5q : t = 2 := by omega
   refine sg0 [.a (bT h5), .p 1, .a (.r 1), .p 2] O4 fun w27 O28 => ?_
   obtain ⟨A29, ha30, hx31, hE32, hS33, hR34, k35, h36, c37, b38, n39, x40, e41, hm42⟩ : ∃ A29 ha30 hx31 hE32 hS33 hR34 k35 h36 c37 b38 n39 x40 e41, openedC A ⟨at_, nx, kE, kRS, kRE, ⟨sk, sh, ⟨sc, sb, sn⟩⟩⟩ part = (A29, ⟨ha30, hx31, hE32, hS33, hR34, ⟨k35, h36, ⟨c37, b38, n39⟩⟩⟩, x40, e41) := ⟨_, _, _, _, _, _, _, _, _, _, _, _, _, rfl⟩
   rcases Decidable.em (e41 = 0) with h43 | h43
   · subst h43
     refine gS (args := #[.agg #[.int .i64 role, .int .i64 at_, .int .i64 nx, .string (strO p.name), .slice a0 p.pre0.length c0, .slice a1 p.pre1.length c1, .slice am p.msgs.length cm, .int .i64 kS, .int .i64 kE, .int .i64 kRS, .int .i64 kRE, .slice bk psks.length dk, .int .i64 sk, .int .i64 sh, .int .i64 sc, .bool sb, .int .u64 sn], .pointer (some ⟨r, 0, none⟩), .int .i64 part]) (openedE (psks := psks) (v := .agg #[.int .i64 role, .int .i64 ha30, .int .i64 hx31, .string (strO p.name), .slice a0 p.pre0.length c0, .slice a1 p.pre1.length c1, .slice am p.msgs.length cm, .int .i64 kS, .int .i64 hE32, .int .i64 hS33, .int .i64 hR34, .slice bk psks.length dk, .int .i64 k35, .int .i64 h36, .int .i64 c37, .bool b38, .int .u64 n39]) O28 2 (by kernel_rfl) hn hm42 (by rfl)) fun w44 O45 => ?_
     have hk47 := openedC_nk (hn) hm42
     refine sg0 [.p 4, .s 1 [], .p 5, .s 1 [], .a (.r 1), .p 1, .s 0 [], .p 1] O45 fun w48 O49 => ?_
     try simp only [receiveC, hm42] at hf
     simp [h5q] at hf
     obtain ⟨rfl, rfl, rfl⟩ := hf
     first | rw [Hs.res_ok] at hv | rw [Hs.res_no (by first | assumption | decide)] at hv
     subst hv
     exact gret [] O49 (⟨rfl, back 2 O49⟩)
   · refine gS (args := #[.agg #[.int .i64 role, .int .i64 at_, .int .i64 nx, .string (strO p.name), .slice a0 p.pre0.length c0, .slice a1 p.pre1.length c1, .slice am p.msgs.length cm, .int .i64 kS, .int .i64 kE, .int .i64 kRS, .int .i64 kRE, .slice bk psks.length dk, .int .i64 sk, .int .i64 sh, .int .i64 sc, .bool sb, .int .u64 sn], .pointer (some ⟨r, 0, none⟩), .int .i64 part]) (openedE (psks := psks) (v := .agg #[.int .i64 0, .int .i64 0, .int .i64 0, .string ⟨#[]⟩, .slice none 0 0, .slice none 0 0, .slice none 0 0, .int .i64 0, .int .i64 0, .int .i64 0, .int .i64 0, .slice none 0 0, .int .i64 0, .int .i64 0, .int .i64 0, .bool false, .int .u64 0]) O28 2 (by kernel_rfl) hn hm42 (Hs.res_no h43)) fun w50 O51 => ?_
     have hk53 := openedC_nk (hn) hm42
     obtain rfl : x40 = 0 := openedC_zero hm42 h43
     refine sg0 [.p 4, .s 1 [], .p 5, .s 1 [], .a (.r 1), .p 1, .s 0 [], .p 1] O51 fun w54 O55 => ?_
     try simp only [receiveC, hm42] at hf
     simp [Sy.zero, Ci.zero, Hs.zero, h5q, h43] at hf
     obtain ⟨rfl, rfl, rfl⟩ := hf
     first | rw [Hs.res_ok] at hv | rw [Hs.res_no (by first | assumption | decide)] at hv
     subst hv
     exact gret [] O55 (⟨rfl, back 2 O55⟩)
end Go.Proofs.YtikimmgileffgaaGreatDoor
