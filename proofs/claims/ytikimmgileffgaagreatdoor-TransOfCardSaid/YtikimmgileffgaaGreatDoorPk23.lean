/- Packed for this claim by packm.py: TransOfW, Open5, OpenT. -/
import Derived.Test.YtikimmgileffgaaGreatDoorPk22
import Derived.Test.YtikimmgileffgaaGreatDoorPk02
import Derived.Test.YtikimmgileffgaaGreatDoorPk14
import Derived.Deep.Strs
/- TransOf walked. Printed by s_transof.py. -/
section
namespace Go.Proofs.YtikimmgileffgaaGreatDoor
open Go.RowKit
set_option warningAsError false in
set_option maxRecDepth 100000 in
set_option maxHeartbeats 8000000 in
theorem transOf_walk (t : Tr) (own : Bool) (w : World) (he : EnvB w) :
    Calls Tryz.prog 3 #[.agg #[.int .i64 t.send.key, .bool t.send.has, .int .u64 t.send.n, .int .i64 t.recv.key, .bool t.recv.has, .int .u64 t.recv.n], .bool own] w fun e' w' => e' = .returned (.bool true) ∧ Below w.heap.size w w' := by
 have O0 := Own.start w
 replace O0 : Own w w (List.map Ent.t []) := O0
 obtain ⟨p, hpn⟩ : ∃ p, p = pNN := ⟨_, rfl⟩
 have hfit : PatFits p := by rw [hpn]; exact fits_nn
 obtain ⟨A0, hA0⟩ : ∃ A, A = newAr 100 := ⟨_, rfl⟩
 refine gent O0 Tryz.func3 ?_
 refine sg1 [.n [], .p 1] O0 fun b1 w2 O3 => ?_
 refine gc (args := #[.int .i64 100]) (newEA O3 hA0) ?_
 rintro e6 w4 ⟨r, rfl, O5⟩
 refine gr O5.mcons fun O5 => ?_
 refine sg0 [.p 1] O5 fun w7 O8 => ?_
 refine gc (args := #[.string ⟨#[78, 78]⟩]) (baseNN O8 he hpn) ?_
 rintro e11 w9 ⟨q0, d0, q1, d1, qm, dm, rfl, O10⟩
 refine gr O10.mcons fun O10 => ?_
 refine sg1 [.p 3, .n [], .s 0 [], .p 9] O10 fun b12 w13 O14 => ?_
 rcases Bool.eq_false_or_eq_true (own) with h15 | h15
 · refine sg0 [.a (bT h15), .p 3, .a (.r 0), .p 2] O14 fun w16 O17 => ?_
   obtain ⟨A1, ⟨ck, hh, ⟨cc, cb, cn⟩⟩, e1, hs⟩ : ∃ A y e, startC A0 p 1 0 ⟨0, 0, 0, 0, []⟩ = (A, y, e) := ⟨_, _, _, rfl⟩
   have hs1 : e1 = 0 := by have h0 := start_nn1; rw [← hpn, ← hA0, hs] at h0; exact h0
   subst hs1
   refine gc (args := #[.pointer (some ⟨r, 0, none⟩), .agg #[.string (strO p.name), .slice q0 p.pre0.length d0, .slice q1 p.pre1.length d1, .slice qm p.msgs.length dm], .int .i64 1, .int .i64 0, .agg #[.int .i64 0, .int .i64 0, .int .i64 0, .int .i64 0, .slice none 0 0]]) (startOk1 (psks := []) (B := none) (dB := 0) (p := p) (A := A0) O17 2 (by kernel_rfl) (kept_pat (x := pvx q0 d0 q1 d1 qm dm p) 1 (by kernel_rfl) (by decide)) hfit he.str (kept_old fun _ _ => .inl rfl) (by decide) hs) ?_
   rintro e20 w18 ⟨a0, c0, a1, c1, am, cm, bk, dk, rfl, O19⟩
   refine gr O19.mconsS fun O19 => ?_
   refine sg1 [.p 3, .n [], .s 0 [], .p 2, .a (.r 0)] O19 fun b21 w22 O23 => ?_
   have ht : transOfC A1 1 0 p ⟨ck, hh, ⟨cc, cb, cn⟩⟩ = (A1, Tr.zero, 5) := by rw [hpn]; simp [transOfC, ciphersC, pNN]
   refine gS (args := #[.pointer (some ⟨r, 0, none⟩), .agg #[.int .i64 1, .int .i64 0, .int .i64 0, .string (strO p.name), .slice a0 p.pre0.length c0, .slice a1 p.pre1.length c1, .slice am p.msgs.length cm, .int .i64 (sel (needOf p 1).1.s 0), .int .i64 (sel (needOf p 1).1.e 0), .int .i64 (sel (needOf p 1).1.rs 0), .int .i64 (sel (needOf p 1).1.re 0), .slice bk (([] : List Int).length) dk, .int .i64 ck, .int .i64 hh, .int .i64 cc, .bool cb, .int .u64 cn]]) (transOfE (p := p) (psks := []) O23 4 (by kernel_rfl) ht) fun w24 O25 => ?_
   refine sg1 [.p 3, .n [], .s 0 [], .p 1, .d [0, 6], .qs [0, 1, 2], .q 3 (.r 0), .qs [4], .q 5 (.e (((((0 : Int) == 0) && ((false == false) && (((0 : Int) == 0) && true))) && ((((0 : Int) == 0) && ((false == false) && (((0 : Int) == 0) && true))) && true))) true (by simp [])), .qs [6, 7, 8, 9, 10, 11], .q 12 (.r 1), .q 15 (.r 1), .o 13] O25 fun b27 w28 O29 => ?_
   refine gi (args := #[.agg #[.int .i64 t.send.key, .bool t.send.has, .int .u64 t.send.n, .int .i64 t.recv.key, .bool t.recv.has, .int .u64 t.recv.n]]) Tryz.func17 O29 fun O29i => ?_
   refine sg2 [.n [], .n [], .p 1, .a (.r 1), .p 1, .a (.r 1), .p 1, .s 0 []] O29i fun b30 b31 w32 O33 => ?_
   refine gir (js := [2, 8]) [] O33 fun O34 => ?_
   refine sg0 [.o 14] O34 fun w35 O36 => ?_
   refine gi (args := #[.agg #[.int .i64 t.recv.key, .bool t.recv.has, .int .u64 t.recv.n, .int .i64 t.send.key, .bool t.send.has, .int .u64 t.send.n]]) Tryz.func17 O36 fun O36i => ?_
   refine sg2 [.n [], .n [], .p 1, .a (.r 1), .p 1, .a (.r 1), .p 1, .s 0 []] O36i fun b37 b38 w39 O40 => ?_
   refine gir (js := [4, 10]) [] O40 fun O41 => ?_
   rcases Bool.eq_false_or_eq_true (t.send.has) with h42 | h42
   · rcases Bool.eq_false_or_eq_true (t.recv.has) with h43 | h43
     · refine sg0 [.q 16 (.e ((((t.send.key == t.send.key) && ((t.send.has == t.send.has) && ((t.send.n == t.send.n) && true))) && (((t.recv.key == t.recv.key) && ((t.recv.has == t.recv.has) && ((t.recv.n == t.recv.n) && true))) && true))) true (by simp [h42, h42, h43, h43])), .qs [17, 18], .o 19] O41 fun w44 O45 => ?_
       refine gU (js := [4, 10]) (args := #[]) (awakeE O45) fun w46 O47 => ?_
       refine sg0 [.qs [20, 21], .z] O47 fun w49 O50 => ?_
       exact gret [] O50 (⟨rfl, O50.below⟩)
     · refine sg0 [.q 16 (.e ((((t.send.key == t.send.key) && ((t.send.has == t.send.has) && ((t.send.n == t.send.n) && true))) && (((t.recv.key == t.recv.key) && ((t.recv.has == t.recv.has) && ((t.recv.n == t.recv.n) && true))) && true))) true (by simp [h42, h42, h43, h43])), .qs [17, 18], .o 19] O41 fun w51 O52 => ?_
       refine gU (js := [4, 10]) (args := #[]) (awakeE O52) fun w53 O54 => ?_
       refine sg0 [.qs [20, 21], .z] O54 fun w56 O57 => ?_
       exact gret [] O57 (⟨rfl, O57.below⟩)
   · rcases Bool.eq_false_or_eq_true (t.recv.has) with h58 | h58
     · refine sg0 [.q 16 (.e ((((t.send.key == t.send.key) && ((t.send.has == t.send.has) && ((t.send.n == t.send.n) && true))) && (((t.recv.key == t.recv.key) && ((t.recv.has == t.recv.has) && ((t.recv.n == t.recv.n) && true))) && true))) true (by simp [h42, h42, h58, h58])), .qs [17, 18], .o 19] O41 fun w59 O60 => ?_
       refine gU (js := [4, 10]) (args := #[]) (awakeE O60) fun w61 O62 => ?_
       refine sg0 [.qs [20, 21], .z] O62 fun w64 O65 => ?_
       exact gret [] O65 (⟨rfl, O65.below⟩)
     · refine sg0 [.q 16 (.e ((((t.send.key == t.send.key) && ((t.send.has == t.send.has) && ((t.send.n == t.send.n) && true))) && (((t.recv.key == t.recv.key) && ((t.recv.has == t.recv.has) && ((t.recv.n == t.recv.n) && true))) && true))) true (by simp [h42, h42, h58, h58])), .qs [17, 18], .o 19] O41 fun w66 O67 => ?_
       refine gU (js := [4, 10]) (args := #[]) (awakeE O67) fun w68 O69 => ?_
       refine sg0 [.qs [20, 21], .z] O69 fun w71 O72 => ?_
       exact gret [] O72 (⟨rfl, O72.below⟩)
 · refine sg0 [.a (bT h15), .p 2, .a (.r 0), .p 2] O14 fun w73 O74 => ?_
   obtain ⟨A1, ⟨ck, hh, ⟨cc, cb, cn⟩⟩, e1, hs⟩ : ∃ A y e, startC A0 p 0 0 ⟨0, 0, 0, 0, []⟩ = (A, y, e) := ⟨_, _, _, rfl⟩
   have hs1 : e1 = 0 := by have h0 := start_nn0; rw [← hpn, ← hA0, hs] at h0; exact h0
   subst hs1
   refine gc (args := #[.pointer (some ⟨r, 0, none⟩), .agg #[.string (strO p.name), .slice q0 p.pre0.length d0, .slice q1 p.pre1.length d1, .slice qm p.msgs.length dm], .int .i64 0, .int .i64 0, .agg #[.int .i64 0, .int .i64 0, .int .i64 0, .int .i64 0, .slice none 0 0]]) (startOk0 (psks := []) (B := none) (dB := 0) (p := p) (A := A0) O74 2 (by kernel_rfl) (kept_pat (x := pvx q0 d0 q1 d1 qm dm p) 1 (by kernel_rfl) (by decide)) hfit he.str (kept_old fun _ _ => .inl rfl) (by decide) hs) ?_
   rintro e77 w75 ⟨a0, c0, a1, c1, am, cm, bk, dk, rfl, O76⟩
   refine gr O76.mconsS fun O76 => ?_
   refine sg1 [.p 3, .n [], .s 0 [], .p 2, .a (.r 0)] O76 fun b78 w79 O80 => ?_
   have ht : transOfC A1 0 0 p ⟨ck, hh, ⟨cc, cb, cn⟩⟩ = (A1, Tr.zero, 5) := by rw [hpn]; simp [transOfC, ciphersC, pNN]
   refine gS (args := #[.pointer (some ⟨r, 0, none⟩), .agg #[.int .i64 0, .int .i64 0, .int .i64 0, .string (strO p.name), .slice a0 p.pre0.length c0, .slice a1 p.pre1.length c1, .slice am p.msgs.length cm, .int .i64 (sel (needOf p 0).1.s 0), .int .i64 (sel (needOf p 0).1.e 0), .int .i64 (sel (needOf p 0).1.rs 0), .int .i64 (sel (needOf p 0).1.re 0), .slice bk (([] : List Int).length) dk, .int .i64 ck, .int .i64 hh, .int .i64 cc, .bool cb, .int .u64 cn]]) (transOfE (p := p) (psks := []) O80 4 (by kernel_rfl) ht) fun w81 O82 => ?_
   refine sg1 [.p 3, .n [], .s 0 [], .p 1, .d [0, 6], .qs [0, 1, 2], .q 3 (.r 0), .qs [4], .q 5 (.e (((((0 : Int) == 0) && ((false == false) && (((0 : Int) == 0) && true))) && ((((0 : Int) == 0) && ((false == false) && (((0 : Int) == 0) && true))) && true))) true (by simp [])), .qs [6, 7, 8, 9, 10, 11], .q 12 (.r 1), .q 15 (.r 1), .o 13] O82 fun b84 w85 O86 => ?_
   refine gi (args := #[.agg #[.int .i64 t.send.key, .bool t.send.has, .int .u64 t.send.n, .int .i64 t.recv.key, .bool t.recv.has, .int .u64 t.recv.n]]) Tryz.func17 O86 fun O86i => ?_
   refine sg2 [.n [], .n [], .p 1, .a (.r 1), .p 1, .a (.r 1), .p 1, .s 0 []] O86i fun b87 b88 w89 O90 => ?_
   refine gir (js := [2, 8]) [] O90 fun O91 => ?_
   refine sg0 [.o 14] O91 fun w92 O93 => ?_
   refine gi (args := #[.agg #[.int .i64 t.recv.key, .bool t.recv.has, .int .u64 t.recv.n, .int .i64 t.send.key, .bool t.send.has, .int .u64 t.send.n]]) Tryz.func17 O93 fun O93i => ?_
   refine sg2 [.n [], .n [], .p 1, .a (.r 1), .p 1, .a (.r 1), .p 1, .s 0 []] O93i fun b94 b95 w96 O97 => ?_
   refine gir (js := [4, 10]) [] O97 fun O98 => ?_
   rcases Bool.eq_false_or_eq_true (t.send.has) with h99 | h99
   · rcases Bool.eq_false_or_eq_true (t.recv.has) with h100 | h100
     · refine sg0 [.q 16 (.e ((((t.send.key == t.send.key) && ((t.send.has == t.send.has) && ((t.send.n == t.send.n) && true))) && (((t.recv.key == t.recv.key) && ((t.recv.has == t.recv.has) && ((t.recv.n == t.recv.n) && true))) && true))) true (by simp [h99, h99, h100, h100])), .qs [17, 18], .o 19] O98 fun w101 O102 => ?_
       refine gU (js := [4, 10]) (args := #[]) (awakeE O102) fun w103 O104 => ?_
       refine sg0 [.qs [20, 21], .z] O104 fun w106 O107 => ?_
       exact gret [] O107 (⟨rfl, O107.below⟩)
     · refine sg0 [.q 16 (.e ((((t.send.key == t.send.key) && ((t.send.has == t.send.has) && ((t.send.n == t.send.n) && true))) && (((t.recv.key == t.recv.key) && ((t.recv.has == t.recv.has) && ((t.recv.n == t.recv.n) && true))) && true))) true (by simp [h99, h99, h100, h100])), .qs [17, 18], .o 19] O98 fun w108 O109 => ?_
       refine gU (js := [4, 10]) (args := #[]) (awakeE O109) fun w110 O111 => ?_
       refine sg0 [.qs [20, 21], .z] O111 fun w113 O114 => ?_
       exact gret [] O114 (⟨rfl, O114.below⟩)
   · rcases Bool.eq_false_or_eq_true (t.recv.has) with h115 | h115
     · refine sg0 [.q 16 (.e ((((t.send.key == t.send.key) && ((t.send.has == t.send.has) && ((t.send.n == t.send.n) && true))) && (((t.recv.key == t.recv.key) && ((t.recv.has == t.recv.has) && ((t.recv.n == t.recv.n) && true))) && true))) true (by simp [h99, h99, h115, h115])), .qs [17, 18], .o 19] O98 fun w116 O117 => ?_
       refine gU (js := [4, 10]) (args := #[]) (awakeE O117) fun w118 O119 => ?_
       refine sg0 [.qs [20, 21], .z] O119 fun w121 O122 => ?_
       exact gret [] O122 (⟨rfl, O122.below⟩)
     · refine sg0 [.q 16 (.e ((((t.send.key == t.send.key) && ((t.send.has == t.send.has) && ((t.send.n == t.send.n) && true))) && (((t.recv.key == t.recv.key) && ((t.recv.has == t.recv.has) && ((t.recv.n == t.recv.n) && true))) && true))) true (by simp [h99, h99, h115, h115])), .qs [17, 18], .o 19] O98 fun w123 O124 => ?_
       refine gU (js := [4, 10]) (args := #[]) (awakeE O124) fun w125 O126 => ?_
       refine sg0 [.qs [20, 21], .z] O126 fun w128 O129 => ?_
       exact gret [] O129 (⟨rfl, O129.below⟩)
end Go.Proofs.YtikimmgileffgaaGreatDoor
end
/- Arguments opened: a slice of nodes, as the cells that it holds. Any program. -/
section
namespace Go.Proofs.YtikimmgileffgaaGreatDoor
open Go.ChangeShapes Go.WideShapes Go.ChangeAt Go.RowKit Go.Deep

section
variable {H : Type} {enc : TypeId × Value → H} {P : Program} {w : World} {base : Nat} {spare : Nat → Bool} {held : Bool}
def Nd.u64 (x : Nd) : Prop := 0 ≤ x.n ∧ x.n ≤ 18446744073709551615
end
end Go.Proofs.YtikimmgileffgaaGreatDoor
end
/- An argument opened: a struct of two structs of an int, a bool and a uint64. Any program. -/
section
namespace Go.Proofs.YtikimmgileffgaaGreatDoor
open Go.ChangeShapes Go.WideShapes Go.ChangeAt Go.RowKit Go.Deep

section
variable {H : Type} {enc : TypeId × Value → H} {P : Program} {w : World} {base : Nat} {spare : Nat → Bool} {held : Bool}
theorem array6 {α : Type} {a : Array α} (h : a.size = 6) : ∃ a0 a1 a2 a3 a4 a5, a = #[a0, a1, a2, a3, a4, a5] := by
  obtain ⟨l⟩ := a
  simp only [List.size_toArray] at h
  match l, h with
  | [a0, a1, a2, a3, a4, a5], _ => exact ⟨a0, a1, a2, a3, a4, a5, rfl⟩
theorem open_cipher {e : TypeId} {g0 g1 g2 : Field} {fuel : Nat} {c0 c1 c2 : Value} {x : DataW H × List MemPlace} (he : P.underlying e = some (.struct #[g0, g1, g2])) (h0 : P.underlying g0.type = some (.int .i64)) (h1 : P.underlying g1.type = some .bool) (h2 : P.underlying g2.type = some (.int .u64))
    (o : (g0.offset, g1.offset, g2.offset, P.cellsOf g0.type, P.cellsOf g1.type, P.cellsOf g2.type) = (0, 1, 2, 1, 1, 1)) (h : DataW.trod enc P w base spare held fuel e [c0, c1, c2] = some x) :
    ∃ (k : Int) (b : Bool) (n : Int), c0 = .int .i64 k ∧ c1 = .bool b ∧ c2 = .int .u64 n ∧ 0 ≤ n ∧ n ≤ 18446744073709551615 := by
  obtain ⟨y0, y1, y2, n, _, _, t0, t1, t2⟩ := trod_struct3 he h
  simp only [Prod.mk.injEq] at o
  obtain ⟨o0, o1, o2, k0, k1, k2⟩ := o
  rw [o0, k0] at t0
  rw [o1, k1] at t1
  rw [o2, k2] at t2
  simp only [List.drop_zero, List.drop_succ_cons, List.take_succ_cons, List.take_zero] at t0 t1 t2
  obtain ⟨a, e0, _, _⟩ := DataW.trod_int h0 t0
  obtain ⟨b, e1, _⟩ := DataW.trod_bool h1 t1
  obtain ⟨c, e2, _, hc⟩ := DataW.trod_int h2 t2
  simp only [List.cons.injEq, and_true] at e0 e1 e2
  exact ⟨a, b, c, e0, e1, e2, (bounds_u64 hc).1, (bounds_u64 hc).2⟩
theorem open_trans {r : Reach} {b0 : Nat} {t e : TypeId} {f0 f1 g0 g1 g2 : Field} {v : Value} {d : DataW H} {p : List MemPlace} (hs : P.underlying t = some (.struct #[f0, f1])) (e0 : f0.type = e) (e1 : f1.type = e) (he : P.underlying e = some (.struct #[g0, g1, g2])) (h0 : P.underlying g0.type = some (.int .i64)) (h1 : P.underlying g1.type = some .bool) (h2 : P.underlying g2.type = some (.int .u64))
    (o : (g0.offset, g1.offset, g2.offset, P.cellsOf g0.type, P.cellsOf g1.type, P.cellsOf g2.type) = (0, 1, 2, 1, 1, 1)) (o' : (f0.offset, f1.offset, P.cellsOf t, P.cellsOf e) = (0, 3, 6, 3))
    (hv : Value.okWide P w r b0 t v) (h : DataW.Trod enc P w base spare held t v d p) :
    ∃ T : Tr, v = T.val ∧ (0 ≤ T.send.n ∧ T.send.n ≤ 18446744073709551615) ∧ (0 ≤ T.recv.n ∧ T.recv.n ≤ 18446744073709551615) := by
  simp only [Prod.mk.injEq] at o'
  obtain ⟨p0, p1, p2, p3⟩ := o'
  obtain ⟨cs, rfl, hsz⟩ := okWide_struct hs hv
  obtain ⟨c0, c1, c2, c3, c4, c5, rfl⟩ := array6 (hsz.trans p2)
  obtain ⟨fuel, hf⟩ := h
  obtain ⟨y0, y1, n, _, _, t0, t1⟩ := trod_struct2 hs hf
  rw [e0, p0, p3] at t0
  rw [e1, p1, p3] at t1
  simp only [Value.cells, List.drop_zero, List.drop_succ_cons, List.take_succ_cons, List.take_zero] at t0 t1
  obtain ⟨k1, b1, n1, rfl, rfl, rfl, u1, u2⟩ := open_cipher he h0 h1 h2 o t0
  obtain ⟨k2, b2, n2, rfl, rfl, rfl, u3, u4⟩ := open_cipher he h0 h1 h2 o t1
  exact ⟨⟨⟨k1, b1, n1⟩, ⟨k2, b2, n2⟩⟩, rfl, ⟨u1, u2⟩, ⟨u3, u4⟩⟩
end
end Go.Proofs.YtikimmgileffgaaGreatDoor
end
