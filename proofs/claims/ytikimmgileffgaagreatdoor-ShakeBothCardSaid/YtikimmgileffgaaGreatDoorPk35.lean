/- Packed for this claim by packm.py: L12J, Open5, OpenT, OpenP. -/
import Derived.Test.YtikimmgileffgaaGreatDoorPk34
import Derived.Test.YtikimmgileffgaaGreatDoorPk02
import Derived.Test.YtikimmgileffgaaGreatDoorPk14
import Derived.Deep.Strs
import Derived.Test.YtikimmgileffgaaGreatDoorPk22
/- ShakeBoth (layer 12): for every input the law returns true. -/
section
namespace Go.Proofs.YtikimmgileffgaaGreatDoor
open Go.RowKit

theorem both_walk {w : World} {a0 a1 am uB : Option Addr} {c0 c1 cm ud : Nat} {p : Pat} {us : List Int} {lim ams chg : Int} (henv : EnvB w) (hp : PatIn w (Old w) (pvx a0 c0 a1 c1 am cm p) p) (hfit : PatFits p) (hU : Holds w uB (u64V us)) (hus : ∀ u ∈ us, U64 u) :
    Calls Tryz.prog 5 #[.agg #[.string (strO p.name), .slice a0 p.pre0.length c0, .slice a1 p.pre1.length c1, .slice am p.msgs.length cm, .slice uB us.length ud, .int .i64 lim, .int .u8 ams, .int .u8 chg]] w (fun e' w' => e' = .returned (.bool true) ∧ Below w.heap.size w w') := by
  by_cases hyes : fewP p = true ∧ us.length ≤ 10
  · have hu : ∀ u ∈ us, 0 ≤ u := fun u hu => (hus u hu).1
    obtain ⟨At, rs0, re0, K, rs1, re1, ht⟩ := twoK hu hyes.2
    obtain ⟨-, -, hkl, -⟩ := two_facts hu hyes.2 ht
    rcases Bool.eq_false_or_eq_true (((strO p.name) : ByteArray).toList == (⟨#[]⟩ : ByteArray).toList) with hname | hname
    · exact both_anon henv hp hfit hU hus hyes.1 hyes.2 ht hname
    · by_cases hw : whyC p ⟨1, 2, rs0, re0, K⟩ = 0
      · exact both_all henv hp hfit hU hus hyes.1 hyes.2 ht hname hw
      · obtain ⟨s0, s1⟩ := why_no (pro := 0) hu hyes.2 ht (by decide) ⟨rfl, fun y hy => .inr hy⟩ hw
        exact both_why henv hp hfit hU hus hyes.1 hyes.2 ht hname (by have := hyes.2; omega) hw s0 s1
  · exact both_none (K := []) (At := newAr 0) (rs0 := 0) (re0 := 0) (rs1 := 0) (re1 := 0) henv hp hfit hU hus hyes
end Go.Proofs.YtikimmgileffgaaGreatDoor
end
/- Arguments opened: a slice of nodes, as the cells that it holds. Any program. -/
section
namespace Go.Proofs.YtikimmgileffgaaGreatDoor
open Go.ChangeShapes Go.WideShapes Go.ChangeAt Go.RowKit Go.Deep

section
variable {H : Type} {enc : TypeId × Value → H} {P : Program} {w : World} {base : Nat} {spare : Nat → Bool} {held : Bool}
def Nd.u64 (x : Nd) : Prop := 0 ≤ x.n ∧ x.n ≤ 18446744073709551615
end
end Go.Proofs.YtikimmgileffgaaGreatDoor
end
/- An argument opened: a struct of two structs of an int, a bool and a uint64. Any program. -/
section
namespace Go.Proofs.YtikimmgileffgaaGreatDoor
open Go.ChangeShapes Go.WideShapes Go.ChangeAt Go.RowKit Go.Deep

section
variable {H : Type} {enc : TypeId × Value → H} {P : Program} {w : World} {base : Nat} {spare : Nat → Bool} {held : Bool}
end
end Go.Proofs.YtikimmgileffgaaGreatDoor
end
/- Arguments opened: patterns of messages, and what holds one. Any program. -/
section
namespace Go.Proofs.YtikimmgileffgaaGreatDoor
open Go.ChangeShapes Go.WideShapes Go.ChangeAt Go.RowKit Go.Deep

section
variable {H : Type} {enc : TypeId × Value → H} {P : Program} {w : World} {base : Nat} {spare : Nat → Bool} {held : Bool}
theorem ints_of {t e : TypeId} {k : IntKind} {fuel : Nat} {v : Value} {x : DataW H × List MemPlace} (ht : P.underlying t = some (.slice e)) (he : P.underlying e = some (.int k)) (hce : P.cellsOf e = 1) (h : DataW.trod enc P w base spare held fuel t [v] = some x) :
    ∃ (A : Option Addr) (c : Nat) (xs : List Int), v = .slice A xs.length c ∧ Holds w A (xs.map (Value.int k)) ∧ xs.length ≤ maxLen ∧ ∀ x ∈ xs, (Lit.int k x).wf = true := by
  rcases open_ints ht he hce h with ⟨hcs, _⟩ | ⟨x, l, c, zs, hcs, _, hl, hm, hz, _, hcell, hwz⟩
  · simp only [List.cons.injEq, and_true] at hcs
    exact ⟨none, 0, [], hcs, .inl rfl, Nat.zero_le _, by simp⟩
  · simp only [List.cons.injEq, and_true] at hcs
    have hlz : l ≤ zs.length := by rw [hz]; split <;> omega
    refine ⟨some x, c, zs.take l, by rw [List.length_take, Nat.min_eq_left hlz]; exact hcs, holds_of_index fun i v hi => ?_, by rw [List.length_take]; omega, fun y hy => hwz y (List.mem_of_mem_take hy)⟩
    rw [List.getElem?_map, List.getElem?_take] at hi
    split at hi
    · have hi2 : i < zs.length := by omega
      have := hcell i hi2
      rw [List.getElem?_eq_getElem hi2] at hi
      simp only [Option.map_some, Option.some.injEq] at hi
      rw [this, ← hi]; simp [List.getD, hi2]
    · simp at hi
theorem intsIn_of {t e : TypeId} {fuel : Nat} {v : Value} {x : DataW H × List MemPlace} (ht : P.underlying t = some (.slice e)) (he : P.underlying e = some (.int .i64)) (hce : P.cellsOf e = 1) (h : DataW.trod enc P w base spare held fuel t [v] = some x) :
    ∃ (A : Option Addr) (c : Nat) (l : List Int), v = .slice A l.length c ∧ IntsIn w (Old w) v l ∧ l.length ≤ maxLen := by
  obtain ⟨A, c, l, h1, h2, h3, -⟩ := ints_of ht he hce h
  exact ⟨A, c, l, h1, ⟨A, c, h1, h2, fun hne a ha => holds_lt h2 (by simpa using hne) a ha⟩, h3⟩
theorem msgs_of {t e q : TypeId} {f0 f1 : Field} {fuel : Nat} {v : Value} {x : DataW H × List MemPlace} (ht : P.underlying t = some (.slice e)) (he : P.underlying e = some (.struct #[f0, f1])) (h0 : P.underlying f0.type = some (.int .i64)) (h1 : P.underlying f1.type = some (.slice q)) (hq : P.underlying q = some (.int .i64)) (hcq : P.cellsOf q = 1)
    (hone : oneCellFields P #[f0, f1] = true) (hC : P.cellsOf e = 2) (h : DataW.trod enc P w base spare held fuel t [v] = some x) :
    ∃ (A : Option Addr) (c : Nat) (l : List Msg), v = .slice A l.length c ∧ MsgsIn w (Old w) A l ∧ l.length ≤ maxLen ∧ ∀ m ∈ l, m.t.length ≤ maxLen := by
  rcases open_slice_fields ht he hone hC h with ⟨hcs, _⟩ | ⟨x, l, c, m, D, Pl, hcs, _, hl, hm, hmm, _, hi⟩
  · simp only [List.cons.injEq, and_true] at hcs
    exact ⟨none, 0, [], hcs, .inl rfl, Nat.zero_le _, by simp⟩
  · simp only [List.cons.injEq, and_true] at hcs
    have hlm : l ≤ m := by rw [hmm]; split <;> omega
    obtain ⟨os, hrl, hr⟩ := list_of_index (n := l) (p := fun i (o : Msg) => w.cell? (x.add (i * 2)) = some (.int .i64 o.frm) ∧ (∃ vt, w.cell? (x.add (i * 2 + 1)) = some vt ∧ IntsIn w (Old w) vt o.t) ∧ o.t.length ≤ maxLen) (fun i hil => by
      obtain ⟨ys, n, _, _, _, hf⟩ := hi i (by omega)
      obtain ⟨v0, y0, hc0, _, ht0⟩ := hf 0 f0 rfl
      obtain ⟨v1, y1, hc1, _, ht1⟩ := hf 1 f1 rfl
      obtain ⟨a, e0, _, _⟩ := DataW.trod_int h0 ht0
      obtain ⟨A1, c1, l1, e1, e2, e3⟩ := intsIn_of h1 hq hcq ht1
      simp only [List.cons.injEq, and_true] at e0
      subst e0
      exact ⟨⟨a, l1⟩, hc0, ⟨v1, hc1, e2⟩, e3⟩)
    refine ⟨some x, c, os, by rw [hrl]; exact hcs, ?_, by omega, fun o ho => ?_⟩
    · match os, hr with
      | [], _ => exact .inl rfl
      | o :: r, hr =>
        have h00 := (hr 0 o rfl).1
        simp only [Addr.add, Nat.zero_mul, if_true] at h00
        obtain ⟨b, off, rfl⟩ := add_of_cell h00
        refine .inr ⟨b, off, rfl, World.block_lt_of_cell? w _ h00, fun i m hm => ?_⟩
        obtain ⟨q1, ⟨vt, q2, q3⟩, _⟩ := hr i m hm
        rw [add_off] at q1 q2
        exact ⟨q1, vt, q2, q3⟩
    · obtain ⟨i, hi1⟩ := List.getElem?_of_mem ho
      exact (hr i o hi1).2.2
theorem fld_of {fs : Array Field} {xs : List (DataW H × List MemPlace)} {i : Nat} {f : Field} (hx : xs.length = fs.size) (hi : fs[i]? = some f) {fuel : Nat} {cs : List Value} (h : DataW.trod enc P w base spare held fuel f.type cs = xs[i]?) : ∃ y, DataW.trod enc P w base spare held fuel f.type cs = some y := by
  have hl : i < xs.length := by rw [hx]; exact (Array.getElem?_eq_some_iff.1 hi).1
  exact ⟨xs[i], by rw [h]; exact List.getElem?_eq_getElem hl⟩
/-- A pattern: its four cells. -/
theorem pat_of {t sl ar ml me : TypeId} {i64 : TypeId} {g0 g1 g2 f0 f1 : Field} {fuel : Nat} {c0 c1 c2 c3 : Value} {x : DataW H × List MemPlace} (hs : P.underlying t = some (.struct #[g0, g1, g2])) (hn : P.underlying g0.type = some .string) (ha : P.underlying g1.type = some (.array 2 sl)) (hsl : P.underlying sl = some (.slice i64)) (hi64 : P.underlying i64 = some (.int .i64)) (hm : P.underlying g2.type = some (.slice me)) (hme : P.underlying me = some (.struct #[f0, f1])) (h0 : P.underlying f0.type = some (.int .i64)) (h1 : P.underlying f1.type = some (.slice i64))
    (hone : oneCellFields P #[f0, f1] = true) (o : (g0.offset, g1.offset, g2.offset, P.cellsOf g0.type, P.cellsOf g1.type, P.cellsOf g2.type, P.cellsOf sl, P.cellsOf i64, P.cellsOf me) = (0, 1, 3, 1, 2, 1, 1, 1, 2)) (h : DataW.trod enc P w base spare held fuel t [c0, c1, c2, c3] = some x) :
    ∃ (p : Pat) (a0 : Option Addr) (n0 : Nat) (a1 : Option Addr) (n1 : Nat) (am : Option Addr) (nm : Nat), c0 = .string (strO p.name) ∧ c1 = .slice a0 p.pre0.length n0 ∧ c2 = .slice a1 p.pre1.length n1 ∧ c3 = .slice am p.msgs.length nm ∧ PatIn w (Old w) (pvx a0 n0 a1 n1 am nm p) p ∧ PatFits p := by
  simp only [Prod.mk.injEq] at o
  obtain ⟨o0, o1, o2, k0, k1, k2, k3, k4, k5⟩ := o
  obtain ⟨y0, y1, y2, n, _, _, t0, t1, t2⟩ := trod_struct3 hs h
  rw [o0, k0] at t0
  rw [o1, k1] at t1
  rw [o2, k2] at t2
  simp only [List.drop_zero, List.drop_succ_cons, List.take_succ_cons, List.take_zero] at t0 t1 t2
  obtain ⟨s, e0, _, hsz⟩ := DataW.trod_string hn t0
  simp only [List.cons.injEq, and_true] at e0
  obtain ⟨ys, m, _, _, _, hy, ty⟩ := DataW.trod_array ha t1
  have ty0 := ty 0 (by decide)
  have ty1 := ty 1 (by decide)
  rw [k3] at ty0 ty1
  simp only [Nat.zero_mul, Nat.one_mul, List.drop_zero, List.drop_succ_cons, List.take_succ_cons, List.take_zero] at ty0 ty1
  rw [List.getElem?_eq_getElem (show 0 < ys.length by omega)] at ty0
  rw [List.getElem?_eq_getElem (show 1 < ys.length by omega)] at ty1
  obtain ⟨a0, n0, l0, u0, v0, w0⟩ := intsIn_of hsl hi64 k4 ty0
  obtain ⟨a1, n1, l1, u1, v1, w1⟩ := intsIn_of hsl hi64 k4 ty1
  obtain ⟨am, nm, lm, um, vm, wm, xm⟩ := msgs_of hm hme h0 h1 hi64 k4 hone k5 t2
  have hmax : maxLen ≤ 9223372036854775807 := by unfold maxLen; omega
  subst u0 u1 um e0
  refine ⟨⟨s.data.toList, l0, l1, lm⟩, a0, n0, a1, n1, am, nm, by rw [strO_toList], rfl, rfl, rfl, ⟨v0, v1, vm⟩, ⟨?_, Nat.le_trans w0 hmax, Nat.le_trans w1 hmax, Nat.le_trans wm hmax, fun m hm => Nat.le_trans (xm m hm) hmax⟩⟩
  have : s.data.toList.length = s.size := Array.length_toList
  show s.data.toList.length ≤ _
  omega
theorem array8 {α : Type} {a : Array α} (h : a.size = 8) : ∃ a0 a1 a2 a3 a4 a5 a6 a7, a = #[a0, a1, a2, a3, a4, a5, a6, a7] := by
  obtain ⟨l⟩ := a
  simp only [List.size_toArray] at h
  match l, h with
  | [a0, a1, a2, a3, a4, a5, a6, a7], _ => exact ⟨a0, a1, a2, a3, a4, a5, a6, a7, rfl⟩
/-- Law 12's argument. -/
theorem open_two {r : Reach} {b0 : Nat} {t sl me i64 u64 : TypeId} {f0 f1 f2 f3 f4 g0 g1 g2 m0 m1 : Field} {v : Value} {d : DataW H} {p : List MemPlace} (ht : P.underlying t = some (.struct #[f0, f1, f2, f3, f4])) (hs : P.underlying f0.type = some (.struct #[g0, g1, g2])) (hn : P.underlying g0.type = some .string) (ha : P.underlying g1.type = some (.array 2 sl)) (hsl : P.underlying sl = some (.slice i64)) (hi64 : P.underlying i64 = some (.int .i64)) (hm : P.underlying g2.type = some (.slice me)) (hme : P.underlying me = some (.struct #[m0, m1])) (h0 : P.underlying m0.type = some (.int .i64)) (h1 : P.underlying m1.type = some (.slice i64))
    (hu : P.underlying f1.type = some (.slice u64)) (hu64 : P.underlying u64 = some (.int .u64)) (h2 : P.underlying f2.type = some (.int .i64)) (h3 : P.underlying f3.type = some (.int .u8)) (h4 : P.underlying f4.type = some (.int .u8))
    (hone : oneCellFields P #[m0, m1] = true) (o : (g0.offset, g1.offset, g2.offset, P.cellsOf g0.type, P.cellsOf g1.type, P.cellsOf g2.type, P.cellsOf sl, P.cellsOf i64, P.cellsOf me) = (0, 1, 3, 1, 2, 1, 1, 1, 2))
    (o' : (P.cellsOf t, f0.offset, f1.offset, f2.offset, f3.offset, f4.offset, P.cellsOf f0.type, P.cellsOf f1.type, P.cellsOf f2.type, P.cellsOf f3.type, P.cellsOf f4.type, P.cellsOf u64) = (8, 0, 4, 5, 6, 7, 4, 1, 1, 1, 1, 1))
    (hv : Value.okWide P w r b0 t v) (h : DataW.Trod enc P w base spare held t v d p) :
    ∃ (p : Pat) (a0 : Option Addr) (c0 : Nat) (a1 : Option Addr) (c1 : Nat) (am : Option Addr) (cm : Nat) (uB : Option Addr) (ud : Nat) (us : List Int) (lim ams chg : Int),
      v = .agg #[.string (strO p.name), .slice a0 p.pre0.length c0, .slice a1 p.pre1.length c1, .slice am p.msgs.length cm, .slice uB us.length ud, .int .i64 lim, .int .u8 ams, .int .u8 chg] ∧ PatIn w (Old w) (pvx a0 c0 a1 c1 am cm p) p ∧ PatFits p ∧ Holds w uB (us.map (Value.int .u64)) ∧ us.length ≤ maxLen ∧ (∀ u ∈ us, 0 ≤ u ∧ u ≤ 18446744073709551615) ∧ (0 ≤ ams ∧ ams ≤ 255) ∧ 0 ≤ chg ∧ chg ≤ 255 := by
  simp only [Prod.mk.injEq] at o'
  obtain ⟨q0, p0, p1, p2, p3, p4, s0, s1, s2, s3, s4, s5⟩ := o'
  obtain ⟨cs, rfl, hsz⟩ := okWide_struct ht hv
  obtain ⟨c0, c1, c2, c3, c4, c5, c6, c7, rfl⟩ := array8 (hsz.trans q0)
  obtain ⟨fuel, hf⟩ := h
  obtain ⟨xs, n, _, _, _, hx, hfs⟩ := DataW.trod_struct ht hf
  have t0 := hfs 0 f0 rfl
  have t1 := hfs 1 f1 rfl
  have t2 := hfs 2 f2 rfl
  have t3 := hfs 3 f3 rfl
  have t4 := hfs 4 f4 rfl
  rw [p0, s0] at t0
  rw [p1, s1] at t1
  rw [p2, s2] at t2
  rw [p3, s3] at t3
  rw [p4, s4] at t4
  simp only [Value.cells, List.drop_zero, List.drop_succ_cons, List.take_succ_cons, List.take_zero] at t0 t1 t2 t3 t4
  obtain ⟨y0, t0⟩ := fld_of (i := 0) hx rfl t0
  obtain ⟨y1, t1⟩ := fld_of (i := 1) hx rfl t1
  obtain ⟨y2, t2⟩ := fld_of (i := 2) hx rfl t2
  obtain ⟨y3, t3⟩ := fld_of (i := 3) hx rfl t3
  obtain ⟨y4, t4⟩ := fld_of (i := 4) hx rfl t4
  obtain ⟨p, a0, n0, a1, n1, am, nm, e0, e1, e2, e3, hp, hfit⟩ := pat_of (ml := g2.type) (ar := g1.type) hs hn ha hsl hi64 hm hme h0 h1 hone o t0
  obtain ⟨uB, ud, us, e4, hU, hul, hus⟩ := ints_of hu hu64 s5 t1
  obtain ⟨lim, e5, _, _⟩ := DataW.trod_int h2 t2
  obtain ⟨ams, e6, _, b6⟩ := DataW.trod_int h3 t3
  obtain ⟨chg, e7, _, b7⟩ := DataW.trod_int h4 t4
  simp only [List.cons.injEq, and_true] at e5 e6 e7
  subst e0 e1 e2 e3 e4 e5 e6 e7
  exact ⟨p, a0, n0, a1, n1, am, nm, uB, ud, us, lim, ams, chg, rfl, hp, hfit, hU, hul, fun u hu => ⟨(bounds_u64 (hus u hu)).1, (bounds_u64 (hus u hu)).2⟩, bounds_u8 b6, bounds_u8 b7⟩
end
end Go.Proofs.YtikimmgileffgaaGreatDoor
end
