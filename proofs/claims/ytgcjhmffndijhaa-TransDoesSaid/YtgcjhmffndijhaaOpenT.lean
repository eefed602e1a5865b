/- An argument opened: a struct of two structs of an int, a bool and a uint64. Any program. -/
import Derived.Test.YtgcjhmffndijhaaOpen5
import Derived.Test.YtgcjhmffndijhaaTra
import Derived.Deep.Strs
namespace Go.Proofs.Ytgcjhmffndijhaa
open Go.ChangeShapes Go.WideShapes Go.ChangeAt Go.RowKit Go.Deep

section
variable {H : Type} {enc : TypeId × Value → H} {P : Program} {w : World} {base : Nat} {spare : Nat → Bool} {held : Bool}
theorem array6 {α : Type} {a : Array α} (h : a.size = 6) : ∃ a0 a1 a2 a3 a4 a5, a = #[a0, a1, a2, a3, a4, a5] := by
  obtain ⟨l⟩ := a
  simp only [List.size_toArray] at h
  match l, h with
  | [a0, a1, a2, a3, a4, a5], _ => exact ⟨a0, a1, a2, a3, a4, a5, rfl⟩
theorem open_cipher {e : TypeId} {g0 g1 g2 : Field} {fuel : Nat} {c0 c1 c2 : Value} {x : DataW H × List MemPlace} (he : P.underlying e = some (.struct #[g0, g1, g2])) (h0 : P.underlying g0.type = some (.int .i64)) (h1 : P.underlying g1.type = some .bool) (h2 : P.underlying g2.type = some (.int .u64))
    (o : (g0.offset, g1.offset, g2.offset, P.cellsOf g0.type, P.cellsOf g1.type, P.cellsOf g2.type) = (0, 1, 2, 1, 1, 1)) (h : DataW.trod enc P w base spare held fuel e [c0, c1, c2] = some x) :
    ∃ (k : Int) (b : Bool) (n : Int), c0 = .int .i64 k ∧ c1 = .bool b ∧ c2 = .int .u64 n ∧ 0 ≤ n ∧ n ≤ 18446744073709551615 := by
  obtain ⟨y0, y1, y2, n, _, _, t0, t1, t2⟩ := trod_struct3 he h
  simp only [Prod.mk.injEq] at o
  obtain ⟨o0, o1, o2, k0, k1, k2⟩ := o
  rw [o0, k0] at t0
  rw [o1, k1] at t1
  rw [o2, k2] at t2
  simp only [List.drop_zero, List.drop_succ_cons, List.take_succ_cons, List.take_zero] at t0 t1 t2
  obtain ⟨a, e0, _, _⟩ := DataW.trod_int h0 t0
  obtain ⟨b, e1, _⟩ := DataW.trod_bool h1 t1
  obtain ⟨c, e2, _, hc⟩ := DataW.trod_int h2 t2
  simp only [List.cons.injEq, and_true] at e0 e1 e2
  exact ⟨a, b, c, e0, e1, e2, (bounds_u64 hc).1, (bounds_u64 hc).2⟩
theorem open_trans {r : Reach} {b0 : Nat} {t e : TypeId} {f0 f1 g0 g1 g2 : Field} {v : Value} {d : DataW H} {p : List MemPlace} (hs : P.underlying t = some (.struct #[f0, f1])) (e0 : f0.type = e) (e1 : f1.type = e) (he : P.underlying e = some (.struct #[g0, g1, g2])) (h0 : P.underlying g0.type = some (.int .i64)) (h1 : P.underlying g1.type = some .bool) (h2 : P.underlying g2.type = some (.int .u64))
    (o : (g0.offset, g1.offset, g2.offset, P.cellsOf g0.type, P.cellsOf g1.type, P.cellsOf g2.type) = (0, 1, 2, 1, 1, 1)) (o' : (f0.offset, f1.offset, P.cellsOf t, P.cellsOf e) = (0, 3, 6, 3))
    (hv : Value.okWide P w r b0 t v) (h : DataW.Trod enc P w base spare held t v d p) :
    ∃ T : Tr, v = T.val ∧ (0 ≤ T.send.n ∧ T.send.n ≤ 18446744073709551615) ∧ (0 ≤ T.recv.n ∧ T.recv.n ≤ 18446744073709551615) := by
  simp only [Prod.mk.injEq] at o'
  obtain ⟨p0, p1, p2, p3⟩ := o'
  obtain ⟨cs, rfl, hsz⟩ := okWide_struct hs hv
  obtain ⟨c0, c1, c2, c3, c4, c5, rfl⟩ := array6 (hsz.trans p2)
  obtain ⟨fuel, hf⟩ := h
  obtain ⟨y0, y1, n, _, _, t0, t1⟩ := trod_struct2 hs hf
  rw [e0, p0, p3] at t0
  rw [e1, p1, p3] at t1
  simp only [Value.cells, List.drop_zero, List.drop_succ_cons, List.take_succ_cons, List.take_zero] at t0 t1
  obtain ⟨k1, b1, n1, rfl, rfl, rfl, u1, u2⟩ := open_cipher he h0 h1 h2 o t0
  obtain ⟨k2, b2, n2, rfl, rfl, rfl, u3, u4⟩ := open_cipher he h0 h1 h2 o t1
  exact ⟨⟨⟨k1, b1, n1⟩, ⟨k2, b2, n2⟩⟩, rfl, ⟨u1, u2⟩, ⟨u3, u4⟩⟩
end
end Go.Proofs.Ytgcjhmffndijhaa
