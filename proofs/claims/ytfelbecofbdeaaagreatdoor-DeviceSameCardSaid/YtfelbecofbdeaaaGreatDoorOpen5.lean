/- Arguments opened: a slice of nodes, as the cells that it holds. Any program. -/
import Derived.Test.YtfelbecofbdeaaaGreatDoorOpen
import Derived.Test.YtfelbecofbdeaaaGreatDoorAr
namespace Go.Proofs.YtfelbecofbdeaaaGreatDoor
open Go.ChangeShapes Go.WideShapes Go.ChangeAt Go.RowKit Go.Deep

section
variable {H : Type} {enc : TypeId × Value → H} {P : Program} {w : World} {base : Nat} {spare : Nat → Bool} {held : Bool}
def Nd.u64 (x : Nd) : Prop := 0 ≤ x.n ∧ x.n ≤ 18446744073709551615
theorem open_nodes_holds {t e : TypeId} {f0 f1 f2 f3 f4 : Field} {r : Reach} {b0 : Nat} {v : Value} {d : DataW H} {p : List MemPlace} (ht : P.underlying t = some (.slice e)) (he : P.underlying e = some (.struct #[f0, f1, f2, f3, f4])) (h0 : P.underlying f0.type = some (.int .i64)) (h1 : P.underlying f1.type = some (.int .u64)) (h2 : P.underlying f2.type = some (.int .i64)) (h3 : P.underlying f3.type = some (.int .i64)) (h4 : P.underlying f4.type = some (.int .i64))
    (hone : oneCellFields P #[f0, f1, f2, f3, f4] = true) (hC : P.cellsOf e = 5) (hv : Value.okWide P w r b0 t v) (h : DataW.Trod enc P w base spare held t v d p) :
    ∃ (A : Option Addr) (c : Nat) (xs : List Nd), v = .slice A xs.length c ∧ Holds w A (xs.flatMap Nd.cells) ∧ xs.length ≤ maxLen ∧ ∀ x ∈ xs, x.u64 := by
  obtain ⟨a0, len, cap, rfl⟩ := okWide_slice ht hv
  obtain ⟨fuel, hfu⟩ := h
  rcases open_slice_fields ht he hone hC hfu with ⟨hcs, _⟩ | ⟨x, l, c, m, D, Pl, hcs, _, hl, hm, hmm, _, hi⟩
  · simp [Value.cells] at hcs
    obtain ⟨rfl, rfl, rfl⟩ := hcs
    exact ⟨none, 0, [], rfl, .inl rfl, Nat.zero_le _, by simp⟩
  · simp [Value.cells] at hcs
    obtain ⟨rfl, rfl, rfl⟩ := hcs
    have hlm : len ≤ m := by rw [hmm]; split <;> omega
    obtain ⟨os, hrl, hr⟩ := list_of_index (n := len) (p := fun i (o : Nd) => (w.cell? (x.add (i * 5)) = some (.int .i64 o.kind) ∧ w.cell? (x.add (i * 5 + 1)) = some (.int .u64 o.n) ∧ w.cell? (x.add (i * 5 + 2)) = some (.int .i64 o.a) ∧ w.cell? (x.add (i * 5 + 3)) = some (.int .i64 o.b) ∧ w.cell? (x.add (i * 5 + 4)) = some (.int .i64 o.c)) ∧ o.u64) (fun i hil => by
      obtain ⟨ys, n, _, _, _, hf⟩ := hi i (by omega)
      obtain ⟨v0, y0, hc0, _, ht0⟩ := hf 0 f0 rfl
      obtain ⟨v1, y1, hc1, _, ht1⟩ := hf 1 f1 rfl
      obtain ⟨v2, y2, hc2, _, ht2⟩ := hf 2 f2 rfl
      obtain ⟨v3, y3, hc3, _, ht3⟩ := hf 3 f3 rfl
      obtain ⟨v4, y4, hc4, _, ht4⟩ := hf 4 f4 rfl
      obtain ⟨a, e0, _, _⟩ := DataW.trod_int h0 ht0
      obtain ⟨b, e1, _, hb⟩ := DataW.trod_int h1 ht1
      obtain ⟨c, e2, _, _⟩ := DataW.trod_int h2 ht2
      obtain ⟨d, e3, _, _⟩ := DataW.trod_int h3 ht3
      obtain ⟨e, e4, _, _⟩ := DataW.trod_int h4 ht4
      simp only [List.cons.injEq, and_true] at e0 e1 e2 e3 e4
      subst e0 e1 e2 e3 e4
      exact ⟨⟨a, b, c, d, e⟩, ⟨hc0, hc1, hc2, hc3, hc4⟩, bounds_u64 hb⟩)
    refine ⟨some x, cap, os, by rw [hrl], holds_of_index fun i v hv => ?_, by omega, fun o ho => ?_⟩
    · rw [flatMap_at Nd.cells 5 (by decide) (fun _ => rfl)] at hv
      obtain ⟨o, ho, hv⟩ := Option.bind_eq_some_iff.1 hv
      obtain ⟨⟨hc0, hc1, hc2, hc3, hc4⟩, _⟩ := hr _ o ho
      have hm5 : i % 5 = 0 ∨ i % 5 = 1 ∨ i % 5 = 2 ∨ i % 5 = 3 ∨ i % 5 = 4 := by omega
      rcases hm5 with h | h | h | h | h
      · rw [h] at hv; simp [Nd.cells] at hv; subst hv; rw [← hc0]; congr 2; omega
      · rw [h] at hv; simp [Nd.cells] at hv; subst hv; rw [← hc1]; congr 2; omega
      · rw [h] at hv; simp [Nd.cells] at hv; subst hv; rw [← hc2]; congr 2; omega
      · rw [h] at hv; simp [Nd.cells] at hv; subst hv; rw [← hc3]; congr 2; omega
      · rw [h] at hv; simp [Nd.cells] at hv; subst hv; rw [← hc4]; congr 2; omega
    · obtain ⟨i, hi⟩ := List.getElem?_of_mem ho
      exact (hr i o hi).2
/-- The cells of the k-th one. -/
theorem node_at {A : Option Addr} {xs : List Nd} (h : Holds w A (xs.flatMap Nd.cells)) {k : Nat} {x : Nd} (hk : xs[k]? = some x) :
    ∃ b f, A = some ⟨b, f, none⟩ ∧ w.cell? ⟨b, f + k * 5, none⟩ = some (.int .i64 x.kind) ∧ w.cell? ⟨b, f + k * 5 + 1, none⟩ = some (.int .u64 x.n) ∧ w.cell? ⟨b, f + k * 5 + 2, none⟩ = some (.int .i64 x.a) ∧ w.cell? ⟨b, f + k * 5 + 3, none⟩ = some (.int .i64 x.b) ∧ w.cell? ⟨b, f + k * 5 + 4, none⟩ = some (.int .i64 x.c) := by
  have at_ : ∀ j u, x.cells[j]? = some u → (xs.flatMap Nd.cells)[k * 5 + j]? = some u := fun j u hj => by
    have hj5 : j < 5 := (List.getElem?_eq_some_iff.1 hj).1
    rw [flatMap_at Nd.cells 5 (by decide) (fun _ => rfl), show (k * 5 + j) / 5 = k by omega, show (k * 5 + j) % 5 = j by omega, hk]
    exact hj
  rcases h with h | ⟨b, f, rfl, h⟩
  · have := at_ 0 _ rfl
    rw [h] at this; simp at this
  · exact ⟨b, f, rfl, h _ _ (at_ 0 _ rfl), h _ _ (at_ 1 _ rfl), h _ _ (at_ 2 _ rfl), h _ _ (at_ 3 _ rfl), h _ _ (at_ 4 _ rfl)⟩
end
end Go.Proofs.YtfelbecofbdeaaaGreatDoor
