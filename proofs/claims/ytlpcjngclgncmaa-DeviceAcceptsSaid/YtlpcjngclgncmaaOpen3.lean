/- Arguments opened: a slice of structs of three ints, as the cells that it holds. Any program. -/
import Derived.Test.YtlpcjngclgncmaaOpen
namespace Go.Proofs.Ytlpcjngclgncmaa
open Go.ChangeShapes Go.WideShapes Go.ChangeAt Go.RowKit Go.Deep

section
variable {H : Type} {enc : TypeId × Value → H} {P : Program} {w : World} {base : Nat} {spare : Nat → Bool} {held : Bool}
/-- Three ints. -/
def three (o : Int × Int × Int) : List Value := [.int .i64 o.1, .int .i64 o.2.1, .int .i64 o.2.2]
theorem open_threes_holds {t e : TypeId} {f0 f1 f2 : Field} {r : Reach} {b0 : Nat} {v : Value} {d : DataW H} {p : List MemPlace} (ht : P.underlying t = some (.slice e)) (he : P.underlying e = some (.struct #[f0, f1, f2])) (h0 : P.underlying f0.type = some (.int .i64)) (h1 : P.underlying f1.type = some (.int .i64)) (h2 : P.underlying f2.type = some (.int .i64))
    (hone : oneCellFields P #[f0, f1, f2] = true) (hC : P.cellsOf e = 3) (hv : Value.okWide P w r b0 t v) (h : DataW.Trod enc P w base spare held t v d p) :
    ∃ (A : Option Addr) (c : Nat) (os : List (Int × Int × Int)), v = .slice A os.length c ∧ Holds w A (os.flatMap three) ∧ os.length ≤ maxLen := by
  obtain ⟨a0, len, cap, rfl⟩ := okWide_slice ht hv
  obtain ⟨fuel, hfu⟩ := h
  rcases open_slice_fields ht he hone hC hfu with ⟨hcs, _⟩ | ⟨x, l, c, m, D, Pl, hcs, _, hl, hm, hmm, _, hi⟩
  · simp [Value.cells] at hcs
    obtain ⟨rfl, rfl, rfl⟩ := hcs
    exact ⟨none, 0, [], rfl, .inl rfl, Nat.zero_le _⟩
  · simp [Value.cells] at hcs
    obtain ⟨rfl, rfl, rfl⟩ := hcs
    have hlm : len ≤ m := by rw [hmm]; split <;> omega
    obtain ⟨os, hrl, hr⟩ := list_of_index (n := len) (p := fun i (o : Int × Int × Int) => w.cell? (x.add (i * 3)) = some (.int .i64 o.1) ∧ w.cell? (x.add (i * 3 + 1)) = some (.int .i64 o.2.1) ∧ w.cell? (x.add (i * 3 + 2)) = some (.int .i64 o.2.2)) (fun i hil => by
      obtain ⟨ys, n, _, _, _, hf⟩ := hi i (by omega)
      obtain ⟨v0, y0, hc0, _, ht0⟩ := hf 0 f0 rfl
      obtain ⟨v1, y1, hc1, _, ht1⟩ := hf 1 f1 rfl
      obtain ⟨v2, y2, hc2, _, ht2⟩ := hf 2 f2 rfl
      obtain ⟨a, e0, _, _⟩ := DataW.trod_int h0 ht0
      obtain ⟨b, e1, _, _⟩ := DataW.trod_int h1 ht1
      obtain ⟨c, e2, _, _⟩ := DataW.trod_int h2 ht2
      simp only [List.cons.injEq, and_true] at e0 e1 e2
      subst e0 e1 e2
      exact ⟨(a, b, c), hc0, hc1, hc2⟩)
    refine ⟨some x, cap, os, by rw [hrl], holds_of_index fun i v hv => ?_, by omega⟩
    rw [flatMap_at three 3 (by decide) (fun _ => rfl)] at hv
    obtain ⟨o, ho, hv⟩ := Option.bind_eq_some_iff.1 hv
    obtain ⟨hc0, hc1, hc2⟩ := hr _ o ho
    have hm3 : i % 3 = 0 ∨ i % 3 = 1 ∨ i % 3 = 2 := by omega
    rcases hm3 with h | h | h
    · rw [h] at hv
      simp [three] at hv
      subst hv
      rw [← hc0]; congr 2; omega
    · rw [h] at hv
      simp [three] at hv
      subst hv
      rw [← hc1]; congr 2; omega
    · rw [h] at hv
      simp [three] at hv
      subst hv
      rw [← hc2]; congr 2; omega
/-- The cells of the k-th one. -/
theorem three_at {A : Option Addr} {os : List (Int × Int × Int)} (h : Holds w A (os.flatMap three)) {k : Nat} {o : Int × Int × Int} (hk : os[k]? = some o) :
    ∃ b f, A = some ⟨b, f, none⟩ ∧ w.cell? ⟨b, f + k * 3, none⟩ = some (.int .i64 o.1) ∧ w.cell? ⟨b, f + k * 3 + 1, none⟩ = some (.int .i64 o.2.1) ∧ w.cell? ⟨b, f + k * 3 + 2, none⟩ = some (.int .i64 o.2.2) := by
  have at_ : ∀ j u, (three o)[j]? = some u → (os.flatMap three)[k * 3 + j]? = some u := fun j u hj => by
    have hj5 : j < 3 := (List.getElem?_eq_some_iff.1 hj).1
    rw [flatMap_at three 3 (by decide) (fun _ => rfl), show (k * 3 + j) / 3 = k by omega, show (k * 3 + j) % 3 = j by omega, hk]
    exact hj
  rcases h with h | ⟨b, f, rfl, h⟩
  · have := at_ 0 _ rfl
    rw [h] at this; simp at this
  · exact ⟨b, f, rfl, h _ _ (at_ 0 _ rfl), h _ _ (at_ 1 _ rfl), h _ _ (at_ 2 _ rfl)⟩
end
end Go.Proofs.Ytlpcjngclgncmaa
