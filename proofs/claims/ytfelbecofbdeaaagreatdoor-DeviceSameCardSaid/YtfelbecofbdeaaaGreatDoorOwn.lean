/- What a law has made so far: a list of things in memory, each in blocks of its own, none of which were there ahead of it. A call changes one of them; all others stay. -/
import Derived.Test.YtfelbecofbdeaaaGreatDoorLib
namespace Go.Proofs.YtfelbecofbdeaaaGreatDoor
open Go.RowKit

/-- Something that lies in the blocks of a set, and stays as it is while these do. -/
structure Thing where
  P : World → (Nat → Prop) → Prop
  lt : ∀ w S, P w S → ∀ b, S b → b < w.heap.size
  keep : ∀ w w' S T, P w S → Upd T w w' → (∀ b, S b → ¬ T b) → P w' S

def blk (b : Nat) (o : Obj) : Thing where
  P w S := w.heap[b]? = some o ∧ ∀ k, S k ↔ k = b
  lt w S h k hk := by rw [h.2] at hk; subst hk; exact lt_of_heap h.1
  keep w w' S T h u hd := ⟨u.heap h.1 (hd b ((h.2 b).2 rfl)), h.2⟩
def Own (w0 w : World) (L : List Thing) : Prop :=
  Below w0.heap.size w0 w ∧ ∃ f : Nat → Nat → Prop, (∀ (i : Nat) P, L[i]? = some P → P.P w (f i)) ∧ (∀ i j b, i < L.length → j < L.length → f i b → f j b → i = j) ∧ ∀ i b, i < L.length → f i b → w0.heap.size ≤ b

theorem idx_lt {α : Type} {L : List α} {i : Nat} {x : α} (h : L[i]? = some x) : i < L.length := (List.getElem?_eq_some_iff.1 h).1
theorem Own.start (w0 : World) : Own w0 w0 [] := ⟨Below.refl _ _, fun _ _ => False, fun i P h => by simp at h, fun i j b hi => by simp at hi, fun i b hi => by simp at hi⟩
theorem Own.below {w0 w : World} {L : List Thing} (h : Own w0 w L) : Below w0.heap.size w0 w := h.1
theorem Own.size {w0 w : World} {L : List Thing} (h : Own w0 w L) : w0.heap.size ≤ w.heap.size := h.1.size
/-- What is at i. -/
theorem Own.at {w0 w : World} {L : List Thing} {i : Nat} {P : Thing} (h : Own w0 w L) (hi : L[i]? = some P) : ∃ S, P.P w S ∧ ∀ b, S b → w0.heap.size ≤ b := by
  obtain ⟨_, f, h1, _, h3⟩ := h
  exact ⟨f i, h1 i P hi, fun b hb => h3 i b (idx_lt hi) hb⟩
theorem Own.blk {w0 w : World} {L : List Thing} {i : Nat} {b : Nat} {o : Obj} (h : Own w0 w L) (hi : L[i]? = some (blk b o)) : w.heap[b]? = some o := by
  obtain ⟨S, h1, _⟩ := h.at hi; exact h1.1
theorem Own.blk_le {w0 w : World} {L : List Thing} {i : Nat} {b : Nat} {o : Obj} (h : Own w0 w L) (hi : L[i]? = some (Go.Proofs.YtfelbecofbdeaaaGreatDoor.blk b o)) : w0.heap.size ≤ b := by
  obtain ⟨S, h1, h2⟩ := h.at hi; exact h2 b ((h1.2 b).2 rfl)
/-- What is at i changes; it may be another thing then. -/
theorem Own.upd {w0 w : World} {L : List Thing} {i : Nat} {P : Thing} (h : Own w0 w L) (hi : L[i]? = some P) :
    ∃ S, P.P w S ∧ ∀ w' Q S', Upd S w w' → Q.P w' S' → (∀ b, S' b → S b ∨ w.heap.size ≤ b) → Own w0 w' (L.set i Q) := by
  obtain ⟨hb, f, h1, h2, h3⟩ := h
  have hil := idx_lt hi
  refine ⟨f i, h1 i P hi, fun w' Q S' hu hq hs => ⟨⟨hu.os.trans hb.os, hu.tape.trans hb.tape, hu.output.trans hb.output, Nat.le_trans hb.size hu.size, fun k hk => ?_⟩, fun j => if j = i then S' else f j, ?_, ?_, ?_⟩⟩
  · rw [hu.block k (Nat.lt_of_lt_of_le hk hb.size) (fun hf => by have := h3 i k hil hf; omega)]
    exact hb.block k hk
  · intro j R hj
    rw [List.getElem?_set] at hj
    by_cases e : i = j
    · subst e
      simp only [if_true] at hj ⊢
      rw [if_pos hil] at hj
      cases hj; exact hq
    · simp only [if_neg e] at hj
      simp only [if_neg (Ne.symm e)]
      refine R.keep _ _ _ _ (h1 j R hj) hu (fun b hjb hib => e (h2 i j b hil (idx_lt hj) hib hjb))
  · intro j k b hj hk hfj hfk
    simp only [List.length_set] at hj hk
    by_cases e1 : j = i <;> by_cases e2 : k = i
    · omega
    · subst e1
      simp only [if_true] at hfj
      simp only [if_neg e2] at hfk
      rcases hs b hfj with hc | hc
      · exact h2 _ _ b hil hk hc hfk
      · obtain ⟨R, hR⟩ : ∃ R, L[k]? = some R := ⟨_, List.getElem?_eq_getElem hk⟩
        have := R.lt _ _ (h1 k R hR) b hfk
        omega
    · subst e2
      simp only [if_true] at hfk
      simp only [if_neg e1] at hfj
      rcases hs b hfk with hc | hc
      · exact h2 _ _ b hj hil hfj hc
      · obtain ⟨R, hR⟩ : ∃ R, L[j]? = some R := ⟨_, List.getElem?_eq_getElem hj⟩
        have := R.lt _ _ (h1 j R hR) b hfj
        omega
    · simp only [if_neg e1] at hfj
      simp only [if_neg e2] at hfk
      exact h2 _ _ b hj hk hfj hfk
  · intro j b hj hf
    simp only [List.length_set] at hj
    by_cases e : j = i
    · subst e
      simp only [if_true] at hf
      rcases hs b hf with hc | hc
      · exact h3 _ b hil hc
      · have := hb.size; omega
    · simp only [if_neg e] at hf
      exact h3 j b hj hf
/-- A call that changes nothing of what was there, and makes a thing. -/
theorem Own.new {w0 w w' : World} {L : List Thing} (h : Own w0 w L) (hu : Below w.heap.size w w') {Q : Thing} {S : Nat → Prop} (hq : Q.P w' S) (hs : ∀ b, S b → w.heap.size ≤ b) : Own w0 w' (Q :: L) := by
  obtain ⟨hb, f, h1, h2, h3⟩ := h
  refine ⟨hb.trans (hu.mono hb.size), fun j => match j with | 0 => S | k + 1 => f k, ?_, ?_, ?_⟩
  · intro j R hj
    match j, hj with
    | 0, hj => cases hj; exact hq
    | k + 1, hj => exact R.keep _ _ _ _ (h1 k R (by simpa using hj)) (Upd.of_below (S := None) hu) (fun _ _ h => h)
  · intro j k b hj hk hfj hfk
    match j, k, hj, hk, hfj, hfk with
    | 0, 0, _, _, _, _ => rfl
    | 0, k + 1, _, hk, hfj, hfk =>
      have hk' : k < L.length := by simpa using hk
      obtain ⟨R, hR⟩ : ∃ R, L[k]? = some R := ⟨_, List.getElem?_eq_getElem hk'⟩
      have := R.lt _ _ (h1 k R hR) b hfk
      have := hs b hfj
      omega
    | j + 1, 0, hj, _, hfj, hfk =>
      have hj' : j < L.length := by simpa using hj
      obtain ⟨R, hR⟩ : ∃ R, L[j]? = some R := ⟨_, List.getElem?_eq_getElem hj'⟩
      have := R.lt _ _ (h1 j R hR) b hfj
      have := hs b hfk
      omega
    | j + 1, k + 1, hj, hk, hfj, hfk => have := h2 j k b (by simpa using hj) (by simpa using hk) hfj hfk; omega
  · intro j b hj hf
    match j, hj, hf with
    | 0, _, hf => have := hs b hf; have := hb.size; omega
    | k + 1, hj, hf => exact h3 k b (by simpa using hj) hf
theorem Own.call {w0 w w' : World} {L : List Thing} (h : Own w0 w L) (hu : Below w.heap.size w w') : Own w0 w' L := by
  obtain ⟨hb, f, h1, h2, h3⟩ := h
  exact ⟨hb.trans (hu.mono hb.size), f, fun j R hj => R.keep _ _ _ _ (h1 j R hj) (Upd.of_below (S := None) hu) (fun _ _ h => h), h2, h3⟩
theorem Own.drew {w0 w : World} {L : List Thing} (h : Own w0 w L) : Own w0 w.drew L := h.call ((Below.refl _ _).drew)
theorem Own.alloc {w0 w : World} {L : List Thing} (h : Own w0 w L) (o : Obj) : Own w0 (w.alloc o) (Go.Proofs.YtfelbecofbdeaaaGreatDoor.blk w.heap.size o :: L) :=
  h.new ((Below.refl _ _).alloc (Nat.le_refl _) o) (Q := Go.Proofs.YtfelbecofbdeaaaGreatDoor.blk w.heap.size o) (S := One w.heap.size) ⟨new_at rfl, fun _ => Iff.rfl⟩ (fun b hb => by unfold One at hb; omega)
theorem Own.tail {w0 w : World} {P : Thing} {L : List Thing} (h : Own w0 w (P :: L)) : Own w0 w L := by
  obtain ⟨hb, f, h1, h2, h3⟩ := h
  exact ⟨hb, fun j => f (j + 1), fun j R hj => h1 (j + 1) R (by simpa using hj), fun j k b hj hk h h' => by have := h2 (j + 1) (k + 1) b (by simpa using hj) (by simpa using hk) h h'; omega, fun j b hj hf => h3 (j + 1) b (by simpa using hj) hf⟩
/-- The blocks of two things are not the same. -/
theorem Own.ne {w0 w : World} {L : List Thing} {i j : Nat} {b c : Nat} {o o' : Obj} (h : Own w0 w L) (hi : L[i]? = some (Go.Proofs.YtfelbecofbdeaaaGreatDoor.blk b o)) (hj : L[j]? = some (Go.Proofs.YtfelbecofbdeaaaGreatDoor.blk c o')) (hne : i ≠ j) : b ≠ c := by
  obtain ⟨hb, f, h1, h2, h3⟩ := h
  rintro rfl
  exact hne (h2 i j b (idx_lt hi) (idx_lt hj) (((h1 i _ hi).2 b).2 rfl) (((h1 j _ hj).2 b).2 rfl))
/-- A block is written. -/
theorem Own.store {w0 w w' : World} {L : List Thing} {i : Nat} {b : Nat} {o o' : Obj} (h : Own w0 w L) (hi : L[i]? = some (Go.Proofs.YtfelbecofbdeaaaGreatDoor.blk b o)) (hu : Upd (One b) w w') (ho : w'.heap[b]? = some o') : Own w0 w' (L.set i (Go.Proofs.YtfelbecofbdeaaaGreatDoor.blk b o')) := by
  obtain ⟨S, hp, hk⟩ := h.upd hi
  refine hk w' (Go.Proofs.YtfelbecofbdeaaaGreatDoor.blk b o') S (hu.mono fun k _ e => ?_) ⟨ho, hp.2⟩ (fun _ h => .inl h)
  exact (hp.2 k).2 e
end Go.Proofs.YtfelbecofbdeaaaGreatDoor
