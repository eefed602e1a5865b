/- A map among the things that a law has made; things in another order; a row's blocks are new. Any program. -/
import Derived.Test.YtfelbecofbdeaaaGreatDoorOwnR
import Derived.Test.YtfelbecofbdeaaaGreatDoorMaps
namespace Go.Proofs.YtfelbecofbdeaaaGreatDoor
open Go.RowKit

def mapT {α : Type} (enc : α → Value) (bm : Nat) (l : List (α × Value)) : Thing where
  P w S := MapIs enc w bm l ∧ ∀ k, S k ↔ k = bm
  lt w S h k hk := by rw [h.2] at hk; subst hk; exact h.1.lt
  keep w w' S T h u hd := ⟨h.1.upd u (hd bm ((h.2 bm).2 rfl)), h.2⟩
/-- Some of the things, in another order. -/
theorem Own.pull {w0 w : World} {L L' : List Thing} (h : Own w0 w L) (σ : Nat → Nat) (hσ : ∀ (i : Nat) P, L'[i]? = some P → L[σ i]? = some P) (hinj : ∀ i j, i < L'.length → j < L'.length → σ i = σ j → i = j) : Own w0 w L' := by
  obtain ⟨hb, f, h1, h2, h3⟩ := h
  have hl : ∀ i, i < L'.length → σ i < L.length := fun i hi => idx_lt (hσ i _ (List.getElem?_eq_getElem hi))
  exact ⟨hb, fun i => f (σ i), fun i P hP => h1 _ P (hσ i P hP), fun i j b hi hj hfi hfj => hinj i j hi hj (h2 _ _ b (hl i hi) (hl j hj) hfi hfj), fun i b hi hf => h3 _ b (hl i hi) hf⟩
theorem Own.map {α : Type} {enc : α → Value} {w0 w : World} {L : List Thing} {i bm : Nat} {l : List (α × Value)} (h : Own w0 w L) (hi : L[i]? = some (mapT enc bm l)) : MapIs enc w bm l := by
  obtain ⟨S, h1, _⟩ := h.at hi; exact h1.1
theorem Own.newMap {α : Type} {enc : α → Value} {w0 w : World} {L : List Thing} (h : Own w0 w L) : Own w0 (w.alloc (.map #[] 0)) (mapT enc w.heap.size [] :: L) :=
  h.new ((Below.refl _ _).alloc (Nat.le_refl _) _) (Q := mapT enc w.heap.size []) (S := One w.heap.size) ⟨⟨#[], 0, new_at rfl, rfl⟩, fun _ => Iff.rfl⟩ (fun b hb => by unfold One at hb; omega)
theorem Own.mapSet {α : Type} {enc : α → Value} {w0 w w' : World} {L : List Thing} {i bm : Nat} {l l' : List (α × Value)} (h : Own w0 w L) (hi : L[i]? = some (mapT enc bm l)) (hm : MapIs enc w' bm l') (hu : Upd (One bm) w w') : Own w0 w' (L.set i (mapT enc bm l')) := by
  obtain ⟨S, hp, hk⟩ := h.upd hi
  exact hk w' (mapT enc bm l') S (hu.mono fun k _ e => (hp.2 k).2 e) ⟨hm, hp.2⟩ (fun _ h => .inl h)
/-- 'm[k] = v' in a region without a draw. -/
theorem wpList_omap {P : Program} {α : Type} [DecidableEq α] {enc : α → Value} {K E T : TypeId} {w0 w : World} {L : List Thing} {ops : Array Oper} {rest : List Oper} {o : Oper} {a : Act} {Q : Exit → Act → World → Prop} (hO : Own w0 w L) (hk : KeyOk P K enc) (hT : P.underlying T = some (.map K E)) (hgd : o.guard = none) (m k x : Operand) (ho : o.op = .mapUpdate T m k x) (hdst : o.dst = none)
    (i : Nat) {bm : Nat} {l : List (α × Value)} (hi : L[i]? = some (mapT enc bm l)) (key : α) (v : Value) (hm : a.eval m = .map (some bm)) (hke : a.eval k = enc key) (hv : a.eval x = v)
    (h : ∀ w', Own w0 w' (L.set i (mapT enc bm (setL key v l))) → w'.heap.size = w.heap.size → Upd (One bm) w w' → wpList P ops Q rest a w') : wpList P ops Q (o :: rest) a w :=
  wpList_mapUpdate hk hT hgd m k x ho hdst key v hm hke hv (hO.map hi) fun w' h1 h2 h3 => h w' (hO.mapSet hi h1 h2) h3 h2
theorem Own.rowBase {w0 w : World} {L : List Thing} {i : Nat} {e : TypeId} {size n : Nat} {v : Value} {xs : List Value} (h : Own w0 w L) (hi : L[i]? = some (rowT e size v n xs)) : w.ownsRow w0.heap.size e size v n xs := by
  obtain ⟨S, h1, h2⟩ := h.at hi
  refine ⟨h1.1.1, ?_⟩
  rcases h1.1.2 with hn | ⟨g, cap, cur, rfl, hb, rest⟩
  · exact .inl hn
  · exact .inr ⟨g, cap, cur, rfl, h2 g ((h1.2 g).2 rfl), rest⟩
/-- The first thing is put behind n others. -/
theorem Own.sink (n : Nat) {w0 w : World} {L L' : List Thing} (h : Own w0 w L) (h1 : ∀ i, i < n → L'[i]? = L[i + 1]?) (h2 : L'[n]? = L[0]?) (h3 : ∀ i, n < i → L'[i]? = L[i]?) : Own w0 w L' := by
  refine h.pull (fun i => if i < n then i + 1 else if i = n then 0 else i) (fun i P hP => ?_) (fun i j hi hj hij => ?_)
  · by_cases a : i < n
    · rw [if_pos a, ← h1 i a]; exact hP
    · rw [if_neg a]
      by_cases b : i = n
      · rw [if_pos b]; subst b; rw [← h2]; exact hP
      · rw [if_neg b, ← h3 i (by omega)]; exact hP
  ·
    by_cases a : i < n <;> by_cases b : j < n <;> simp only [a, b, if_true, if_false] at hij
    · omega
    · split at hij <;> omega
    · split at hij <;> omega
    · split at hij <;> split at hij <;> omega
/-- The n-th thing is left out. -/
theorem Own.drop (n : Nat) {w0 w : World} {L L' : List Thing} (h : Own w0 w L) (h1 : ∀ i, i < n → L'[i]? = L[i]?) (h2 : ∀ i, n ≤ i → L'[i]? = L[i + 1]?) : Own w0 w L' := by
  refine h.pull (fun i => if i < n then i else i + 1) (fun i P hP => ?_) (fun i j hi hj hij => ?_)
  · by_cases a : i < n
    · rw [if_pos a, ← h1 i a]; exact hP
    · rw [if_neg a, ← h2 i (by omega)]; exact hP
  ·
    by_cases a : i < n <;> by_cases b : j < n <;> simp only [a, b, if_true, if_false] at hij <;> omega
/-- The things at such places, in such an order. -/
theorem Own.pick {w0 w : World} {L L' : List Thing} (h : Own w0 w L) (is : List Nat) (hp : is.map (fun j => L[j]?) = L'.map some) (hn : is.Nodup := by decide) : Own w0 w L' := by
  have hlen : is.length = L'.length := by have := congrArg List.length hp; simpa using this
  have hat : ∀ (i : Nat) P, L'[i]? = some P → L[is.getD i 0]? = some P := fun i P hP => by
    have h1 : (L'.map some)[i]? = some (some P) := by rw [List.getElem?_map, hP]; rfl
    rw [← hp, List.getElem?_map] at h1
    cases hi : is[i]? with
    | none => rw [hi] at h1; cases h1
    | some j => rw [hi] at h1; simp [List.getD, hi]; simpa using h1
  refine h.pull (fun i => is.getD i 0) hat (fun i j hi hj hij => ?_)
  rw [← hlen] at hi hj
  refine (List.getElem?_inj hi hn).1 ?_
  rw [List.getElem?_eq_getElem hi, List.getElem?_eq_getElem hj]
  simpa [List.getD, hi, hj] using hij
/-- A set of ints, as a map's entries. -/
def encB (hs : List Int) : List (Int × Value) := hs.map fun y => (y, .bool true)
def keyI (n : Int) : Value := .int .i64 n
theorem findL_encB (x : Int) : ∀ (hs : List Int) (i : Nat), ((findL x (encB hs) i).map (·.2)).getD (.bool false) = .bool (decide (x ∈ hs))
  | [], i => by simp [encB, findL]
  | y :: hs, i => by
    show ((findL x ((y, .bool true) :: encB hs) i).map (·.2)).getD (.bool false) = _
    unfold findL
    by_cases h : x = y
    · simp [h]
    · rw [if_neg h, findL_encB x hs (i + 1)]; simp [h]
theorem setL_encB {x : Int} {hs : List Int} (h : x ∉ hs) : setL x (.bool true) (encB hs) = encB (hs ++ [x]) := by
  have : findL x (encB hs) 0 = none := by
    rw [findL_none]; intro p hp e
    simp only [encB, List.mem_map] at hp
    obtain ⟨y, hy, rfl⟩ := hp
    exact h (e ▸ hy)
  unfold setL
  rw [this]
  simp [encB]
end Go.Proofs.YtfelbecofbdeaaaGreatDoor
