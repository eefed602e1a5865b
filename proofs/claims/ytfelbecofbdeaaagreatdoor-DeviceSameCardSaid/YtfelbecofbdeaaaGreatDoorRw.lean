/- The rows of a term, as plain data: what the layer 'code' tells of a ref. No program in sight. -/
import Derived.Test.YtfelbecofbdeaaaGreatDoorAr
namespace Go.Proofs.YtfelbecofbdeaaaGreatDoor
open Go.RowKit

/-- What a node is made of. -/
def kids (n : Nd) : List Int := [n.a, n.b, n.c].take (many n.kind)
def rowsF : Nat → List Nd → List Int → Int → List Int
  | 0, _, acc, _ => acc
  | f + 1, l, acc, x => if has l x = false ∨ x ∈ acc then acc else (kids (nd l x)).foldl (rowsF f l) acc ++ [x]
def rowsA (l : List Nd) (acc : List Int) (x : Int) : List Int := rowsF (x.toNat + 1) l acc x

theorem kids_mem {n : Nd} {p : Int} (h : p ∈ kids n) : p = n.a ∨ p = n.b ∨ p = n.c := by
  have := List.mem_of_mem_take h; simpa using this
theorem many_le (k : Int) : many k ≤ 3 := by unfold many; (repeat' split) <;> omega
theorem kids_length (n : Nd) : (kids n).length = many n.kind := by
  unfold kids; have := many_le n.kind; simp; omega
theorem Wf.kid {l : List Nd} (w : Wf l) {x p : Int} (hx : has l x = true) (hp : p ∈ kids (nd l x)) : 0 ≤ p ∧ p < x ∧ has l p = true := by
  have hx0 := has_iff.1 hx
  have hg := getElem?_of_has hx
  have h0 : x ≠ 0 := by
    rintro rfl
    have hz : nd l 0 = Nd.zero := nd_of_getElem? (i := 0) w.head
    rw [hz] at hp
    simp [kids, Nd.zero, many] at hp
  have hpp := w.parts x.toNat _ hg
  have p0 := hpp 0
  have p1 := hpp 1
  have p2 := hpp 2
  simp only [Nd.part, if_true, if_false, Nat.one_ne_zero, show (2 : Nat) ≠ 0 by decide, show (2 : Nat) ≠ 1 by decide] at p0 p1 p2
  have := kids_mem hp
  rw [has_iff]
  rcases this with rfl | rfl | rfl <;> omega
theorem foldl_congr {α β : Type} {f g : α → β → α} : ∀ (l : List β) (a : α), (∀ a, ∀ b ∈ l, f a b = g a b) → l.foldl f a = l.foldl g a
  | [], a, _ => rfl
  | b :: l, a, h => by
    simp only [List.foldl_cons]
    rw [h a b (by simp)]
    exact foldl_congr l _ (fun a c hc => h a c (by simp [hc]))
theorem rowsF_fuel {l : List Nd} (w : Wf l) : ∀ (f g : Nat) (acc : List Int) (x : Int), x.toNat < f → x.toNat < g → rowsF f l acc x = rowsF g l acc x
  | 0, _, _, _, h, _ => by omega
  | _, 0, _, _, _, h => by omega
  | f + 1, g + 1, acc, x, hf, hg => by
    unfold rowsF
    by_cases h : has l x = false ∨ x ∈ acc
    · rw [if_pos h, if_pos h]
    · rw [if_neg h, if_neg h]
      have hx : has l x = true := by
        cases hh : has l x with
        | true => rfl
        | false => exact absurd (.inl hh) h
      congr 1
      refine foldl_congr _ _ (fun a p hp => ?_)
      have := w.kid hx hp
      exact rowsF_fuel w f g a p (by omega) (by omega)
theorem rowsA_eq {l : List Nd} (w : Wf l) (acc : List Int) (x : Int) : rowsA l acc x = if has l x = false ∨ x ∈ acc then acc else (kids (nd l x)).foldl (rowsA l) acc ++ [x] := by
  unfold rowsA
  rw [rowsF]
  by_cases h : has l x = false ∨ x ∈ acc
  · rw [if_pos h, if_pos h]
  · rw [if_neg h, if_neg h]
    have hx : has l x = true := by
      cases hh : has l x with
      | true => rfl
      | false => exact absurd (.inl hh) h
    congr 1
    refine foldl_congr _ _ (fun a p hp => ?_)
    have := w.kid hx hp
    exact rowsF_fuel w _ _ a p (by omega) (by omega)
/-- Refs that are there, none twice. -/
structure Refs (l : List Nd) (acc : List Int) : Prop where
  nodup : acc.Nodup
  has : ∀ y ∈ acc, Go.Proofs.YtfelbecofbdeaaaGreatDoor.has l y = true
theorem Refs.nil (l : List Nd) : Refs l [] := ⟨by simp, fun y h => by simp at h⟩
theorem rows_ind {l : List Nd} (w : Wf l) (M : List Int → List Int → Prop) (hrefl : ∀ a, M a a) (htrans : ∀ a b c, M a b → M b c → M a c)
    (step : ∀ acc acc' x, has l x = true → x ∉ acc → M acc acc' → (∀ p ∈ kids (nd l x), p ∈ acc') → (x ∉ acc') → M acc' (acc' ++ [x]))
    (hin : ∀ a b y, M a b → y ∈ a → y ∈ b) :
    ∀ (n : Nat) (acc : List Int) (x : Int), x.toNat < n → M acc (rowsA l acc x) ∧ (has l x = true → x ∈ rowsA l acc x) ∧ ∀ z, z ∈ rowsA l acc x → z ∈ acc ∨ z ≤ x
  | 0, _, _, h => by omega
  | n + 1, acc, x, h => by
    rw [rowsA_eq w]
    by_cases hc : has l x = false ∨ x ∈ acc
    · rw [if_pos hc]
      refine ⟨hrefl _, fun hx => ?_, fun z hz => .inl hz⟩
      rcases hc with hc | hc
      · rw [hx] at hc; cases hc
      · exact hc
    · rw [if_neg hc]
      have hx : has l x = true := by
        cases hh : has l x with
        | true => rfl
        | false => exact absurd (.inl hh) hc
      have hxa : x ∉ acc := fun e => hc (.inr e)
      have hf : ∀ (ks : List Int) (a : List Int), (∀ p ∈ ks, p ∈ kids (nd l x)) → M acc a → (∀ z, z ∈ a → z ∈ acc ∨ z < x) → M acc (ks.foldl (rowsA l) a) ∧ (∀ p ∈ ks, p ∈ ks.foldl (rowsA l) a) ∧ (∀ z, z ∈ ks.foldl (rowsA l) a → z ∈ acc ∨ z < x) ∧ (∀ y ∈ a, y ∈ ks.foldl (rowsA l) a) := by
        intro ks
        induction ks with
        | nil => intro a _ hm hz; exact ⟨hm, fun p hp => (List.not_mem_nil hp).elim, hz, fun y hy => hy⟩
        | cons p ks ih =>
          intro a hks hm hz
          have hp := w.kid hx (hks p (by simp))
          obtain ⟨h1, h2, h3⟩ := rows_ind w M hrefl htrans step hin n a p (by omega)
          have hz' : ∀ z, z ∈ rowsA l a p → z ∈ acc ∨ z < x := fun z hz2 => by
            rcases h3 z hz2 with h4 | h4
            · exact hz z h4
            · exact .inr (by omega)
          obtain ⟨i1, i2, i3, i4⟩ := ih (rowsA l a p) (fun q hq => hks q (by simp [hq])) (htrans _ _ _ hm h1) hz'
          refine ⟨i1, fun q hq => ?_, i3, fun y hy => i4 y (hin _ _ _ h1 hy)⟩
          rcases List.mem_cons.1 hq with rfl | hq
          · exact i4 _ (h2 hp.2.2)
          · exact i2 q hq
      obtain ⟨f1, f2, f3, _⟩ := hf (kids (nd l x)) acc (fun p hp => hp) (hrefl _) (fun z hz => .inl hz)
      have hxf : x ∉ (kids (nd l x)).foldl (rowsA l) acc := fun e => by
        rcases f3 x e with h4 | h4
        · exact hxa h4
        · omega
      refine ⟨htrans _ _ _ f1 (step acc _ x hx hxa f1 f2 hxf), fun _ => by simp, fun z hz => ?_⟩
      rcases List.mem_append.1 hz with hz | hz
      · rcases f3 z hz with h4 | h4
        · exact .inl h4
        · exact .inr (by omega)
      · simp at hz; exact .inr (by omega)
theorem rows_refs {l : List Nd} (w : Wf l) {acc : List Int} (h : Refs l acc) (x : Int) : Refs l (rowsA l acc x) := by
  have := (rows_ind w (fun a b => (∀ y ∈ a, y ∈ b) ∧ (Refs l a → Refs l b)) (fun a => ⟨fun _ h => h, fun h => h⟩) (fun a b c h1 h2 => ⟨fun y hy => h2.1 y (h1.1 y hy), fun h => h2.2 (h1.2 h)⟩)
    (fun acc acc' x hx _ _ _ hn => ⟨fun y hy => by simp [hy], fun hr => ⟨by rw [List.nodup_append]; refine ⟨hr.nodup, by simp, fun a ha b hb e => ?_⟩; simp at hb; exact hn (hb ▸ e ▸ ha), fun y hy => by
      rcases List.mem_append.1 hy with hy | hy
      · exact hr.has y hy
      · simp at hy; subst hy; exact hx⟩⟩) (fun a b y h hy => h.1 y hy) (x.toNat + 1) acc x (by omega)).1.2
  exact this h
theorem rows_sub {l : List Nd} (w : Wf l) (acc : List Int) (x : Int) : ∀ y ∈ acc, y ∈ rowsA l acc x :=
  (rows_ind w (fun a b => ∀ y ∈ a, y ∈ b) (fun a y h => h) (fun a b c h1 h2 y hy => h2 y (h1 y hy)) (fun acc acc' x _ _ _ _ _ y hy => by simp [hy]) (fun a b y h hy => h y hy) (x.toNat + 1) acc x (by omega)).1
theorem rows_le {l : List Nd} (w : Wf l) (acc : List Int) (x : Int) : ∀ z ∈ rowsA l acc x, z ∈ acc ∨ z ≤ x :=
  (rows_ind w (fun a b => ∀ y ∈ a, y ∈ b) (fun a y h => h) (fun a b c h1 h2 y hy => h2 y (h1 y hy)) (fun acc acc' x _ _ _ _ _ y hy => by simp [hy]) (fun a b y h hy => h y hy) (x.toNat + 1) acc x (by omega)).2.2
theorem nodup_length {α : Type} [DecidableEq α] : ∀ (a b : List α), a.Nodup → (∀ y ∈ a, y ∈ b) → a.length ≤ b.length
  | [], b, _, _ => Nat.zero_le _
  | x :: a, b, h, hs => by
    have hx := hs x (by simp)
    have hn := List.nodup_cons.1 h
    have := nodup_length a (b.erase x) hn.2 (fun y hy => (List.mem_erase_of_ne (fun e : y = x => hn.1 (by rw [← e]; exact hy))).2 (hs y (by simp [hy])))
    have hl := List.length_erase_of_mem hx
    have : 0 < b.length := List.length_pos_of_mem hx
    simp only [List.length_cons]; omega
theorem Refs.length {l : List Nd} {acc : List Int} (h : Refs l acc) : acc.length ≤ l.length := by
  have := nodup_length acc ((List.range l.length).map Int.ofNat) h.nodup (fun y hy => by
    have := has_iff.1 (h.has y hy)
    exact List.mem_map.2 ⟨y.toNat, by simp; omega, by simp; omega⟩)
  simpa using this
def foldR (l : List Nd) (acc ks : List Int) : List Int := ks.foldl (rowsA l) acc
theorem foldR_snoc (l : List Nd) (acc ks : List Int) {k : Nat} {p : Int} (h : ks[k]? = some p) : foldR l acc (ks.take (k + 1)) = rowsA l (foldR l acc (ks.take k)) p := by
  unfold foldR; rw [List.take_add_one, h]; simp
theorem foldR_refs {l : List Nd} (w : Wf l) : ∀ (ks acc : List Int), Refs l acc → Refs l (foldR l acc ks)
  | [], _, h => h
  | p :: ks, acc, h => foldR_refs w ks _ (rows_refs w h p)
theorem foldR_sub {l : List Nd} (w : Wf l) : ∀ (ks acc : List Int), ∀ y ∈ acc, y ∈ foldR l acc ks
  | [], _, y, h => h
  | p :: ks, acc, y, h => foldR_sub w ks _ y (rows_sub w acc p y h)
end Go.Proofs.YtfelbecofbdeaaaGreatDoor
