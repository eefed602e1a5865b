/- A row of its own among the things that a law has made; an append onto it. Any program. -/
import Derived.Test.YtfelbecofbdeaaaGreatDoorCat
import Derived.Test.YtfelbecofbdeaaaGreatDoorOwn
namespace Go.Proofs.YtfelbecofbdeaaaGreatDoor
open Go.RowKit

/-- A row of its own. -/
def rowT (e : TypeId) (size : Nat) (v : Value) (n : Nat) (xs : List Value) : Thing where
  P w S := w.ownsRow 0 e size v n xs ∧ ∀ k, S k ↔ v.ownBlock = some k
  lt w S h k hk := (h.1.lt k ((h.2 k).1 hk)).2
  keep w w' S T h u hd := ⟨ownsRow_upd' h.1 u (fun k hk => hd k ((h.2 k).2 hk)), h.2⟩
theorem ownsRow_zero {w : World} {base : Nat} {e : TypeId} {size : Nat} {v : Value} {n : Nat} {xs : List Value} (h : w.ownsRow base e size v n xs) : w.ownsRow 0 e size v n xs := by
  refine ⟨h.1, ?_⟩
  rcases h.2 with hn | ⟨g, cap, cur, rfl, hb, rest⟩
  · exact .inl hn
  · exact .inr ⟨g, cap, cur, rfl, Nat.zero_le _, rest⟩
theorem Own.newRow {w0 w w' : World} {L : List Thing} (h : Own w0 w L) (hu : Below w.heap.size w w') {e : TypeId} {size n : Nat} {v : Value} {xs : List Value} (hr : w'.ownsRow w.heap.size e size v n xs) : Own w0 w' (rowT e size v n xs :: L) :=
  h.new hu (Q := rowT e size v n xs) (S := fun k => v.ownBlock = some k) ⟨ownsRow_zero hr, fun _ => Iff.rfl⟩ (fun b hb => (hr.lt b hb).1)
theorem Own.row {w0 w : World} {L : List Thing} {i : Nat} {e : TypeId} {size n : Nat} {v : Value} {xs : List Value} (h : Own w0 w L) (hi : L[i]? = some (rowT e size v n xs)) : w.ownsRow 0 e size v n xs := by
  obtain ⟨S, h1, _⟩ := h.at hi; exact h1.1
theorem Own.nilRow {w0 w : World} {L : List Thing} (h : Own w0 w L) (e : TypeId) (size : Nat) : Own w0 w (rowT e size (.slice none 0 0) 0 [] :: L) := h.newRow (Below.refl _ _) (World.ownsRow_nil _ _ _ _)
/-- What is at i changes, within its blocks, and a thing is made. -/
theorem Own.updNew {w0 w : World} {L : List Thing} {i : Nat} {P : Thing} (h : Own w0 w L) (hi : L[i]? = some P) :
    ∃ S, P.P w S ∧ ∀ w' Q R T, Upd S w w' → Q.P w' S → R.P w' T → (∀ b, T b → w.heap.size ≤ b) → Own w0 w' (R :: L.set i Q) := by
  obtain ⟨hb, f, h1, h2, h3⟩ := h
  have hil := idx_lt hi
  have hlt : ∀ j b, j < L.length → f j b → b < w.heap.size := fun j b hj hf => (L[j]).lt w (f j) (h1 j _ (List.getElem?_eq_getElem hj)) b hf
  refine ⟨f i, h1 i P hi, fun w' Q R T hu hq hr hT => ⟨⟨hu.os.trans hb.os, hu.tape.trans hb.tape, hu.output.trans hb.output, Nat.le_trans hb.size hu.size, fun k hk => ?_⟩, fun j => match j with | 0 => T | k + 1 => f k, ?_, ?_, ?_⟩⟩
  · rw [hu.block k (Nat.lt_of_lt_of_le hk hb.size) (fun hf => by have := h3 i k hil hf; omega)]
    exact hb.block k hk
  · intro j X hj
    match j, hj with
    | 0, hj => cases hj; exact hr
    | k + 1, hj =>
      rw [List.getElem?_cons_succ, List.getElem?_set] at hj
      by_cases e : i = k
      · subst e
        rw [if_pos rfl, if_pos hil] at hj
        cases hj; exact hq
      · rw [if_neg e] at hj
        exact X.keep _ _ _ _ (h1 k X hj) hu (fun b hjb hib => e (h2 i k b hil (idx_lt hj) hib hjb))
  · intro j k b hj hk hfj hfk
    simp only [List.length_cons, List.length_set] at hj hk
    match j, k, hfj, hfk with
    | 0, 0, _, _ => rfl
    | 0, k + 1, hfj, hfk => have := hlt k b (by omega) hfk; have := hT b hfj; omega
    | j + 1, 0, hfj, hfk => have := hlt j b (by omega) hfj; have := hT b hfk; omega
    | j + 1, k + 1, hfj, hfk => have := h2 j k b (by omega) (by omega) hfj hfk; omega
  · intro j b hj hf
    simp only [List.length_cons, List.length_set] at hj
    match j, hf with
    | 0, hf => have := hT b hf; have := hb.size; omega
    | k + 1, hf => exact h3 k b (by omega) hf
/-- What is at i and at j changes, within their blocks. -/
theorem Own.upd2 {w0 w : World} {L : List Thing} {i j : Nat} {P P' : Thing} (h : Own w0 w L) (hi : L[i]? = some P) (hj : L[j]? = some P') (hij : i ≠ j) :
    ∃ S S', P.P w S ∧ P'.P w S' ∧ (∀ k, S k → ¬ S' k) ∧ ∀ w' Q Q', Upd (fun k => S k ∨ S' k) w w' → Q.P w' S → Q'.P w' S' → Own w0 w' ((L.set i Q).set j Q') := by
  obtain ⟨hb, f, h1, h2, h3⟩ := h
  have hil := idx_lt hi
  have hjl := idx_lt hj
  refine ⟨f i, f j, h1 i P hi, h1 j P' hj, fun k hk hk' => hij (h2 i j k hil hjl hk hk'), fun w' Q Q' hu hq hq' => ⟨⟨hu.os.trans hb.os, hu.tape.trans hb.tape, hu.output.trans hb.output, Nat.le_trans hb.size hu.size, fun k hk => ?_⟩, f, ?_, ?_, ?_⟩⟩
  · rw [hu.block k (Nat.lt_of_lt_of_le hk hb.size) (fun hf => by
      rcases hf with hf | hf
      · have := h3 i k hil hf; omega
      · have := h3 j k hjl hf; omega)]
    exact hb.block k hk
  · intro k X hk
    rw [List.getElem?_set] at hk
    by_cases e : j = k
    · subst e
      rw [if_pos rfl, if_pos (by simpa using hjl)] at hk
      cases hk; exact hq'
    · rw [if_neg e, List.getElem?_set] at hk
      by_cases e2 : i = k
      · subst e2
        rw [if_pos rfl, if_pos hil] at hk
        cases hk; exact hq
      · rw [if_neg e2] at hk
        refine X.keep _ _ _ _ (h1 k X hk) hu (fun b hkb hf => ?_)
        rcases hf with hf | hf
        · exact e2 (h2 i k b hil (idx_lt hk) hf hkb)
        · exact e (h2 j k b hjl (idx_lt hk) hf hkb)
  · intro a b c ha hb; simp only [List.length_set] at ha hb; exact h2 a b c ha hb
  · intro a b ha; simp only [List.length_set] at ha; exact h3 a b ha
/-- An empty literal. -/
theorem Own.newE {w0 w : World} {L : List Thing} (h : Own w0 w L) (e : TypeId) (size : Nat) : Own w0 (w.alloc (.cells #[] e)) (rowT e size (.slice (some ⟨w.heap.size, 0, none⟩) 0 0) 0 [] :: L) :=
  h.newRow ((Below.refl _ _).alloc (Nat.le_refl _) _) (owns_empty size (Nat.le_refl _) (new_at rfl))
theorem run_cat2 {P : Program} {w : World} (t ty : TypeId) (e : TypeId) (z : Value) (size bytes : Nat) (ht : P.underlying t = some (.slice e))
    (hinfo : (P.info? e).map (fun i => (i.zero, i.size, i.bytes)) = some (some z, size, bytes)) (hzs : z.cells.size = size) (hsz : 0 < size)
    (v : Value) (n : Nat) (xs : List Value) (hown : w.ownsRow 0 e size v n xs)
    (A : Option Addr) (m c : Nat) (news : List Value) (hnews : News w A size m news) (h1 : ∀ u ∈ news, u.oneCell' = true)
    (h63 : n + m ≤ maxLen) (hbytes : (n + m) * bytes ≤ 140737488355328) :
    ∃ v' w', (Builtin.append_ #[t, t] ty #[v, .slice A m c]).run P w = .ok v' w' ∧ w'.ownsRow 0 e size v' (n + m) (xs ++ news) ∧ w.grownBy w' v.ownBlock ∧ (v'.ownBlock = v.ownBlock ∨ v'.ownBlock = some w.heap.size) := by
  obtain ⟨i, hi, hz, hsize, hby⟩ := info_parts hinfo
  obtain ⟨hl, ⟨rfl, rfl⟩ | ⟨ad, rfl, hn⟩⟩ := hnews
  · rw [Nat.zero_mul] at hl
    have := List.eq_nil_of_length_eq_zero hl
    subst this
    exact ⟨v, w, run_append_none0 _ t ty e i size ht hi v n xs hown c, by simpa using hown, ⟨rfl, rfl, rfl, Nat.le_refl _, fun _ _ _ => rfl⟩, .inl rfl⟩
  · obtain ⟨v', w', hr, h2, h3, _, h5⟩ := run_append_own_at (P := P) w 0 t ty e i z size bytes ht hi hz hsize hby hzs hsz v n xs hown ad m c news hl hn h1 h63 hbytes (Nat.zero_le _)
    exact ⟨v', w', hr, h2, h3, h5⟩
theorem own_cat {P : Program} {w0 w : World} {L : List Thing} (h : Own w0 w L) (t ty : TypeId) (e : TypeId) (z : Value) (size bytes : Nat) (ht : P.underlying t = some (.slice e))
    (hinfo : (P.info? e).map (fun i => (i.zero, i.size, i.bytes)) = some (some z, size, bytes)) (hzs : z.cells.size = size) (hsz : 0 < size)
    (v : Value) (n : Nat) (xs : List Value) (i : Nat) (hi : L[i]? = some (rowT e size v n xs))
    (A : Option Addr) (m c : Nat) (news : List Value) (hnews : News w A size m news) (h1 : ∀ u ∈ news, u.oneCell' = true)
    (h63 : n + m ≤ maxLen) (hbytes : (n + m) * bytes ≤ 140737488355328) :
    ∃ v' w', (Builtin.append_ #[t, t] ty #[v, .slice A m c]).run P w = .ok v' w' ∧ Own w0 w' (L.set i (rowT e size v' (n + m) (xs ++ news))) := by
  obtain ⟨v', w', hr, h2, h3, h5⟩ := run_cat2 (P := P) t ty e z size bytes ht hinfo hzs hsz v n xs (h.row hi) A m c news hnews h1 h63 hbytes
  refine ⟨v', w', hr, ?_⟩
  obtain ⟨S, hp, hk⟩ := h.upd hi
  refine hk w' _ (fun k => v'.ownBlock = some k) ⟨h3.os, h3.tape, h3.output, h3.size, fun k hkl hnS => h3.block k hkl (fun e => hnS ((hp.2 k).2 e.symm))⟩ ⟨h2, fun _ => Iff.rfl⟩ (fun b hb => ?_)
  rcases h5 with e | e
  · exact .inl ((hp.2 b).2 (e ▸ hb))
  · rw [e] at hb; simp at hb; exact .inr (by omega)
theorem wp_ocat {P : Program} {w0 w : World} {L : List Thing} {o : Oper} {a : Act} {K : Act → World → Prop} {Q : Exit → Act → World → Prop} (hO : Own w0 w L) (s x : Operand) (t : TypeId)
    (ho : o.op = .call { callee := .builtin .append, args := #[s, x], argTypes := #[t, t] })
    (e : TypeId) (z : Value) (size bytes : Nat) (ht : P.underlying t = some (.slice e))
    (hinfo : (P.info? e).map (fun i => (i.zero, i.size, i.bytes)) = some (some z, size, bytes)) (hzs : z.cells.size = size) (hsz : 0 < size)
    (v : Value) (n : Nat) (xs : List Value) (hs : a.eval s = v) (i : Nat) (hi : L[i]? = some (rowT e size v n xs))
    (A : Option Addr) (m c : Nat) (news : List Value) (hx : a.eval x = .slice A m c) (hnews : News w A size m news) (h1 : ∀ u ∈ news, u.oneCell' = true)
    (h63 : n + m ≤ maxLen) (hbytes : (n + m) * bytes ≤ 140737488355328)
    (h : ∀ v' w', Own w0 w' (L.set i (rowT e size v' (n + m) (xs ++ news))) → K (a.put o.dst v') w') : o.wp P a w K Q := by
  obtain ⟨v', w', hr, h2⟩ := own_cat (P := P) hO t o.type e z size bytes ht hinfo hzs hsz v n xs i hi A m c news hnews h1 h63 hbytes
  unfold Oper.wp execOp
  simp only [ho, resolve, invoke, builtin, Sem.run_bind, Sem.run_pure, Result.andThen_ok, List.map_toArray, List.map_cons, List.map_nil, hs, hx, hr]
  exact h v' w' h2
theorem step_ocat {P : Program} {w0 w : World} {L : List Thing} {ops : Array Oper} {o : Oper} {a : Act} {K : Act → World → Prop} {Q : Exit → Act → World → Prop} {E : Prop} (hO : Own w0 w L) (s x : Operand) (t : TypeId)
    (ho : o.op = .call { callee := .builtin .append, args := #[s, x], argTypes := #[t, t] }) (hw : Region.wanted o (yielded ops a.tmps) = true)
    (e : TypeId) (z : Value) (size bytes : Nat) (ht : P.underlying t = some (.slice e))
    (hinfo : (P.info? e).map (fun i => (i.zero, i.size, i.bytes)) = some (some z, size, bytes)) (hzs : z.cells.size = size) (hsz : 0 < size)
    (v : Value) (n : Nat) (xs : List Value) (hs : a.eval s = v) (i : Nat) (hi : L[i]? = some (rowT e size v n xs))
    (A : Option Addr) (m c : Nat) (news : List Value) (hx : a.eval x = .slice A m c) (hnews : News w A size m news) (h1 : ∀ u ∈ news, u.oneCell' = true)
    (h63 : n + m ≤ maxLen) (hbytes : (n + m) * bytes ≤ 140737488355328)
    (h : ∀ v' w', Own w0 w' (L.set i (rowT e size v' (n + m) (xs ++ news))) → K (a.put o.dst v') w') :
    if Region.wanted o (yielded ops a.tmps) = true then Oper.wp P o a w K Q else E := by
  rw [if_pos hw]
  exact wp_ocat hO s x t ho e z size bytes ht hinfo hzs hsz v n xs hs i hi A m c news hx hnews h1 h63 hbytes h
theorem wpList_ocat {P : Program} {w0 w : World} {L : List Thing} {ops : Array Oper} {rest : List Oper} {o : Oper} {a : Act} {Q : Exit → Act → World → Prop} (hO : Own w0 w L) (hgd : o.guard = none) (s x : Operand) (t : TypeId)
    (ho : o.op = .call { callee := .builtin .append, args := #[s, x], argTypes := #[t, t] })
    (e : TypeId) (z : Value) (size bytes : Nat) (ht : P.underlying t = some (.slice e))
    (hinfo : (P.info? e).map (fun i => (i.zero, i.size, i.bytes)) = some (some z, size, bytes)) (hzs : z.cells.size = size) (hsz : 0 < size)
    (v : Value) (n : Nat) (xs : List Value) (hs : a.eval s = v) (i : Nat) (hi : L[i]? = some (rowT e size v n xs))
    (A : Option Addr) (m c : Nat) (news : List Value) (hx : a.eval x = .slice A m c) (hnews : News w A size m news) (h1 : ∀ u ∈ news, u.oneCell' = true)
    (h63 : n + m ≤ maxLen) (hbytes : (n + m) * bytes ≤ 140737488355328)
    (h : ∀ v' w', Own w0 w' (L.set i (rowT e size v' (n + m) (xs ++ news))) → wpList P ops Q rest (a.put o.dst v') w') : wpList P ops Q (o :: rest) a w :=
  wpList_plain hgd fun _ hK => wp_ocat hO s x t ho e z size bytes ht hinfo hzs hsz v n xs hs i hi A m c news hx hnews h1 h63 hbytes fun v' w' h2 => hK _ _ (h v' w' h2)
end Go.Proofs.YtfelbecofbdeaaaGreatDoor
