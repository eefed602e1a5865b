/- Packed by packn.py: ParL2, PatO, Tok11, ShM. -/
import Derived.Test.YtikimmgileffgaaGreatDoorQk06
import Derived.Test.YtikimmgileffgaaGreatDoorQk04
import Derived.Test.YtikimmgileffgaaGreatDoorQk05
import Derived.Test.YtikimmgileffgaaGreatDoorQk16
/- What Parse makes of what Print has written: the pattern itself (layer 5). No program in sight. -/
section
namespace Go.Proofs.YtikimmgileffgaaGreatDoor
open Go.RowKit

structure PS where
  behind : Bool
  pre0 : List Int
  pre1 : List Int
  msgs : List Msg
def stepP (s : PS) (r : List UInt8) : PS :=
  if r = [46, 46, 46] then { s with behind := true }
  else if rowB (rowM r) = false then s
  else if s.behind = true then { s with msgs := s.msgs ++ [rowM r] }
  else if (rowM r).frm = 0 then { s with pre0 := (rowM r).t } else { s with pre1 := (rowM r).t }
theorem bareT_ne (who : Nat) (t : List Int) : bareT who t ≠ [46, 46, 46] := by
  unfold bareT arrowT; intro h; split at h <;> simp at h
theorem step_bare {s : PS} {who : Nat} {t : List Int} (hw : who ≤ 1) (h1 : t ≠ []) (ht : ∀ x ∈ t, 1 ≤ x ∧ x ≤ 7) :
    stepP s (bareT who t) = if s.behind = true then { s with msgs := s.msgs ++ [⟨who, t⟩] } else if who = 0 then { s with pre0 := t } else { s with pre1 := t } := by
  unfold stepP
  rw [if_neg (bareT_ne who t), row_bare hw h1 ht, rowB_bare ht, if_neg (by simp)]
  have : ((who : Int) = 0) ↔ who = 0 := by omega
  simp only [this]
theorem step_dots (s : PS) : stepP s [46, 46, 46] = { s with behind := true } := by unfold stepP; rw [if_pos rfl]
theorem step_end (s : PS) : stepP s [] = s := by unfold stepP; rw [if_neg (by simp), if_pos row_empty]
theorem told_tok {l : List Int} (h : toldB l = true) : ∀ x ∈ l, 1 ≤ x ∧ x ≤ 7 := by
  simp only [toldB, Bool.or_eq_true, decide_eq_true_eq] at h
  rcases h with ((h | h) | h) | h <;> subst h <;> simp
theorem fold_msgs : ∀ (l : List Msg) (a b : List Int) (ms : List Msg), (∀ m ∈ l, 0 ≤ m.frm ∧ m.frm ≤ 1) → (∀ m ∈ l, m.t ≠ []) → (∀ m ∈ l, ∀ t ∈ m.t, 1 ≤ t ∧ t ≤ 7) →
    (l.map fun m => bareT m.frm.toNat m.t).foldl stepP ⟨true, a, b, ms⟩ = ⟨true, a, b, ms ++ l⟩
  | [], _, _, ms, _, _, _ => by simp
  | m :: l, a, b, ms, h1, h2, h3 => by
    have hf := h1 m List.mem_cons_self
    have e : ((m.frm.toNat : Nat) : Int) = m.frm := by omega
    rw [List.map_cons, List.foldl_cons, step_bare (by omega) (h2 m List.mem_cons_self) (h3 m List.mem_cons_self), if_pos rfl]
    have em : (⟨(m.frm.toNat : Int), m.t⟩ : Msg) = m := by rw [e]
    dsimp only
    rw [em, fold_msgs l a b (ms ++ [m]) (fun x hx => h1 x (List.mem_cons_of_mem _ hx)) (fun x hx => h2 x (List.mem_cons_of_mem _ hx)) (fun x hx => h3 x (List.mem_cons_of_mem _ hx))]
    simp
theorem fold_told {p : Pat} (h : RightP p) (hn : toldR p ≠ []) : (toldR p).foldl stepP ⟨false, [], [], []⟩ = ⟨false, p.pre0, p.pre1, []⟩ := by
  unfold toldR
  by_cases h0 : p.pre0 = []
  · by_cases h1 : p.pre1 = []
    · exact absurd (by unfold toldR; rw [if_pos h0, if_pos h1]; rfl) hn
    · rw [if_pos h0, if_neg h1, List.nil_append, List.foldl_cons, step_bare (by decide) h1 (told_tok h.pre1), h0]
      simp
  · by_cases h1 : p.pre1 = []
    · rw [if_neg h0, if_pos h1, List.append_nil, List.foldl_cons, step_bare (by decide) h0 (told_tok h.pre0), h1]
      simp
    · rw [if_neg h0, if_neg h1]
      simp only [List.cons_append, List.nil_append, List.foldl_cons, List.foldl_nil]
      rw [step_bare (by decide) h0 (told_tok h.pre0), step_bare (by decide) h1 (told_tok h.pre1)]
      simp
theorem told_nil {p : Pat} (hn : toldR p = []) : p.pre0 = [] ∧ p.pre1 = [] := by
  unfold toldR at hn
  rw [List.append_eq_nil_iff] at hn
  refine ⟨Classical.byContradiction fun hc => ?_, Classical.byContradiction fun hc => ?_⟩
  · have := hn.1; rw [if_neg hc] at this; cases this
  · have := hn.2; rw [if_neg hc] at this; cases this
theorem fold_rows {p : Pat} (h : RightP p) : (rowsP p ++ [[]]).foldl stepP ⟨decide (toldR p = []), [], [], []⟩ = ⟨true, p.pre0, p.pre1, p.msgs⟩ := by
  have hm := fun a b => fold_msgs p.msgs a b [] h.frm (fun m hm e => by have := (h.t1 m hm).1; rw [e] at this; simp at this) h.tok
  rw [List.foldl_append, List.foldl_cons, List.foldl_nil, step_end]
  unfold rowsP
  rw [List.foldl_append, List.foldl_append]
  by_cases hn : toldR p = []
  · obtain ⟨h0, h1⟩ := told_nil hn
    rw [hn, if_pos rfl, h0, h1]
    simp only [List.foldl_nil, decide_true]
    rw [hm]; rfl
  · rw [if_neg hn, decide_eq_false hn, fold_told h hn, List.foldl_cons, List.foldl_nil, step_dots]
    rw [hm]; rfl
/-- Whether a text has the row of dots. -/
theorem dots_in {p : Pat} (h : p.name.all okB = true) : ([46, 46, 46] : List UInt8) ∈ ((p.name ++ [58]) :: (rowsP p ++ [[]])) ↔ toldR p ≠ [] := by
  constructor
  · intro hm hn
    rcases List.mem_cons.1 hm with e | hm
    · have h46 : (46 : UInt8) ∈ p.name ++ [58] := by rw [← e]; simp
      rcases List.mem_append.1 h46 with h46 | h46
      · exact okB_no h 46 (by decide) h46
      · simp at h46
    · rcases List.mem_append.1 hm with hm | hm
      · unfold rowsP at hm
        rw [hn, if_pos rfl] at hm
        obtain ⟨m, _, e⟩ := List.mem_map.1 hm
        exact bareT_ne _ _ e
      · simp at hm
  · intro hn
    refine List.mem_cons_of_mem _ (List.mem_append_left _ ?_)
    unfold rowsP
    rw [if_neg hn]
    simp
end Go.Proofs.YtikimmgileffgaaGreatDoor
end
/- Rows of ints, and a pattern, among the things that a call has made (layer 5). No program in sight but the types' numbers. -/
section
namespace Go.Proofs.YtikimmgileffgaaGreatDoor
open Go.RowKit

theorem Own.merge {w0 w : World} {P Q R : Thing} {M : List Thing} (h : Own w0 w (P :: Q :: M)) (hm : ∀ S T, P.P w S → Q.P w T → R.P w (fun b => S b ∨ T b)) : Own w0 w (R :: M) := by
  obtain ⟨hb, f, h1, h2, h3⟩ := h
  let g : Nat → Nat → Prop := fun i => match i with | 0 => fun b => f 0 b ∨ f 1 b | i + 1 => f (i + 2)
  refine ⟨hb, g, ?_, ?_, ?_⟩
  · intro i X hi
    match i, hi with
    | 0, hi => cases hi; exact hm _ _ (h1 0 P rfl) (h1 1 Q rfl)
    | i + 1, hi => exact h1 (i + 2) X hi
  · intro i j b hi hj hfi hfj
    simp only [List.length_cons] at hi hj h2
    match i, j, hi, hj, hfi, hfj with
    | 0, 0, _, _, _, _ => rfl
    | 0, j + 1, _, hj, hfi, hfj =>
      rcases hfi with hfi | hfi
      · have := h2 0 (j + 2) b (by omega) (by omega) hfi hfj; omega
      · have := h2 1 (j + 2) b (by omega) (by omega) hfi hfj; omega
    | i + 1, 0, hi, _, hfi, hfj =>
      rcases hfj with hfj | hfj
      · have := h2 (i + 2) 0 b (by omega) (by omega) hfi hfj; omega
      · have := h2 (i + 2) 1 b (by omega) (by omega) hfi hfj; omega
    | i + 1, j + 1, hi, hj, hfi, hfj => have := h2 (i + 2) (j + 2) b (by omega) (by omega) hfi hfj; omega
  · intro i b hi hfi
    simp only [List.length_cons] at hi h3
    match i, hi, hfi with
    | 0, _, hfi =>
      rcases hfi with hfi | hfi
      · exact h3 0 b (by omega) hfi
      · exact h3 1 b (by omega) hfi
    | i + 1, hi, hfi => exact h3 (i + 2) b (by omega) hfi
/-- Rows of ints, that nobody writes any more. -/
def slicesT (vs : List (Value × List Int)) : Thing where
  P w S := (∀ x, x ∈ vs → IntsIn w S x.1 x.2) ∧ ∀ b, S b → b < w.heap.size
  lt _ _ h := h.2
  keep _ _ _ _ h u hd := ⟨fun x hx => (h.1 x hx).keep u hd, fun b hb => Nat.lt_of_lt_of_le (h.2 b hb) u.size⟩
theorem intsIn_row {w : World} {S : Nat → Prop} {v : Value} {t : List Int} (h : (rowT 3 1 v t.length (intsV t)).P w S) : IntsIn w S v t := by
  obtain ⟨h1, h2⟩ := h
  obtain ⟨A, c, e1, e2, -⟩ := holds_of_owns h1
  refine ⟨A, c, e1, e2, fun _ a ha => ?_⟩
  rw [h2, e1, ha]; rfl
theorem IntsIn.or {w : World} {S T : Nat → Prop} {v : Value} {l : List Int} (h : IntsIn w S v l) : IntsIn w (fun b => S b ∨ T b) v l := h.mono fun _ hb => .inl hb
theorem IntsIn.or' {w : World} {S T : Nat → Prop} {v : Value} {l : List Int} (h : IntsIn w T v l) : IntsIn w (fun b => S b ∨ T b) v l := h.mono fun _ hb => .inr hb
theorem intsIn_nil (w : World) (S : Nat → Prop) : IntsIn w S (.slice none 0 0) [] := ⟨none, 0, rfl, .inl rfl, fun h => absurd rfl h⟩
theorem Own.newSlices {w0 w : World} {M : List Thing} (h : Own w0 w M) : Own w0 w (slicesT [(.slice none 0 0, [])] :: M) :=
  h.new (Below.refl _ _) (Q := slicesT [(.slice none 0 0, [])]) (S := fun _ => False) ⟨fun x hx => by obtain rfl := List.mem_singleton.1 hx; exact intsIn_nil w _, fun b hb => hb.elim⟩ (fun b hb => hb.elim)
/-- A row put beside the others. -/
theorem Own.slice {w0 w : World} {v : Value} {t : List Int} {vs : List (Value × List Int)} {M : List Thing} (h : Own w0 w (rowT 3 1 v t.length (intsV t) :: slicesT vs :: M)) : Own w0 w (slicesT ((v, t) :: vs) :: M) :=
  h.merge fun S T hS hT => ⟨fun x hx => by
    rcases List.mem_cons.1 hx with rfl | hx
    · exact (intsIn_row hS).or
    · exact (hT.1 x hx).or', fun b hb => hb.elim ((rowT 3 1 v t.length (intsV t)).lt _ _ hS b) (hT.2 b)⟩
/-- The cells of a row of messages. -/
def msgCells (mv : List (Msg × Value)) : List Value := mv.flatMap fun x => [.int .i64 x.1.frm, x.2]
theorem msgCells_at : ∀ (mv : List (Msg × Value)) (i : Nat) (x : Msg × Value), mv[i]? = some x → (msgCells mv)[i * 2]? = some (.int .i64 x.1.frm) ∧ (msgCells mv)[i * 2 + 1]? = some x.2
  | [], i, x, h => by cases h
  | y :: mv, 0, x, h => by cases h; exact ⟨rfl, rfl⟩
  | y :: mv, i + 1, x, h => by
    have h1 := msgCells_at mv i x h
    have e : msgCells (y :: mv) = .int .i64 y.1.frm :: y.2 :: msgCells mv := rfl
    rw [e, show (i + 1) * 2 = i * 2 + 1 + 1 by omega]
    exact h1
theorem row_holds {w : World} {e : TypeId} {size n : Nat} {A : Option Addr} {c : Nat} {xs : List Value} (h : w.ownsRow 0 e size (.slice A n c) n xs) (hx : xs ≠ []) : ∃ g, A = some ⟨g, 0, none⟩ ∧ ∀ i v, xs[i]? = some v → w.cell? ⟨g, i, none⟩ = some v := by
  rcases h.2 with ⟨h2, h3⟩ | ⟨g, cap, cur, h2, _, hg, hnc, _, hcs, ht⟩
  · have := h.1; rw [h3] at this; exact absurd (List.eq_nil_of_length_eq_zero (by simpa using this)) hx
  · cases h2
    refine ⟨g, rfl, fun i v hi => ?_⟩
    rw [cell_of_heap hg]
    rw [← ht, List.getElem?_take] at hi
    split at hi
    · rw [← Array.getElem?_toList]; exact hi
    · cases hi
/-- A pattern's parts are a pattern. -/
theorem Own.pattern {w0 w : World} {p : Pat} {v0 v1 : Value} {A : Option Addr} {c : Nat} {mv : List (Msg × Value)} {vs : List (Value × List Int)} {M : List Thing}
    (h : Own w0 w (rowT 61 2 (.slice A mv.length c) mv.length (msgCells mv) :: slicesT vs :: M)) (h0 : (v0, p.pre0) ∈ vs) (h1 : (v1, p.pre1) ∈ vs) (hm : mv.map (·.1) = p.msgs) (hv : ∀ x ∈ mv, (x.2, x.1.t) ∈ vs) :
    Own w0 w (patT ⟨v0, v1, A, c⟩ p :: M) := by
  refine h.merge fun S T hS hT => ⟨⟨(hT.1 _ h0).or', (hT.1 _ h1).or', ?_⟩, fun b hb => hb.elim ((rowT 61 2 (.slice A mv.length c) mv.length (msgCells mv)).lt _ _ hS b) (hT.2 b)⟩
  by_cases hn : mv = []
  · left; rw [← hm, hn]; rfl
  · obtain ⟨y, hy⟩ : ∃ y, mv[0]? = some y := ⟨_, List.getElem?_eq_getElem (List.length_pos_iff.2 hn)⟩
    obtain ⟨g, hA, hc⟩ := row_holds hS.1 (fun e => by have := (msgCells_at mv 0 y hy).1; rw [e] at this; cases this)
    subst hA
    refine .inr ⟨g, 0, rfl, .inl ((hS.2 g).2 rfl), fun i m hi => ?_⟩
    rw [← hm, List.getElem?_map] at hi
    cases hx : mv[i]? with
    | none => rw [hx] at hi; cases hi
    | some x =>
      rw [hx] at hi; cases hi
      have h2 := msgCells_at mv i x hx
      rw [Nat.zero_add]
      exact ⟨hc _ _ h2.1, x.2, hc _ _ h2.2, (hT.1 _ (hv x (List.mem_of_getElem? hx))).or'⟩
theorem Own.pat {w0 w : World} {L : List Thing} {i : Nat} {x : PatV} {p : Pat} (h : Own w0 w L) (hi : L[i]? = some (patT x p)) : PatIn w (Old w) x p := by
  obtain ⟨S, h1, _⟩ := h.at hi
  exact h1.1.mono h1.2
end Go.Proofs.YtikimmgileffgaaGreatDoor
end
/- Parse at what Print has written (layer 5). -/
section
namespace Go.Proofs.YtikimmgileffgaaGreatDoor
open Go.RowKit

theorem einfo_msg : (Tryz.prog.info? 61).map (fun i => (i.zero, i.size, i.bytes)) = some (some (.agg #[.int .i64 0, .slice none 0 0]), 2, 32) := by kernel_rfl
/-- What strings.TrimSuffix and slices.Contains tell of a printed text. -/
theorem trim_name (n : List UInt8) : Lib.trimSuffix (n ++ [58]) [58] = n := by
  unfold Lib.trimSuffix Lib.hasSuffix
  have : [58].isSuffixOf (n ++ [58]) = true := by rw [List.isSuffixOf_iff_suffix]; exact List.suffix_append _ _
  simp
theorem trim5_calls (s p : List UInt8) (w : World) (hs : s.length ≤ 9223372036854775807) : Calls Tryz.prog 118 #[.string (strO s), .string (strO p)] w fun e w' => e = .returned (.string (strO (Lib.trimSuffix s p))) ∧ w' = w := by
  have := Sh.strings_TrimSuffix (strO s) (strO p) w (by rw [size_str]; exact hs)
  rwa [strO_data, strO_data] at this
theorem containsS_eq (xs : List (List UInt8)) (x : List UInt8) : Lib.containsS (xs.map strO) (strO x) = decide (x ∈ xs) := by
  rw [Bool.eq_iff_iff, Lib.containsS_iff, decide_eq_true_iff, List.mem_map]
  exact ⟨fun ⟨y, hy, e⟩ => by rw [← strO_inj e]; exact hy, fun h => ⟨x, h, rfl⟩⟩
theorem contains5_calls (xs : List (List UInt8)) (x : List UInt8) (b o c : Nat) (w : World) (hn : xs.length ≤ 9223372036854775807) (hc : ∀ j s, xs[j]? = some s → w.cell? ⟨b, o + j, none⟩ = some (.string (strO s))) :
    Calls Tryz.prog 119 #[.slice (some ⟨b, o, none⟩) xs.length c, .string (strO x)] w fun e w' => e = .returned (.bool (decide (x ∈ xs))) ∧ w' = w := by
  have h := Sh.slices_Contains_string b o xs.length c (xs.map strO) (strO x) w (by rw [List.length_map]; exact Nat.le_refl _) hn (fun j hj => by
    rw [List.length_map] at hj
    rw [List.getD_eq_getElem?_getD, List.getElem?_map, List.getElem?_eq_getElem hj]
    exact hc j _ (List.getElem?_eq_getElem hj))
  rw [show (xs.map strO).take xs.length = xs.map strO by rw [← List.length_map (f := strO), List.take_length], containsS_eq] at h
  exact h
theorem arrowI_le (a : List UInt8) : arrowI a ≤ 1 := by unfold arrowI; split <;> (try split) <;> decide
theorem rowB_frm {m : Msg} (h : rowB m = true) : 0 ≤ m.frm := by
  unfold rowB at h; rw [Bool.and_eq_true, decide_eq_true_iff] at h; exact h.1
theorem heap_four {w : World} {b : Nat} {a0 a1 a2 a3 v0 v1 v2 v3 : Value} {e : TypeId} {f : Nat × Nat} (h : w.heap[b]? = some (.cells #[a0, a1, a2, a3] e f)) :
    ((((w.setCell ⟨b, 0, none⟩ v0).setCell ⟨b, 1, none⟩ v1).setCell ⟨b, 2, none⟩ v2).setCell ⟨b, 3, none⟩ v3).heap[b]? = some (.cells #[v0, v1, v2, v3] e f) := by
  have := heap_setCell_at (o := 3) (heap_setCell_at (o := 2) (heap_setCell_at (o := 1) (heap_setCell_at (o := 0) h v0) v1) v2) v3
  simpa using this
theorem Own.setFour {w0 w : World} {L : List Thing} {i b : Nat} {a0 a1 a2 a3 : Value} {e : TypeId} (h : Own w0 w L) (hi : L[i]? = some (Go.Proofs.YtikimmgileffgaaGreatDoor.blk b (.cells #[a0, a1, a2, a3] e (0, 0)))) (v0 v1 v2 v3 : Value) :
    Own w0 ((((w.setCell ⟨b, 0, none⟩ v0).setCell ⟨b, 1, none⟩ v1).setCell ⟨b, 2, none⟩ v2).setCell ⟨b, 3, none⟩ v3) (L.set i (Go.Proofs.YtikimmgileffgaaGreatDoor.blk b (.cells #[v0, v1, v2, v3] e (0, 0)))) :=
  h.store hi (((((Upd.refl (One b) w).setCell (fun _ => rfl) _).setCell (fun _ => rfl) _).setCell (fun _ => rfl) _).setCell (fun _ => rfl) _) (heap_four (h.blk hi))
/-- What Parse has made: the pattern's variable, the messages' row, the rows of tokens, the text's rows, the result's variable. -/
def parseL (Y X Z : Nat) (n : List UInt8) (R : List (List UInt8)) (v0 v1 vm : Value) (mv : List (Msg × Value)) (vs : List (Value × List Int)) : List Thing :=
  [blk Y (.cells #[.string (strO n), v0, v1, vm] 33 (0, 0)), rowT 61 2 vm mv.length (msgCells mv), slicesT vs, blk Z (.cells (strsV ((n ++ [58]) :: R)).toArray 9 (0, 0)), blk X (.cells #[.string ⟨#[]⟩, .slice none 0 0, .slice none 0 0, .slice none 0 0] 33 (0, 0))]
def ParsePost (p : Pat) (w : World) (e : Ending) (w' : World) : Prop := ∃ x : PatV, e = .returned (.tuple #[x.val p, .int .i64 0]) ∧ Own w w' [patT x p]
theorem printT_len {p : Pat} (h : RightP p) : (printT p).length ≤ 500 := by
  have h1 := headT_len h
  have h2 := msgsT_len p.msgs (fun m hm => (h.t1 m hm).2)
  have h3 := h.msgs6
  unfold printT; rw [List.length_append]; omega
set_option warningAsError false in
set_option maxHeartbeats 3200000 in
set_option maxRecDepth 100000 in
theorem parse_calls (p : Pat) (w : World) (he : EnvS w) (hr : RightP p) (hrp : rightP p = true) (hfit : PatFits p) : Calls Tryz.prog 62 #[.string (strO (printT p))] w (ParsePost p w) := by
  have HE := Lib.hid he
  have HR := Lib.hid hr
  have HRP := Lib.hid (And.intro hrp hfit)
  have hpl := printT_len hr
  have hsp : Lib.split (printT p) [10] = (p.name ++ [58]) :: (rowsP p ++ [[]]) := by rw [split_eq]; exact printT_split hr.name
  have hspl : (Lib.split (printT p) [10]).length ≤ 501 := by rw [split_eq]; have := splitL_length 10 (printT p); omega
  have HSp := Lib.hid (fun (w' : World) (L : List Thing) (h : Own w w' L) => split5_calls (printT p) [10] w' (HE.out.below h.below) (by omega) (by decide))
  have hrl : ∀ x ∈ rowsP p ++ [[]], x.length ≤ 500 := fun x hx => by
    have : x ∈ splitL 10 (printT p) := by rw [← split_eq, hsp]; exact List.mem_cons_of_mem _ hx
    have := splitL_mem_length 10 _ _ this; omega
  have HRL := Lib.hid hrl
  have hn20 := hr.name20
  have HT := Lib.hid (fun w' => trim5_calls (p.name ++ [58]) [58] w' (by simp; omega))
  have Hdot := Lib.hid (dots_in hr.name)
  have Hfold := Lib.hid (fold_rows hr)
  unfold SplitPost at HSp
  rw [hsp] at HSp hspl
  rw [trim_name] at HT
  unfold ParsePost
  have z1 : strO [10] = ⟨#[10]⟩ := rfl
  have z2 : strO [58] = ⟨#[58]⟩ := rfl
  have z3 : strO [46, 46, 46] = ⟨#[46, 46, 46]⟩ := rfl
  rw [z1] at HSp
  rw [z2] at HT
  have HRO := Lib.hid (show ∃ R, R = rowsP p ++ [[]] from ⟨_, rfl⟩)
  have hRn : ¬ (rowsP p ++ [[]] = []) := by simp
  clear he hr hrp hfit hpl hsp hrl hn20 HRO
  generalize rowsP p ++ [[]] = R at *
  go_enter Tryz.func62, Tryz.ntmps62
  go_wp2_with fail
  refine (HSp.out _ _ ((Own.start w).alloc (.cells #[.string ⟨#[]⟩, .slice none 0 0, .slice none 0 0, .slice none 0 0] 33))).mono ?_
  rintro e w1 ⟨rfl, rfl⟩
  have O1 := Lib.hid (((Own.start w).alloc (.cells #[.string ⟨#[]⟩, .slice none 0 0, .slice none 0 0, .slice none 0 0] 33)).alloc (.cells (strsV ((p.name ++ [58]) :: R)).toArray 9))
  clear HSp
  generalize (w.alloc (.cells #[.string ⟨#[]⟩, .slice none 0 0, .slice none 0 0, .slice none 0 0] 33)).heap.size = Z at *
  have Hall := Lib.hid (fun (w' : World) (L : List Thing) (i : Nat) (h : Own w w' L) (hi : L[i]? = some (blk Z (.cells (strsV ((p.name ++ [58]) :: R)).toArray 9))) => contains5_calls ((p.name ++ [58]) :: R) [46, 46, 46] Z 0 ((p.name ++ [58]) :: R).length w' (by omega) (fun j s hj => by
    rw [cell_of_heap (h.blk hi), Nat.zero_add]; simp only [strsV, List.getElem?_toArray, List.getElem?_map, hj]; rfl))
  have hb : decide (([46, 46, 46] : List UInt8) ∈ (p.name ++ [58]) :: R) = !decide (toldR p = []) := by
    by_cases h : toldR p = []
    · rw [decide_eq_false (fun hm => Hdot.out.1 hm h), decide_eq_true h]; rfl
    · rw [decide_eq_true (Hdot.out.2 h), decide_eq_false h]; rfl
  rw [hb] at Hall
  have hlen : ((p.name ++ [58]) :: R).length = R.length + 1 := rfl
  rw [hlen] at Hall hspl ⊢
  clear hb hlen Hdot
  generalize decide (toldR p = []) = bh at *
  generalize w.heap.size = X at *
  generalize hWW : (w.alloc (.cells #[.string ⟨#[]⟩, .slice none 0 0, .slice none 0 0, .slice none 0 0] 33)).alloc (.cells (strsV ((p.name ++ [58]) :: R)).toArray 9) = W at *
  have c0 : W.cell? ⟨Z, 0, none⟩ = some (.string (strO (p.name ++ [58]))) := by rw [cell_of_heap (O1.out.blk (i := 0) rfl)]; rfl
  clear hWW
  go_wp2_with fail
  refine (HT.out W).mono ?_
  rintro e w2 ⟨rfl, rfl⟩
  go_upto_region 3 with fail
  have O2 := Lib.hid (O1.out.alloc (.cells #[.string (strO p.name), .slice none 0 0, .slice none 0 0, .slice none 0 0] 33))
  have HC := Lib.hid (Hall.out _ _ 1 O2.out rfl)
  clear O1 Hall c0 HT
  generalize w2.heap.size = Y at *
  generalize w2.alloc (.cells #[.string (strO p.name), .slice none 0 0, .slice none 0 0, .slice none 0 0] 33) = W2 at *
  go_wp2_with fail
  refine HC.out.mono ?_
  rintro e w3 ⟨rfl, rfl⟩
  have O3 : Hid (Own w w3 (parseL Y X Z p.name R (.slice none 0 0) (.slice none 0 0) (.slice none 0 0) [] [(.slice none 0 0, [])])) := Lib.hid ((O2.out.nilRow 61 2).newSlices.pick [2, 1, 0, 3, 4] (by rfl))
  clear O2 HC
  go_wp2_with fail
  go_loopw [6, 26] (fun bhv i wr => ∃ (k : Nat) (st : PS) (v0 v1 vm : Value) (mv : List (Msg × Value)) (vs : List (Value × List Int)), k ≤ R.length ∧ i = .int .i64 k ∧ bhv = .bool st.behind ∧
      Hid (st = (R.take k).foldl stepP ⟨bh, [], [], []⟩ ∧ st.msgs = mv.map (·.1) ∧ (v0, st.pre0) ∈ vs ∧ (v1, st.pre1) ∈ vs ∧ (∀ x ∈ mv, (x.2, x.1.t) ∈ vs) ∧ mv.length ≤ k) ∧
      Own w wr (parseL Y X Z p.name R v0 v1 vm mv vs))
    (fun _ i _ => R.length - (intOf i).toNat)
  case atStart => exact ⟨0, ⟨bh, [], [], []⟩, .slice none 0 0, .slice none 0 0, .slice none 0 0, [], [(.slice none 0 0, [])], by omega, rfl, by simp, Lib.hid ⟨rfl, rfl, by simp, by simp, by simp, by simp⟩, O3.out⟩
  case round =>
    clear O3
    obtain ⟨k, st, v0, v1, vm, mv, vs, hk, rfl, rfl, hst, ok⟩ := hrel
    have Ok := Lib.hid ok
    clear ok
    by_cases hlt : k < R.length
    · obtain ⟨r, hrk⟩ : ∃ r, R[k]? = some r := ⟨_, List.getElem?_eq_getElem hlt⟩
      have hik : (k : Int) < R.length := by omega
      have hc : wr.cell? ⟨Z, 1 + k, none⟩ = some (.string (strO r)) := by
        rw [cell_of_heap (Ok.out.blk (i := 3) rfl), Nat.add_comm]
        simp only [strsV, List.map_cons, List.getElem?_toArray, List.getElem?_cons_succ, List.getElem?_map, hrk]; rfl
      have Hlt := Lib.hid hlt
      have Hfo := Lib.hid (show (R.take (k + 1)).foldl stepP ⟨bh, [], [], []⟩ = stepP st r by rw [List.take_add_one, hrk, List.foldl_append, ← hst.out.1]; rfl)
      have HRow := Lib.hid (row_calls r wr (HE.out.below Ok.out.below) (by have := HRL.out r (List.mem_of_getElem? hrk); omega))
      have hdots : ((strO r).toList == (⟨#[46, 46, 46]⟩ : ByteArray).toList) = decide (r = [46, 46, 46]) := by
        rw [← z3, ← beq_toListBytes, strO_eq]
      have hdl : (⟨#[46, 46, 46]⟩ : ByteArray).toList = [46, 46, 46] := by decide +kernel
      rw [hdl] at hdots
      clear hdl
      have hkm : mv.length ≤ 500 := by have := hst.out.2.2.2.2.2; omega
      clear hrk hlt hk
      go_wp2_with fail
      refine HRow.out.mono ?_
      rintro e w5 ⟨v, rfl, o5⟩
      obtain ⟨A5, c5, rfl⟩ := row_form5 (o5.row (i := 0) rfl)
      have o6 : Own w w5 [rowT 3 1 (.slice A5 (rowM r).t.length c5) (rowM r).t.length (intsV (rowM r).t), slicesT vs, blk Y (.cells #[.string (strO p.name), v0, v1, vm] 33 (0, 0)), rowT 61 2 vm mv.length (msgCells mv), blk Z (.cells (strsV ((p.name ++ [58]) :: R)).toArray 9 (0, 0)), blk X (.cells #[.string ⟨#[]⟩, .slice none 0 0, .slice none 0 0, .slice none 0 0] 33 (0, 0))] :=
        (Ok.out.newRow o5.below (o5.rowBase (i := 0) rfl)).pick [0, 3, 1, 2, 4, 5] (by rfl)
      have o7 : Own w w5 (parseL Y X Z p.name R v0 v1 vm mv ((.slice A5 (rowM r).t.length c5, (rowM r).t) :: vs)) := o6.slice.pick [1, 2, 0, 3, 4] (by rfl)
      have O8 := Lib.hid (o7.alloc (.cells #[.int .i64 (rowM r).frm, .slice A5 (rowM r).t.length c5] 61))
      clear o5 o6 o7 HRow Ok hc
      have Hst2 := Lib.hid (show stepP st r = if r = [46, 46, 46] then { st with behind := true } else if rowB (rowM r) = false then st else if st.behind = true then { st with msgs := st.msgs ++ [rowM r] } else if (rowM r).frm = 0 then { st with pre0 := (rowM r).t } else { st with pre1 := (rowM r).t } from rfl)
      have Hai := Lib.hid (show (rowM r).frm ≤ 1 from arrowI_le _)
      generalize hib : rowB (rowM r) = isr at *
      have Hib := Lib.hid hib
      clear hib
      generalize hm : rowM r = m at *
      have Hm := Lib.hid hm
      clear hm
      obtain ⟨fr, tt⟩ := m
      dsimp only at *
      by_cases hd : r = [46, 46, 46]
      · rw [decide_eq_true hd] at hdots
        have Hs3 := Lib.hid (show stepP st r = { st with behind := true } by rw [Hst2.out, if_pos hd])
        clear hd
        go_wp2_with fail
        go_roundw
        case rel =>
          have := Hlt.out
          refine ⟨k + 1, { st with behind := true }, v0, v1, vm, mv, _, by omega, by go_num, rfl, Lib.hid ⟨by rw [Hfo.out, Hs3.out], hst.out.2.1, List.mem_cons_of_mem _ hst.out.2.2.1, List.mem_cons_of_mem _ hst.out.2.2.2.1, fun x hx => List.mem_cons_of_mem _ (hst.out.2.2.2.2.1 x hx), by have := hst.out.2.2.2.2.2; omega⟩, O8.out.tail⟩
        case measure => have := Hlt.out; simp only [intOf]; omega
      · rw [decide_eq_false hd] at hdots
        cases isr with
        | false =>
          have Hs3 := Lib.hid (show stepP st r = st by rw [Hst2.out, if_neg hd, if_pos rfl])
          clear hd
          go_wp2_with fail
          go_roundw
          case rel =>
            have := Hlt.out
            refine ⟨k + 1, st, v0, v1, vm, mv, _, by omega, by go_num, rfl, Lib.hid ⟨by rw [Hfo.out, Hs3.out], hst.out.2.1, List.mem_cons_of_mem _ hst.out.2.2.1, List.mem_cons_of_mem _ hst.out.2.2.2.1, fun x hx => List.mem_cons_of_mem _ (hst.out.2.2.2.2.1 x hx), by have := hst.out.2.2.2.2.2; omega⟩, O8.out.tail⟩
          case measure => have := Hlt.out; simp only [intOf]; omega
        | true =>
          by_cases hbe : st.behind = true
          · have Hs3 := Lib.hid (show stepP st r = { st with msgs := st.msgs ++ [⟨fr, tt⟩] } by rw [Hst2.out, if_neg hd, if_neg (by simp), if_pos hbe])
            obtain ⟨sb, s0, s1, sm⟩ := st
            dsimp only at *
            subst hbe
            clear hd Hst2
            go_upto_region 13 with fail
            generalize w5.heap.size = C at *
            generalize w5.alloc (.cells #[.int .i64 fr, .slice A5 tt.length c5] 61) = W6 at *
            have x0 := cell_of_heap (o := 0) (O8.out.blk (i := 0) rfl)
            have x1 := cell_of_heap (o := 1) (O8.out.blk (i := 0) rfl)
            have y3 := cell_of_heap (o := 3) (O8.out.blk (i := 1) rfl)
            simp only [List.getElem?_toArray, List.getElem?_cons_zero, List.getElem?_cons_succ] at x0 x1 y3
            have o9 := O8.out.alloc (.cells #[.int .i64 fr, .slice A5 tt.length c5] 61)
            go_wp2_with (at_builtin; go_loud (refine wpList_ocat o9 rfl (.tmp 50) (.tmp 52) 31 rfl 61 (.agg #[.int .i64 0, .slice none 0 0]) 2 32 Tryz.underlying31 einfo_msg rfl (by decide) vm mv.length (msgCells mv) rfl 3 rfl (some ⟨W6.heap.size, 0, none⟩) 1 1 [.int .i64 fr, .slice A5 tt.length c5] rfl (News.block (cs := [.int .i64 fr, .slice A5 tt.length c5]) (new_at rfl) rfl) (by simp [Value.oneCell']) (by unfold maxLen; omega) (by omega) ?_))
            intro v6 w6 o10
            obtain ⟨A6, c6, rfl⟩ := row_form5 (o10.row (i := 3) rfl)
            have z3' := cell_of_heap (o := 3) (o10.blk (i := 2) rfl)
            have f3 := fun o => frozen_of_heap (o := o) (o10.blk (i := 2) rfl)
            have l3 := lt_of_heap (o10.blk (i := 2) rfl)
            simp only [List.getElem?_toArray, List.getElem?_cons_zero, List.getElem?_cons_succ] at z3'
            have O11 := Lib.hid (o10.store (i := 2) rfl ((Upd.refl (One Y) w6).setCell (fun _ => rfl) (.slice A6 (mv.length + 1) c6)) (heap_setCell_at (o := 3) (o10.blk (i := 2) rfl) _))
            clear o9 o10 x0 x1 y3 O8
            go_wp2_with fail
            go_roundw
            case rel =>
              have := Hlt.out
              have hmc : msgCells (mv ++ [(⟨fr, tt⟩, .slice A5 tt.length c5)]) = msgCells mv ++ [.int .i64 fr, .slice A5 tt.length c5] := by simp [msgCells]
              have hln : (mv ++ [((⟨fr, tt⟩ : Msg), Value.slice A5 tt.length c5)]).length = mv.length + 1 := by simp
              refine ⟨k + 1, ⟨true, s0, s1, sm ++ [⟨fr, tt⟩]⟩, v0, v1, .slice A6 (mv.length + 1) c6, mv ++ [(⟨fr, tt⟩, .slice A5 tt.length c5)], (.slice A5 tt.length c5, tt) :: vs, by omega, by go_num, rfl, Lib.hid ⟨by rw [Hfo.out, Hs3.out], by rw [hst.out.2.1]; simp, List.mem_cons_of_mem _ hst.out.2.2.1, List.mem_cons_of_mem _ hst.out.2.2.2.1, fun x hx => ?_, by rw [hln]; have := hst.out.2.2.2.2.2; omega⟩, ?_⟩
              · rcases List.mem_append.1 hx with hx | hx
                · exact List.mem_cons_of_mem _ (hst.out.2.2.2.2.1 x hx)
                · obtain rfl := List.mem_singleton.1 hx; exact List.mem_cons_self
              · unfold parseL; rw [hmc, hln]; exact O11.out.pick [2, 3, 4, 5, 6] (by rfl)
            case measure => have := Hlt.out; simp only [intOf]; omega
          · have hbe : st.behind = false := by simpa using hbe
            have h0 : 0 ≤ fr := rowB_frm Hib.out
            have h1 : fr ≤ 1 := by have := Hai.out; exact this
            have Hs3 := Lib.hid (show stepP st r = if fr = 0 then { st with pre0 := tt } else { st with pre1 := tt } by rw [Hst2.out, if_neg hd, if_neg (by simp), if_neg (by rw [hbe]; simp)])
            obtain ⟨sb, s0, s1, sm⟩ := st
            dsimp only at *
            subst hbe
            clear hd Hst2
            have hcase : fr = 0 ∨ fr = 1 := by omega
            clear h0 h1
            rcases hcase with rfl | rfl
            · go_upto_region 8 with fail
              generalize w5.heap.size = C at *
              generalize w5.alloc (.cells #[.int .i64 0, .slice A5 tt.length c5] 61) = W6 at *
              have x0 := cell_of_heap (o := 0) (O8.out.blk (i := 0) rfl)
              have x1 := cell_of_heap (o := 1) (O8.out.blk (i := 0) rfl)
              have y1 := cell_of_heap (o := 1) (O8.out.blk (i := 1) rfl)
              have fY := fun o => frozen_of_heap (o := o) (O8.out.blk (i := 1) rfl)
              have lY := lt_of_heap (O8.out.blk (i := 1) rfl)
              simp only [List.getElem?_toArray, List.getElem?_cons_zero, List.getElem?_cons_succ] at x0 x1 y1
              have O11 := Lib.hid (O8.out.store (i := 1) rfl ((Upd.refl (One Y) W6).setCell (fun _ => rfl) (.slice A5 tt.length c5)) (heap_setCell_at (o := 1) (O8.out.blk (i := 1) rfl) _))
              clear O8
              go_wp2_with fail
              go_roundw
              case rel =>
                have := Hlt.out
                refine ⟨k + 1, ⟨false, tt, s1, sm⟩, .slice A5 tt.length c5, v1, vm, mv, (.slice A5 tt.length c5, tt) :: vs, by omega, by go_num, rfl, Lib.hid ⟨by rw [Hfo.out, Hs3.out, if_pos rfl], hst.out.2.1, List.mem_cons_self, List.mem_cons_of_mem _ hst.out.2.2.2.1, fun x hx => List.mem_cons_of_mem _ (hst.out.2.2.2.2.1 x hx), by have := hst.out.2.2.2.2.2; omega⟩, O11.out.pick [1, 2, 3, 4, 5] (by rfl)⟩
              case measure => have := Hlt.out; simp only [intOf]; omega
            · go_upto_region 8 with fail
              generalize w5.heap.size = C at *
              generalize w5.alloc (.cells #[.int .i64 1, .slice A5 tt.length c5] 61) = W6 at *
              have x0 := cell_of_heap (o := 0) (O8.out.blk (i := 0) rfl)
              have x1 := cell_of_heap (o := 1) (O8.out.blk (i := 0) rfl)
              have y2 := cell_of_heap (o := 2) (O8.out.blk (i := 1) rfl)
              have fY := fun o => frozen_of_heap (o := o) (O8.out.blk (i := 1) rfl)
              have lY := lt_of_heap (O8.out.blk (i := 1) rfl)
              simp only [List.getElem?_toArray, List.getElem?_cons_zero, List.getElem?_cons_succ] at x0 x1 y2
              have O11 := Lib.hid (O8.out.store (i := 1) rfl ((Upd.refl (One Y) W6).setCell (fun _ => rfl) (.slice A5 tt.length c5)) (heap_setCell_at (o := 2) (O8.out.blk (i := 1) rfl) _))
              clear O8
              go_wp2_with fail
              go_roundw
              case rel =>
                have := Hlt.out
                refine ⟨k + 1, ⟨false, s0, tt, sm⟩, v0, .slice A5 tt.length c5, vm, mv, (.slice A5 tt.length c5, tt) :: vs, by omega, by go_num, rfl, Lib.hid ⟨by rw [Hfo.out, Hs3.out, if_neg (by decide)], hst.out.2.1, List.mem_cons_of_mem _ hst.out.2.2.1, List.mem_cons_self, fun x hx => List.mem_cons_of_mem _ (hst.out.2.2.2.2.1 x hx), by have := hst.out.2.2.2.2.2; omega⟩, O11.out.pick [1, 2, 3, 4, 5] (by rfl)⟩
              case measure => have := Hlt.out; simp only [intOf]; omega
    · obtain rfl : k = R.length := by omega
      have hst1 := hst.out.1
      rw [List.take_length, Hfold.out] at hst1
      subst hst1
      have hms : mv.map (·.1) = p.msgs := hst.out.2.1.symm
      have hlm : mv.length = p.msgs.length := by rw [← hms, List.length_map]
      obtain ⟨A, c, rfl⟩ := row_form5 (Ok.out.row (i := 1) rfl)
      have o4 : Own w wr [patT ⟨v0, v1, A, c⟩ p, blk Y (.cells #[.string (strO p.name), v0, v1, .slice A mv.length c] 33 (0, 0)), blk X (.cells #[.string ⟨#[]⟩, .slice none 0 0, .slice none 0 0, .slice none 0 0] 33 (0, 0))] :=
        (Own.pattern (p := p) (v0 := v0) (v1 := v1) (A := A) (c := c) (mv := mv) (vs := vs) (M := [blk Y (.cells #[.string (strO p.name), v0, v1, .slice A mv.length c] 33 (0, 0)), blk X (.cells #[.string ⟨#[]⟩, .slice none 0 0, .slice none 0 0, .slice none 0 0] 33 (0, 0))]) (Ok.out.pick [1, 2, 0, 4] (by rfl)) hst.out.2.2.1 hst.out.2.2.2.1 hms hst.out.2.2.2.2.1)
      rw [hlm] at o4
      obtain ⟨B0, d0, e0, -⟩ := (o4.pat (i := 0) rfl).pre0.holds
      obtain ⟨B1, d1, e1, -⟩ := (o4.pat (i := 0) rfl).pre1.holds
      dsimp only at e0 e1
      subst e0 e1
      have HPr := Lib.hid (print_calls (o4.pat (i := 0) rfl) HRP.out.2 HRP.out.1)
      have O4 := Lib.hid o4
      unfold PrintPost PatV.val at HPr
      have y0 := cell_of_heap (o := 0) (o4.blk (i := 1) rfl)
      have y1 := cell_of_heap (o := 1) (o4.blk (i := 1) rfl)
      have y2 := cell_of_heap (o := 2) (o4.blk (i := 1) rfl)
      have y3 := cell_of_heap (o := 3) (o4.blk (i := 1) rfl)
      simp only [List.getElem?_toArray, List.getElem?_cons_zero, List.getElem?_cons_succ] at y0 y1 y2 y3
      clear hk hlt Ok o4 hst
      dsimp only at HPr
      go_wp2_with fail
      refine HPr.out.mono ?_
      rintro e w7 ⟨rfl, b7⟩
      have O5 := Lib.hid (O4.out.call b7)
      clear y0 y1 y2 y3 b7 O4 HPr
      have y0 := cell_of_heap (o := 0) (O5.out.blk (i := 1) rfl)
      have y1 := cell_of_heap (o := 1) (O5.out.blk (i := 1) rfl)
      have y2 := cell_of_heap (o := 2) (O5.out.blk (i := 1) rfl)
      have y3 := cell_of_heap (o := 3) (O5.out.blk (i := 1) rfl)
      have x0 := cell_of_heap (o := 0) (O5.out.blk (i := 2) rfl)
      have x1 := cell_of_heap (o := 1) (O5.out.blk (i := 2) rfl)
      have x2 := cell_of_heap (o := 2) (O5.out.blk (i := 2) rfl)
      have x3 := cell_of_heap (o := 3) (O5.out.blk (i := 2) rfl)
      have fX := fun o => frozen_of_heap (o := o) (O5.out.blk (i := 2) rfl)
      have lX := lt_of_heap (O5.out.blk (i := 2) rfl)
      simp only [List.getElem?_toArray, List.getElem?_cons_zero, List.getElem?_cons_succ] at y0 y1 y2 y3 x0 x1 x2 x3
      have hbe : ((strO (printT p)).toList == (strO (printT p)).toList) = true := by simp
      have o6 := O5.out.setFour (i := 2) rfl (.string (strO p.name)) (.slice B0 p.pre0.length d0) (.slice B1 p.pre1.length d1) (.slice A p.msgs.length c)
      have hfin := Lib.hid (o6.blk (i := 2) rfl)
      have O6 := Lib.hid o6
      clear o6
      generalize strO (printT p) = sp at *
      go_wp2_with fail
      refine bodyPost_ret (v := .tuple #[.agg #[.string (strO p.name), .slice B0 p.pre0.length d0, .slice B1 p.pre1.length d1, .slice A p.msgs.length c], .int .i64 0]) (by simp [results, Tryz.results62, go_sem, cell_of_heap hfin.out]) rfl ?_
      exact ⟨⟨.slice B0 p.pre0.length d0, .slice B1 p.pre1.length d1, A, c⟩, rfl, O6.out.pick [0] (by rfl)⟩
end Go.Proofs.YtikimmgileffgaaGreatDoor
end
/- Which keys a pattern needs (layer 8), and the beginning of a handshake (layer 12), as plain functions. -/
section
namespace Go.Proofs.YtikimmgileffgaaGreatDoor
open Go.RowKit

structure NK where
  s : Bool
  e : Bool
  rs : Bool
  re : Bool
  psks : Int
  deriving DecidableEq, Inhabited
def NK.zero : NK := ⟨false, false, false, false, 0⟩
def needTok (role frm : Int) : List Int → Bool → Int → Bool × Int
  | [], s, n => (s, n)
  | t :: l, s, n => if t = 7 then needTok role frm l s (n + 1) else if t = 2 ∧ frm = role then needTok role frm l true n else needTok role frm l s n
def needMsgs (role : Int) : List Msg → Bool → Int → Bool × Int
  | [], s, n => (s, n)
  | m :: l, s, n => let r := needTok role m.frm m.t s n; needMsgs role l r.1 r.2
def preOf (p : Pat) (who : Int) : List Int := if who = 0 then p.pre0 else p.pre1
def needOf (p : Pat) (role : Int) : NK × Int :=
  if role < 0 ∨ 1 < role then (NK.zero, 1) else
  if (checkV p).2.2 ≠ 0 then (NK.zero, (checkV p).2.2) else
  let r := needMsgs role p.msgs (decide ((2 : Int) ∈ preOf p role)) 0
  (⟨r.1, decide ((1 : Int) ∈ preOf p role), decide ((2 : Int) ∈ preOf p (1 - role)), decide ((1 : Int) ∈ preOf p (1 - role)), r.2⟩, 0)
def enough (n h : NK) : Bool := decide ((n.s = true → h.s = true) ∧ (n.e = true → h.e = true) ∧ (n.rs = true → h.rs = true) ∧ (n.re = true → h.re = true) ∧ h.psks = n.psks)

/-- A handshake's state. -/
structure Sh where
  role : Int
  at_ : Int
  nx : Int
  x : PatV
  p : Pat
  kS : Int
  kE : Int
  kRS : Int
  kRE : Int
  vk : Value
  psks : List Int
  y : Sy
def Sh.val (h : Sh) : Value := .agg #[.int .i64 h.role, .int .i64 h.at_, .int .i64 h.nx, .string (strO h.p.name), h.x.v0, h.x.v1, .slice h.x.A h.p.msgs.length h.x.c, .int .i64 h.kS, .int .i64 h.kE, .int .i64 h.kRS, .int .i64 h.kRE, h.vk, .int .i64 h.y.ck, .int .i64 h.y.h, .int .i64 h.y.c.key, .bool h.y.c.has, .int .u64 h.y.c.n]
def Sh.zero : Sh := ⟨0, 0, 0, ⟨.slice none 0 0, .slice none 0 0, none, 0⟩, ⟨[], [], [], []⟩, 0, 0, 0, 0, .slice none 0 0, [], Sy.zero⟩
def publicC (A : Ar) (role kS kE kRS kRE who t : Int) : Ar × Int × Int :=
  if who ≠ role ∧ t = 1 then (A, kRE, 0) else if who ≠ role then (A, kRS, 0) else
  if t = 1 then mk A ⟨2, 0, kE, 0, 0⟩ else mk A ⟨2, 0, kS, 0, 0⟩
/-- What all can read is mixed; an ephemeral key into the key, too, where there is a PSK. -/
def openY (A : Ar) (y : Sy) (md : Bool) (x : Int) (eph : Bool) : Ar × Sy × Int :=
  let r := mixHashS A y x
  if r.2.2 ≠ 0 then (r.1, Sy.zero, r.2.2) else
  if eph = true ∧ md = true then
    let q := mixKeyS r.1 r.2.1 x
    if q.2.2 ≠ 0 then (q.1, Sy.zero, q.2.2) else (q.1, q.2.1, 0)
  else (r.1, r.2.1, 0)
def toldY (A : Ar) (y : Sy) (md : Bool) (role kS kE kRS kRE who t : Int) : Ar × Sy × Int :=
  let r := publicC A role kS kE kRS kRE who t
  if r.2.2 ≠ 0 then (r.1, Sy.zero, r.2.2) else openY r.1 y md r.2.1 (decide (t = 1))
def upd (e : Int) (h : Sh) : Sh := if e = 0 then h else Sh.zero
theorem upd_ok (h : Sh) : upd 0 h = h := rfl
theorem upd_no {e : Int} (he : ¬ e = 0) (h : Sh) : upd e h = Sh.zero := if_neg he
/-- What was told beforehand, one by one; once an error it stays. -/
def toldL (md : Bool) (role kS kE kRS kRE who : Int) : List Int → Ar × Sy × Int → Ar × Sy × Int
  | [], r => r
  | t :: l, r => if r.2.2 ≠ 0 then r else toldL md role kS kE kRS kRE who l (toldY r.1 r.2.1 md role kS kE kRS kRE who t)
def sel (b : Bool) (x : Int) : Int := if b then x else 0
/-- Keys that there are. -/
structure Ks where
  s : Int
  e : Int
  rs : Int
  re : Int
  psks : List Int
  deriving DecidableEq, Inhabited
/-- Start: the arena, the keys that are kept, what was mixed, the error. -/
def startC (A : Ar) (p : Pat) (role prologue : Int) (k : Ks) : Ar × Sy × Int :=
  if (needOf p role).2 ≠ 0 then (A, Sy.zero, (needOf p role).2) else
  if (has A.l prologue && has A.l k.s && has A.l k.e && has A.l k.rs && has A.l k.re) = false ∨ (k.psks.all fun x => has A.l x) = false then (A, Sy.zero, 1) else
  if enough (needOf p role).1 ⟨decide (0 < k.s), decide (0 < k.e), decide (0 < k.rs), decide (0 < k.re), k.psks.length⟩ = false then (A, Sy.zero, 10) else
  let n := (needOf p role).1
  let b := beginS A p.name prologue
  let q := toldL (modeP p) role (sel n.s k.s) (sel n.e k.e) (sel n.rs k.rs) (sel n.re k.re) 0 p.pre0 b
  let r := if q.2.2 ≠ 0 then q else toldL (modeP p) role (sel n.s k.s) (sel n.e k.e) (sel n.rs k.rs) (sel n.re k.re) 1 p.pre1 q
  if r.2.2 ≠ 0 then (r.1, Sy.zero, r.2.2) else r

theorem Own.join1 {w0 w w' : World} {M : List Thing} {X : Thing} (O : Own w0 w M) (h : Own w w' [X]) : Own w0 w' (X :: M) := by
  obtain ⟨S, h1, h2⟩ := h.at (i := 0) rfl
  exact O.new h.below h1 h2
theorem checkE' {w0 w : World} {M : List Thing} {A0 A1 A : Option Addr} {c0 c1 c : Nat} {p : Pat} {r k e : Int} (O : Own w0 w M) (hp : PatIn w0 (Old w0) (pvx A0 c0 A1 c1 A c p) p) (hfit : PatFits p) (hf : checkV p = (r, k, e)) :
    Calls Tryz.prog 94 #[.agg #[.string (strO p.name), .slice A0 p.pre0.length c0, .slice A1 p.pre1.length c1, .slice A p.msgs.length c]] w fun e' w' => e' = .returned (.tuple #[.int .i64 r, .int .i64 k, .int .i64 e]) ∧ Own w0 w' M := by
  have hp := hp.below O.below
  exact (checkE hp hp.pre0.at0 hp.pre1.at0 hfit hf).mono fun _ _ ⟨he, hb⟩ => ⟨he, O.call hb⟩
theorem parseE {w0 w : World} {M : List Thing} {p : Pat} (O : Own w0 w M) (he : EnvS w0) (hfit : PatFits p) (hr : rightP p = true) :
    Calls Tryz.prog 62 #[.string (strO (printT p))] w fun e w' => ∃ x : PatV, e = .returned (.tuple #[.agg #[.string (strO p.name), x.v0, x.v1, .slice x.A p.msgs.length x.c], .int .i64 0]) ∧ Own w0 w' (patT x p :: M) :=
  (parse_calls p w (he.below O.below) (rightP_is hr) hr hfit).mono fun _ _ ⟨x, h1, h2⟩ => ⟨x, h1, O.join1 h2⟩
end Go.Proofs.YtikimmgileffgaaGreatDoor
end
