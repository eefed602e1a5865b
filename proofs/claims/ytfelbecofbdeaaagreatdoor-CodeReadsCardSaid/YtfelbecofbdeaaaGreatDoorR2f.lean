/- The document's node of layer 2. -/
import Derived.Test.YtfelbecofbdeaaaGreatDoorR2d
namespace Go.Proofs.YtfelbecofbdeaaaGreatDoor
open Go.RowKit

def pX (had : List Int) (xs : List Nat) (j : Nat) : Int := if j < xs.length then had.getD (xs.getD j 0) 0 else 0
def ndX (had : List Int) (xs : List Nat) : Nd := ⟨(xs.getD 0 0 : Nat), (xs.getD 1 0 : Nat), pX had xs 2, pX had xs 3, pX had xs 4⟩
def okX (had : List Int) (j x : Nat) : Prop := x < 18446744073709551616 ∧ (j ≠ 1 → x ≤ 100000) ∧ (1 < j → x < had.length) ∧ j ≤ 4
def NodeOk (had : List Int) (ws : List (List UInt8)) (n : Nd) : Prop :=
  ∃ xs : List Nat, ws = xs.map digs ∧ (∀ j x, xs[j]? = some x → okX had j x) ∧ n = ndX had xs ∧ (ws.length : Int) = 2 + manyI n.kind ∧ 0 ≤ manyI n.kind
/-- So far. -/
structure Sofar (had : List Int) (ws : List (List UInt8)) (i : Nat) (xs : List Nat) : Prop where
  len : xs.length = i
  eq : ws.take i = xs.map digs
  ok : ∀ j x, xs[j]? = some x → okX had j x
theorem digs_inj {n m : Nat} (hn : n < 18446744073709551616) (hm : m < 18446744073709551616) (h : digs n = digs m) : n = m := by
  have h1 := digs_parse hn
  rw [h, digs_parse hm] at h1
  injection h1 with h1; exact h1.symm
theorem Sofar.next {had : List Int} {ws : List (List UInt8)} {i : Nat} {xs : List Nat} (h : Sofar had ws i xs) {x : Nat} (hw : ws[i]? = some (digs x)) (hx : okX had i x) : Sofar had ws (i + 1) (xs ++ [x]) where
  len := by simp [h.len]
  eq := by rw [List.take_add_one, hw, h.eq]; simp
  ok j y hy := by
    rcases Nat.lt_or_ge j xs.length with hj | hj
    · rw [List.getElem?_append_left hj] at hy; exact h.ok j y hy
    · have hjl : j < (xs ++ [x]).length := (List.getElem?_eq_some_iff.1 hy).1
      simp at hjl
      obtain rfl : j = xs.length := by omega
      rw [List.getElem?_append_right (Nat.le_refl _)] at hy
      simp at hy; subst hy; rw [h.len]; exact hx
theorem Sofar.bad {had : List Int} {ws : List (List UInt8)} {i : Nat} {w : List UInt8} (hw : ws[i]? = some w) (hb : ∀ x, x < 18446744073709551616 → w = digs x → ¬ okX had i x) (m : Nd) : ¬ NodeOk had ws m := by
  rintro ⟨xs, h1, h2, _⟩
  rw [h1, List.getElem?_map] at hw
  obtain ⟨x, hx, rfl⟩ := Option.map_eq_some_iff.1 hw
  exact hb x (h2 i x hx).1 rfl (h2 i x hx)
theorem ndX_at {had : List Int} {xs : List Nat} {x i : Nat} (hl : xs.length = i) (j : Nat) : pX had (xs ++ [x]) j = if j = i then had.getD x 0 else pX had xs j := by
  subst hl
  unfold pX
  simp only [List.length_append, List.length_singleton]
  by_cases h : j = xs.length
  · subst h; simp [List.getD]
  · rw [if_neg h]
    by_cases h2 : j < xs.length
    · rw [if_pos h2, if_pos (by omega)]; simp [List.getD, List.getElem?_append_left h2]
    · rw [if_neg h2, if_neg (by omega)]
theorem getD_at {xs : List Nat} {x i : Nat} (hl : xs.length = i) (j : Nat) : (xs ++ [x]).getD j 0 = if j = i then x else xs.getD j 0 := by
  subst hl
  by_cases h : j = xs.length
  · subst h; simp [List.getD]
  · rw [if_neg h]
    by_cases h2 : j < xs.length
    · simp [List.getD, List.getElem?_append_left h2]
    · simp [List.getD]
      rw [List.getElem?_eq_none (by simp; omega), List.getElem?_eq_none (by omega)]
theorem Sofar.done {had : List Int} {ws : List (List UInt8)} {xs : List Nat} (h : Sofar had ws ws.length xs) : ∀ m, NodeOk had ws m ↔ m = ndX had xs ∧ (ws.length : Int) = 2 + manyI m.kind ∧ 0 ≤ manyI m.kind := by
  intro m
  have heq := h.eq
  rw [List.take_length] at heq
  constructor
  · rintro ⟨ys, h1, h2, h3, h4, h5⟩
    have hxy : xs = ys := by
      have h6 : xs.map digs = ys.map digs := heq.symm.trans h1
      have hl : xs.length = ys.length := by have := congrArg List.length h6; simpa using this
      refine List.ext_getElem hl fun j ha hb => ?_
      have h7 : (xs.map digs)[j]? = (ys.map digs)[j]? := by rw [h6]
      rw [List.getElem?_map, List.getElem?_map, List.getElem?_eq_getElem ha, List.getElem?_eq_getElem hb] at h7
      have h8 : digs xs[j] = digs ys[j] := Option.some.inj h7
      exact digs_inj (h.ok j _ (List.getElem?_eq_getElem ha)).1 (h2 j _ (List.getElem?_eq_getElem hb)).1 h8
    subst hxy
    exact ⟨h3, h4, h5⟩
  · rintro ⟨h3, h4, h5⟩
    exact ⟨xs, heq, h.ok, h3, h4, h5⟩
/-! The document's Read of layer 2, as plain data; what it tells and what the layer tells are the same. No program in sight. -/
/-- Rows made one behind the other. -/
inductive RefRun (A : Ar) : List (List UInt8) → Ar → List Int → Prop where
  | nil : RefRun A [] A []
  | snoc {rows A1 had r n} : RefRun A rows A1 had → NodeOk had (splitL 32 r) n → (mk A1 n).2.2 = 0 → RefRun A (rows ++ [r]) (mk A1 n).1 (had ++ [(mk A1 n).2.1])
theorem NodeOk.uniq {had : List Int} {ws : List (List UInt8)} {n m : Nd} (h1 : NodeOk had ws n) (h2 : NodeOk had ws m) : n = m := by
  obtain ⟨xs, e1, o1, n1, _⟩ := h1
  obtain ⟨ys, e2, o2, n2, _⟩ := h2
  have hxy : xs = ys := by
    have h6 : xs.map digs = ys.map digs := e1.symm.trans e2
    have hl : xs.length = ys.length := by have := congrArg List.length h6; simpa using this
    refine List.ext_getElem hl fun j ha hb => ?_
    have h7 : (xs.map digs)[j]? = (ys.map digs)[j]? := by rw [h6]
    rw [List.getElem?_map, List.getElem?_map, List.getElem?_eq_getElem ha, List.getElem?_eq_getElem hb] at h7
    exact digs_inj (o1 j _ (List.getElem?_eq_getElem ha)).1 (o2 j _ (List.getElem?_eq_getElem hb)).1 (Option.some.inj h7)
  subst hxy; rw [n1, n2]
theorem RefRun.inv {A : Ar} {rows : List (List UInt8)} {r : List UInt8} {A2 : Ar} {had2 : List Int} (h : RefRun A (rows ++ [r]) A2 had2) : ∃ A1 had n, RefRun A rows A1 had ∧ NodeOk had (splitL 32 r) n ∧ (mk A1 n).2.2 = 0 ∧ A2 = (mk A1 n).1 ∧ had2 = had ++ [(mk A1 n).2.1] := by
  generalize hR : rows ++ [r] = R at h
  cases h with
  | nil => simp at hR
  | snoc h1 h2 h3 =>
    obtain ⟨h4, h5⟩ := List.append_inj' hR rfl
    simp at h5
    subst h4 h5
    exact ⟨_, _, _, h1, h2, h3, rfl, rfl⟩
theorem RefRun.det {A : Ar} {rows : List (List UInt8)} {A1 : Ar} {had1 : List Int} (h : RefRun A rows A1 had1) : ∀ {A2 had2}, RefRun A rows A2 had2 → A1 = A2 ∧ had1 = had2 := by
  induction h with
  | nil =>
    intro A2 had2 h2
    generalize hR : ([] : List (List UInt8)) = R at h2
    cases h2 with
    | nil => exact ⟨rfl, rfl⟩
    | snoc => simp at hR
  | snoc h1 h2 h3 ih =>
    intro A2 had2 g
    obtain ⟨B, hb, m, g1, g2, g3, rfl, rfl⟩ := g.inv
    obtain ⟨rfl, rfl⟩ := ih g1
    obtain rfl := h2.uniq g2
    exact ⟨rfl, rfl⟩
/-- A longer run begins with the shorter one. -/
theorem RefRun.front {A : Ar} : ∀ (rest rows : List (List UInt8)) {A2 had2}, RefRun A (rows ++ rest) A2 had2 → ∃ A1 had1, RefRun A rows A1 had1
  | [], rows, A2, had2, h => ⟨A2, had2, by simpa using h⟩
  | r :: rest, rows, A2, had2, h => by
    have h' : RefRun A ((rows ++ [r]) ++ rest) A2 had2 := by simpa using h
    obtain ⟨A1, had1, h1⟩ := RefRun.front rest (rows ++ [r]) h'
    obtain ⟨B, hb, n, g, _⟩ := h1.inv
    exact ⟨B, hb, g⟩
theorem RefRun.stuck {A : Ar} {rows : List (List UInt8)} {A1 : Ar} {had1 : List Int} (h : RefRun A rows A1 had1) {r : List UInt8} (hb : ∀ n, NodeOk had1 (splitL 32 r) n → (mk A1 n).2.2 ≠ 0) (rest : List (List UInt8)) {A2 had2} : ¬ RefRun A (rows ++ r :: rest) A2 had2 := by
  intro g
  have g' : RefRun A ((rows ++ [r]) ++ rest) A2 had2 := by simpa using g
  obtain ⟨B, hb2, g1⟩ := RefRun.front _ _ g'
  obtain ⟨C, hc, n, g2, g3, g4, _⟩ := g1.inv
  obtain ⟨rfl, rfl⟩ := h.det g2
  exact hb n g3 g4
theorem RefRun.len {A : Ar} {rows : List (List UInt8)} {A1 : Ar} {had1 : List Int} (h : RefRun A rows A1 had1) : had1.length = rows.length := by
  induction h with
  | nil => rfl
  | snoc _ _ _ ih => simp [ih]
/-- What the document's Read tells: a text's term. -/
def ReadOk (A : Ar) (s : List UInt8) (A' : Ar) (x : Int) : Prop :=
  ∃ rows had, splitL 59 s = rows ++ [[]] ∧ rows ≠ [] ∧ RefRun A rows A' had ∧ x = had.getLastD 0 ∧ text A'.l x = s
theorem NodeOk.u64 {had : List Int} {ws : List (List UInt8)} {n : Nd} (h : NodeOk had ws n) : 0 ≤ n.n ∧ n.n ≤ 18446744073709551615 := by
  obtain ⟨xs, _, o, rfl, _⟩ := h
  unfold ndX
  show (0 : Int) ≤ ((xs.getD 1 0 : Nat) : Int) ∧ ((xs.getD 1 0 : Nat) : Int) ≤ 18446744073709551615
  cases hx : xs[1]? with
  | none => simp [List.getD, hx]
  | some x => have := (o 1 x hx).1; simp [List.getD, hx]; omega
/-- The strict reading of a row is the layer's. -/
theorem NodeOk.row {had : List Int} (hl : had.length ≤ 65536) {r : List UInt8} {n : Nd} (h : NodeOk had (splitL 32 r) n) : rowP had (splitS 32 (strO r)) = some n := by
  have hn := h.u64
  obtain ⟨xs, e, o, hnd, h4, h5⟩ := h
  rw [splitS_eq, e]
  have hlen : xs.length = (splitL 32 r).length := by rw [e]; simp
  have hk : manyI n.kind = many n.kind := by
    unfold manyI at h5 ⊢; split
    · rename_i hh; rw [if_pos hh] at h5; omega
    · rfl
  have hkind : 0 ≤ n.kind ∧ n.kind ≤ 9 := by
    unfold manyI at h5; split at h5 <;> omega
  have hlm : xs.length = 2 + many n.kind := by rw [hk, ← hlen] at h4; omega
  have hm3 := many_le n.kind
  obtain ⟨x0, xs1, rfl⟩ : ∃ a t, xs = a :: t := by cases xs with | nil => simp at hlm; omega | cons a t => exact ⟨a, t, rfl⟩
  obtain ⟨x1, ps, rfl⟩ : ∃ a t, xs1 = a :: t := by cases xs1 with | nil => simp at hlm; omega | cons a t => exact ⟨a, t, rfl⟩
  have o0 := o 0 x0 rfl
  have o1 := o 1 x1 rfl
  have hkx : n.kind = x0 := by rw [hnd]; rfl
  have hnx : n.n = x1 := by rw [hnd]; rfl
  unfold rowP
  simp only [List.map_cons, List.map_map, List.getD_cons_zero, List.getD_cons_succ]
  rw [numI_digs (by have := o0.2.1 (by decide); omega)]
  simp only [Option.bind_some]
  rw [if_pos ⟨by omega, by omega, by
    rw [← hkx]; simp only [List.length_cons, List.length_map] at hlm ⊢; omega⟩, numU_digs o1.1]
  simp only [Option.bind_some, List.drop_succ_cons, List.drop_zero]
  have hp : ∀ qs : List Nat, (∀ x ∈ qs, x < had.length) → partsP had (qs.map (strO ∘ digs)) = some (qs.map fun x => had.getD x 0) := by
    intro qs
    induction qs with
    | nil => intro _; rfl
    | cons q qs ih =>
      intro hq
      rw [List.map_cons, partsP]
      show (ixP had (strO (digs q))).bind _ = _
      rw [ix_digs (hq q (by simp)) hl, ih (fun x hx => hq x (by simp [hx]))]
      rfl
  rw [hp ps (fun x hx => by
    obtain ⟨j, hj⟩ := List.mem_iff_getElem?.1 hx
    exact (o (j + 2) x (by simpa using hj)).2.2.1 (by omega))]
  simp only [Option.map_some]
  congr 1
  rw [hnd]
  have hd : ∀ j, (ps.map fun x => had.getD x 0).getD j 0 = pX had (x0 :: x1 :: ps) (j + 2) := fun j => by
    unfold pX
    simp only [List.length_cons, List.getD_cons_succ]
    by_cases hj : j < ps.length
    · rw [if_pos (by omega)]; simp [List.getD, hj]
    · rw [if_neg (by omega)]; simp [List.getD, hj]
  unfold ndP ndX
  rw [hd, hd, hd]; rfl
/-! What the document's Read tells, the layer's tells too. No program in sight. -/
theorem RefRun.build {A : Ar} {rows : List (List UInt8)} {A1 : Ar} {had1 : List Int} (h : RefRun A rows A1 had1) : rows.length ≤ 65536 → ∀ rest : List (List UInt8), buildF ((rows ++ rest).map strO) A [] = buildF (rest.map strO) A1 had1 := by
  induction h with
  | nil => intro _ rest; rfl
  | @snoc rows A1 had r n h1 h2 h3 ih =>
    intro hl rest
    simp only [List.length_append, List.length_singleton] at hl
    have hlen := h1.len
    rw [List.append_assoc, List.singleton_append, ih (by omega)]
    rw [List.map_cons, buildF, h2.row (by omega)]
    simp only
    rw [if_neg (by rw [h3]; decide), if_neg (by rw [h3]; decide)]
theorem splitL_len (c : UInt8) : ∀ l : List UInt8, (splitL c l).length ≤ l.length + 1
  | [] => by simp [splitL]
  | b :: l => by
    have ih := splitL_len c l
    by_cases hb : b = c
    · subst hb; rw [splitL_here]; simp; omega
    · obtain ⟨y, t, hy⟩ := List.exists_cons_of_ne_nil (splitL_ne c l)
      rw [splitL_other hb hy]; rw [hy] at ih; simp at ih ⊢; omega
theorem run_buildA {A : Ar} {s : List UInt8} {rows : List (List UInt8)} {A' : Ar} {had : List Int} (hs : s.length ≤ 60000) (h1 : splitL 59 s = rows ++ [[]]) (h2 : rows ≠ []) (h3 : RefRun A rows A' had) : buildA A (strO s) = (A', had.getLastD 0, 0) := by
  have hlen := splitL_len 59 s
  rw [h1] at hlen
  simp only [List.length_append, List.length_singleton] at hlen
  have hb := h3.build (by omega) []
  rw [List.append_nil] at hb
  unfold buildA
  rw [splitS_eq, h1, List.map_append]
  have hr1 : 1 ≤ rows.length := List.length_pos_iff.2 h2
  rw [if_neg]
  · rw [show ([[]] : List (List UInt8)).map strO = [strO []] from rfl, dropLast_snoc, hb]; rfl
  · rw [not_or]
    refine ⟨by simp; omega, ?_⟩
    rw [List.getLastD_eq_getLast?]; simp [strO]
theorem node_digs {rows had : List Int} {n : Nd} (hl : had.length ≤ 65536) (hf : 0 ≤ n.n ∧ n.n ≤ 18446744073709551615 ∧ 0 ≤ n.kind ∧ n.kind ≤ 9) (hk : ∀ p ∈ kids n, rows.idxOf p < had.length) :
    NodeOk had (splitL 32 (rowB rows n)) (mpN rows had n) := by
  have h3 := many_le n.kind
  have hkl := kids_length n
  have hkind : (mpN rows had n).kind = n.kind := rfl
  have hmi : manyI n.kind = many n.kind := by unfold manyI; rw [if_neg (by omega)]
  refine ⟨n.kind.toNat :: n.n.toNat :: (kids n).map fun p => rows.idxOf p, by rw [split_row]; simp, fun j x hx => ?_, ?_, ?_, ?_⟩
  · match j, hx with
    | 0, hx => simp at hx; subst hx; exact ⟨by omega, fun _ => by omega, fun h => by omega, by omega⟩
    | 1, hx => simp at hx; subst hx; exact ⟨by omega, fun h => absurd rfl h, fun h => by omega, by omega⟩
    | j + 2, hx =>
      simp only [List.getElem?_cons_succ, List.getElem?_map] at hx
      obtain ⟨p, hp, rfl⟩ := Option.map_eq_some_iff.1 hx
      have := hk p (List.mem_of_getElem? hp)
      have hj := (List.getElem?_eq_some_iff.1 hp).1
      exact ⟨by omega, fun _ => by omega, fun _ => this, by omega⟩
  · refine nd_ext ?_ ?_ (fun k hk3 => ?_)
    · show n.kind = ((n.kind.toNat : Nat) : Int); omega
    · rfl
    · rw [mpN_part _ _ _ _ hk3]
      have hpx : ∀ j, pX had (n.kind.toNat :: n.n.toNat :: (kids n).map fun p => rows.idxOf p) (j + 2) = if j < many n.kind then mp rows had (([n.a, n.b, n.c] : List Int).getD j 0) else 0 := fun j => by
        unfold pX
        simp only [List.length_cons, List.length_map, List.getD_cons_succ, hkl]
        by_cases hj : j < many n.kind
        · rw [if_pos (by omega), if_pos hj]
          have hj3 : j < ([n.a, n.b, n.c] : List Int).length := by simp only [List.length_cons, List.length_nil]; omega
          unfold mp kids
          simp only [List.getD, List.getElem?_map, List.getElem?_take, if_pos hj, List.getElem?_eq_getElem hj3]
          rfl
        · rw [if_neg (by omega), if_neg hj]
      match k, hk3 with
      | 0, _ => exact (hpx 0).symm
      | 1, _ => exact (hpx 1).symm
      | 2, _ => exact (hpx 2).symm
  · rw [hkind, hmi, split_row]; simp only [List.length_cons, List.length_map, hkl]; omega
  · rw [hkind, hmi]; omega
theorem canon_run {l : List Nd} {rows : List Int} (w : Wf l) (hr : Refs l rows) (hcl : ∀ (k : Nat) (y : Int), rows[k]? = some y → ∀ p ∈ kids (nd l y), p ∈ rows.take k) (hlen : rows.length ≤ 65536) (A : Ar) :
    ∀ (ys : List Int) (A1 : Ar) (had : List Int), rows = rows.take had.length ++ ys → had.length + ys.length = rows.length → RefRun A ((rows.take had.length).map fun y => rowB rows (nd l y)) A1 had → (buildF (ys.map fun y => strO (rowB rows (nd l y))) A1 had).2.2 = 0 →
      ∃ A' had', RefRun A (rows.map fun y => rowB rows (nd l y)) A' had'
  | [], A1, had, h1, h2, hrun, _ => by
    have hh : rows.take had.length = rows := by simpa using h1.symm
    rw [hh] at hrun; exact ⟨A1, had, hrun⟩
  | y :: ys, A1, had, h1, h2, hrun, hc => by
    simp only [List.length_cons] at h2
    have hat : rows[had.length]? = some y := by
      rw [h1, List.getElem?_append_right (by simp; omega)]
      have : (rows.take had.length).length = had.length := by simp; omega
      rw [this]; simp
    have hyl := hr.has y (List.mem_of_getElem? hat)
    have hkd := hcl _ _ hat
    have hfit := w.fits _ (nd_mem hyl)
    have hrow := row_digs (rows := rows) (had := had) (n := nd l y) (by omega) hfit (fun p hp => idx_take (hkd p hp))
    have hnode := node_digs (rows := rows) (had := had) (n := nd l y) (by omega) hfit (fun p hp => idx_take (hkd p hp))
    have htk : rows.take (had.length + 1) = rows.take had.length ++ [y] := by rw [List.take_add_one, hat]; rfl
    simp only [List.map_cons, buildF, hrow] at hc
    by_cases c1 : (mk A1 (mpN rows had (nd l y))).2.2 = 1
    · rw [if_pos c1] at hc; cases hc
    · rw [if_neg c1] at hc
      by_cases c2 : (mk A1 (mpN rows had (nd l y))).2.2 ≠ 0
      · rw [if_pos c2] at hc; exact absurd hc c2
      · rw [if_neg c2] at hc
        refine canon_run w hr hcl hlen A ys _ _ (by rw [List.length_append, List.length_singleton, htk, List.append_assoc]; exact h1) (by simp; omega) ?_ hc
        rw [List.length_append, List.length_singleton, htk, List.map_append]
        exact .snoc hrun hnode (by simpa using c2)
theorem canon_read {l : List Nd} (w : Wf l) (hR : ∀ n ∈ l, right l n = true) (hl : l.length ≤ 65536) {x : Int} (hx : has l x = true) {A : Ar} (hA : ArOk A) (hs : (text l x).length ≤ 60000) (hc : (buildA A (strO (text l x))).2.2 = 0) : ∃ A' y, ReadOk A (text l x) A' y := by
  have hr := rows_refs w (Refs.nil l) x
  obtain ⟨t, ht⟩ := rows_last w hx
  obtain ⟨A1, φ, b1, b2, b3, b4⟩ := back_buildA w hR hl hx hA (.inr hc)
  have hsp : splitL 59 (text l x) = ((rowsA l [] x).map fun y => rowB (rowsA l [] x) (nd l y)) ++ [[]] := by unfold text; rw [split_text]
  have hb : buildA A (strO (text l x)) = buildF ((rowsA l [] x).map fun y => strO (rowB (rowsA l [] x) (nd l y))) A [] := by
    unfold buildA
    rw [splitS_eq, hsp, List.map_append, List.map_map, if_neg]
    · rw [show ([[]] : List (List UInt8)).map strO = [strO []] from rfl, dropLast_snoc]; rfl
    · rw [not_or]
      refine ⟨by rw [ht]; simp, ?_⟩
      rw [List.getLastD_eq_getLast?]; simp [strO]
  rw [hb] at hc
  obtain ⟨A', had', hrun⟩ := canon_run w hr (rows_closed w x) (Nat.le_trans hr.length hl) A (rowsA l [] x) A [] (by simp) (by simp) .nil hc
  have hne : ((rowsA l [] x).map fun y => rowB (rowsA l [] x) (nd l y)) ≠ [] := by rw [ht]; simp
  have hbb := run_buildA hs hsp hne hrun
  rw [b1] at hbb
  have e1 := (Prod.mk.inj hbb).1
  have e2 := (Prod.mk.inj (Prod.mk.inj hbb).2).1
  refine ⟨A', had'.getLastD 0, _, had', hsp, hne, hrun, rfl, ?_⟩
  rw [← e1, ← e2]
  exact b4.text w b2.wf (rows_mem w hx)
theorem build_limit : ∀ (ss : List ByteArray) (l : List Nd) (M L : Nat) (had : List Int), (buildF ss ⟨M, l⟩ had).2.2 = 0 → (buildF ss ⟨L, l⟩ had).2.2 = 0 ∨ (buildF ss ⟨L, l⟩ had).2.2 = 3
  | [], _, _, _, _, _ => .inl rfl
  | s :: ss, l, M, L, had, h => by
    simp only [buildF] at h ⊢
    cases hp : rowP had (splitS 32 s) with
    | none => rw [hp] at h; cases h
    | some n =>
      rw [hp] at h
      simp only at h ⊢
      by_cases h1 : (mk ⟨M, l⟩ n).2.2 = 1
      · rw [if_pos h1] at h; cases h
      · rw [if_neg h1] at h
        by_cases h2 : (mk ⟨M, l⟩ n).2.2 ≠ 0
        · rw [if_pos h2] at h; exact absurd h h2
        · rw [if_neg h2] at h
          have h3 : (mk ⟨M, l⟩ n).2.2 = 0 := by simpa using h2
          have hright := mk_zero h3
          have hright' : right l n = true := hright
          unfold mk at h ⊢
          simp only [hright', Bool.true_eq_false, if_false] at h ⊢
          cases hi : l.idxOf? n with
          | some i =>
            rw [hi] at h
            simp only at h ⊢
            simpa using build_limit ss l M L _ h
          | none =>
            rw [hi] at h
            by_cases hfull : L ≤ l.length
            · simp [hfull]
            · unfold mk at h3
              simp only [hright', Bool.true_eq_false, if_false, hi] at h3
              by_cases hM : M ≤ l.length
              · simp [hM] at h3
              · simp only [if_neg hM] at h
                simp only [if_neg hfull]
                simpa using build_limit ss (l ++ [n]) M L _ (by simpa using h)
theorem reads_law {A : Ar} (hA : ArOk A) (s : ByteArray) (hs : s.size ≤ 600) :
    ((∀ O x, ¬ ReadOk (newAr 65536) s.data.toList O x) → readA A s = (A, 0, 2)) ∧
    ∀ O x, ReadOk (newAr 65536) s.data.toList O x → (∀ B y, ReadOk A s.data.toList B y → readA A s = (B, y, 0)) ∧ ((∀ B y, ¬ ReadOk A s.data.toList B y) → readA A s = (A, 0, 3)) := by
  have hsl : s.data.toList.length = s.size := by simp
  have hss : s = strO s.data.toList := (strO_toList s).symm
  have hsz : ¬ 16384 < s.size := by omega
  constructor
  · intro hno
    unfold readA
    rw [if_neg hsz]
    simp only
    rw [if_pos]
    by_cases h1 : (buildA (newAr 65536) s).2.2 = 0
    · right
      intro h2
      obtain ⟨o1, o2, o3, -⟩ := buildA_again (arOk_new 65536) h1
      have o4 : (buildA (newAr 65536) s).1.l.length ≤ 65536 := o3 (by decide)
      generalize hO : (buildA (newAr 65536) s).1 = O at *
      generalize hX : (buildA (newAr 65536) s).2.1 = X at *
      cases hh : has O.l X with
      | false =>
        rw [text_none o1.wf hh] at h2
        rw [hss, ← h2, build_empty] at h1; cases h1
      | true =>
        rw [hss, ← h2] at h1
        obtain ⟨A', y, hy⟩ := canon_read o1.wf o1.right o4 hh (arOk_new 65536) (by rw [h2]; omega) h1
        rw [h2] at hy
        exact hno A' y hy
    · exact .inl h1
  · rintro O x ⟨rows, had, h1, h2, h3, h4, h5⟩
    have hb := run_buildA (by omega) h1 h2 h3
    rw [← hss] at hb
    have hb1 : (buildA (newAr 65536) s).1 = O := by rw [hb]
    have hb2 : (buildA (newAr 65536) s).2.1 = x := by rw [hb, h4]
    have hb3 : (buildA (newAr 65536) s).2.2 = 0 := by rw [hb]
    have e : readA A s = if (buildA A s).2.2 ≠ 0 then (A, 0, (buildA A s).2.2) else buildA A s := by
      unfold readA; rw [if_neg hsz]; simp only
      rw [if_neg (by rw [hb1, hb2, hb3, h5]; simp)]
    refine ⟨fun B y hB => ?_, fun hno => ?_⟩
    · obtain ⟨rows2, had2, g1, g2, g3, g4, g5⟩ := hB
      have gb := run_buildA (by omega) g1 g2 g3
      rw [← hss] at gb
      rw [e, gb, if_neg (by simp), g4]
    · obtain ⟨o1, o2, o3, -⟩ := buildA_again (arOk_new 65536) hb3
      have o4 : (buildA (newAr 65536) s).1.l.length ≤ 65536 := o3 (by decide)
      rw [hb1] at o1 o4
      have hs2 : s = strO (text O.l x) := by rw [h5]; exact hss
      have hh : has O.l x = true := by
        cases hh : has O.l x with
        | true => rfl
        | false =>
          rw [text_none o1.wf hh] at hs2
          rw [hs2, build_empty] at hb3; cases hb3
      have hc : (buildA A s).2.2 ≠ 0 := fun hc => by
        rw [hs2] at hc
        obtain ⟨B, y, hy⟩ := canon_read o1.wf o1.right o4 hh hA (by rw [h5]; omega) hc
        rw [h5] at hy; exact hno B y hy
      have h3c : (buildA A s).2.2 = 3 := by
        have hr := rows_refs o1.wf (Refs.nil O.l) x
        obtain ⟨D, φ, d1, _⟩ := back_buildA o1.wf o1.right o4 hh (A := ⟨A.l.length + (rowsA O.l [] x).length, A.l⟩) ⟨hA.wf, hA.right⟩ (.inl (Nat.le_refl _))
        rw [← hs2] at d1
        have hd0 : (buildA ⟨A.l.length + (rowsA O.l [] x).length, A.l⟩ s).2.2 = 0 := by rw [d1]
        have hlim : ∀ L : Nat, (buildA ⟨L, A.l⟩ s).2.2 = 0 ∨ (buildA ⟨L, A.l⟩ s).2.2 = 3 := fun L => by
          unfold buildA at hd0 ⊢
          by_cases hq : (splitS 59 s).length < 2 ∨ (splitS 59 s).getLastD ⟨#[]⟩ ≠ ⟨#[]⟩
          · rw [if_pos hq] at hd0; cases hd0
          · rw [if_neg hq] at hd0 ⊢; exact build_limit _ _ _ _ _ hd0
        have := hlim A.limit
        rcases this with h | h
        · exact absurd h hc
        · exact h
      rw [e, if_pos hc, h3c]
end Go.Proofs.YtfelbecofbdeaaaGreatDoor
