/- What is written is read. No program in sight. -/
import Derived.Test.YtfelbecofbdeaaaGreatDoorDg
import Derived.Test.YtfelbecofbdeaaaGreatDoorEmb
import Derived.Test.YtfelbecofbdeaaaGreatDoorTerm6
namespace Go.Proofs.YtfelbecofbdeaaaGreatDoor
open Go.RowKit

/-- An arena whose terms are right. -/
structure ArOk (A : Ar) : Prop where
  wf : Wf A.l
  right : ∀ n ∈ A.l, Go.Proofs.YtfelbecofbdeaaaGreatDoor.right A.l n = true
theorem arOk_new (limit : Int) : ArOk (newAr limit) where
  wf := wf_new
  right n hn := by
    have : n = Nd.zero := by simpa [newAr] using hn
    subst this; rfl
theorem arOk_mk {A : Ar} (h : ArOk A) {x : Nd} (h0 : 0 ≤ x.n) (h1 : x.n ≤ 18446744073709551615) : ArOk (mk A x).1 ∧ A.l <+: (mk A x).1.l ∧ (mk A x).1.limit = A.limit := by
  unfold mk
  by_cases hr : right A.l x = false
  · rw [if_pos hr]; exact ⟨h, List.prefix_rfl, rfl⟩
  · rw [if_neg hr]
    have hr : right A.l x = true := by simpa using hr
    cases hi : A.l.idxOf? x with
    | some i => exact ⟨h, List.prefix_rfl, rfl⟩
    | none =>
      by_cases hl : A.limit ≤ A.l.length
      · simp only [if_pos hl]; exact ⟨h, List.prefix_rfl, trivial⟩
      · simp only [if_neg hl]
        have hw := wf_snoc h.wf hr hi h0 h1
        refine ⟨⟨hw, fun n hn => ?_⟩, List.prefix_append _ _, trivial⟩
        rcases List.mem_append.1 hn with hn | hn
        · exact right_pre h.wf hw (List.prefix_append _ _) (h.right n hn)
        · simp at hn; subst hn; exact right_pre h.wf hw (List.prefix_append _ _) hr
/-- What Mk makes of a right node. -/
theorem mk_right {A : Ar} {x : Nd} (hr : right A.l x = true) : (mk A x).2.2 = 3 ∧ A.limit ≤ A.l.length ∨ (mk A x).2.2 = 0 ∧ has (mk A x).1.l (mk A x).2.1 = true ∧ nd (mk A x).1.l (mk A x).2.1 = x ∧ (mk A x).1.l.length ≤ A.l.length + 1 := by
  unfold mk
  rw [if_neg (by rw [hr]; decide)]
  cases hi : A.l.idxOf? x with
  | some i =>
    have hx : A.l[i]? = some x := by
      rw [List.idxOf?, List.findIdx?_eq_some_iff_getElem] at hi
      obtain ⟨hl, he, _⟩ := hi
      rw [List.getElem?_eq_getElem hl]; simpa using he
    right
    refine ⟨rfl, has_iff.2 ?_, nd_of_getElem? (i := i) hx, Nat.le_succ _⟩
    have := (List.getElem?_eq_some_iff.1 hx).1
    simp only; omega
  | none =>
    by_cases hl : A.limit ≤ A.l.length
    · left; simp only [if_pos hl]; exact ⟨trivial, hl⟩
    · right
      simp only [if_neg hl]
      refine ⟨trivial, has_iff.2 (by simp only [List.length_append, List.length_singleton]; omega), nd_of_getElem? (i := A.l.length) (by simp), by simp⟩
def mp (rows had : List Int) (p : Int) : Int := had.getD (rows.idxOf p) 0
def mpN (rows had : List Int) (n : Nd) : Nd := ndP n.kind n.n.toNat ((kids n).map (mp rows had))
theorem mpN_part (rows had : List Int) (n : Nd) (k : Nat) (hk : k < 3) : (mpN rows had n).part k = if k < many n.kind then mp rows had (n.part k) else 0 := by
  have h3 := many_le n.kind
  have hg : ∀ j, ((kids n).map (mp rows had)).getD j 0 = if j < many n.kind then mp rows had (([n.a, n.b, n.c] : List Int).getD j 0) else 0 := fun j => by
    unfold kids
    simp only [List.getD, List.getElem?_map, List.getElem?_take]
    by_cases hj : j < many n.kind
    · rw [if_pos hj, if_pos hj, List.getElem?_eq_getElem (by simp; omega)]; rfl
    · rw [if_neg hj, if_neg hj]; rfl
  match k, hk with
  | 0, _ => exact hg 0
  | 1, _ => exact hg 1
  | 2, _ => exact hg 2
theorem ix_digs {had : List Int} {i : Nat} (h : i < had.length) (hl : had.length ≤ 65536) : ixP had (strO (digs i)) = some (had.getD i 0) := by
  unfold ixP
  rw [numI_digs (by omega)]
  simp only [Option.bind_some]
  rw [if_pos (by omega)]
  simp [List.getD, h]
theorem parts_digs {rows had : List Int} (hl : had.length ≤ 65536) : ∀ ks : List Int, (∀ p ∈ ks, rows.idxOf p < had.length) → partsP had (ks.map fun p => strO (digs (rows.idxOf p))) = some (ks.map (mp rows had))
  | [], _ => rfl
  | p :: ks, h => by
    rw [List.map_cons, partsP, ix_digs (h p (by simp)) hl, parts_digs hl ks (fun q hq => h q (by simp [hq]))]
    rfl
theorem row_digs {rows had : List Int} {n : Nd} (hl : had.length ≤ 65536) (hf : 0 ≤ n.n ∧ n.n ≤ 18446744073709551615 ∧ 0 ≤ n.kind ∧ n.kind ≤ 9) (hk : ∀ p ∈ kids n, rows.idxOf p < had.length) :
    rowP had (splitS 32 (strO (rowB rows n))) = some (mpN rows had n) := by
  rw [splitS_eq, split_row]
  simp only [List.map_cons, List.map_map]
  unfold rowP
  simp only [List.getD_cons_zero, List.getD_cons_succ]
  rw [numI_digs (by omega)]
  simp only [Option.bind_some]
  have hkk : ((n.kind.toNat : Nat) : Int) = n.kind := by omega
  rw [hkk, if_pos ⟨hf.2.2.1, by omega, by simp [kids_length]; omega⟩, numU_digs (by omega)]
  simp only [Option.bind_some, List.drop_succ_cons, List.drop_zero]
  have := parts_digs (rows := rows) hl (kids n) hk
  rw [show (strO ∘ fun p => digs (rows.idxOf p)) = fun p => strO (digs (rows.idxOf p)) from rfl, this]
  rfl
theorem idx_take {rows : List Int} {p : Int} {k : Nat} (h : p ∈ rows.take k) : rows.idxOf p < k := by
  rw [← idxOf_take h]
  have := List.idxOf_lt_length_of_mem h
  simp at this; omega
theorem mp_app {rows had : List Int} {r p : Int} (h : rows.idxOf p < had.length) : mp rows (had ++ [r]) p = mp rows had p := by
  unfold mp
  simp [List.getD, List.getElem?_append_left h]
theorem back_build {l : List Nd} {rows : List Int} (w : Wf l) (hR : ∀ n ∈ l, right l n = true) (hr : Refs l rows) (hcl : ∀ (k : Nat) (y : Int), rows[k]? = some y → ∀ p ∈ kids (nd l y), p ∈ rows.take k) (hlen : rows.length ≤ 65536) :
    ∀ (ys : List Int) (A : Ar) (had : List Int), rows = rows.take had.length ++ ys → had.length + ys.length = rows.length → ArOk A → Emb l A.l (mp rows had) (fun x => x ∈ rows.take had.length) →
      (A.l.length + ys.length ≤ A.limit ∨ (buildF (ys.map fun y => strO (rowB rows (nd l y))) A had).2.2 = 0) →
      ∃ A' had', buildF (ys.map fun y => strO (rowB rows (nd l y))) A had = (A', had'.getLastD 0, 0) ∧ had'.length = rows.length ∧ ArOk A' ∧ A.l <+: A'.l ∧ Emb l A'.l (mp rows had') (fun x => x ∈ rows)
  | [], A, had, h1, h2, hA, he, _ => by
    have hh : rows.take had.length = rows := by simpa using h1.symm
    rw [hh] at he
    exact ⟨A, had, rfl, by simpa using h2, hA, List.prefix_rfl, he⟩
  | y :: ys, A, had, h1, h2, hA, he, hroom => by
    simp only [List.length_cons] at h2
    have hat : rows[had.length]? = some y := by
      rw [h1, List.getElem?_append_right (by simp; omega)]
      have : (rows.take had.length).length = had.length := by simp; omega
      rw [this]; simp
    have hyr : y ∈ rows := List.mem_of_getElem? hat
    have hyl := hr.has y hyr
    have hkd := hcl _ _ hat
    have hfit := w.fits _ (nd_mem hyl)
    have hrow := row_digs (rows := rows) (had := had) (n := nd l y) (by omega) hfit (fun p hp => idx_take (hkd p hp))
    have hkind : (mpN rows had (nd l y)).kind = (nd l y).kind := rfl
    have hnum : (mpN rows had (nd l y)).n = (nd l y).n := by
      show (((nd l y).n.toNat : Nat) : Int) = _; omega
    have hright : right A.l (mpN rows had (nd l y)) = true := by
      refine he.right w hA.wf hkind hnum (fun k hk => ?_) (hR _ (nd_mem hyl))
      rw [mpN_part _ _ _ _ hk]
      by_cases hm : k < many (nd l y).kind
      · rw [if_pos hm, if_pos hm]; exact ⟨hkd _ (part_kid hm), rfl⟩
      · rw [if_neg hm, if_neg hm]
    have htk : rows.take (had.length + 1) = rows.take had.length ++ [y] := by rw [List.take_add_one, hat]; rfl
    have hidy : rows.idxOf y = had.length := by
      have hl : had.length < rows.length := by omega
      have h3 : rows[rows.idxOf y]? = some y := by
        have := List.idxOf_lt_length_of_mem hyr
        rw [List.getElem?_eq_getElem this]; simp
      exact (List.getElem?_inj (List.idxOf_lt_length_of_mem hyr) hr.nodup).1 (h3.trans hat.symm)
    have hmkA := arOk_mk hA (x := mpN rows had (nd l y)) (by rw [hnum]; omega) (by rw [hnum]; omega)
    have hmk := mk_right hright
    simp only [List.map_cons, buildF, hrow] at hroom ⊢
    generalize mk A (mpN rows had (nd l y)) = M at *
    obtain ⟨A1, r, e⟩ := M
    simp only at *
    rcases hmk with ⟨rfl, hfull⟩ | ⟨rfl, hhas, hnd, hlen1⟩
    · exfalso
      rcases hroom with h | h
      · simp only [List.length_cons] at h; omega
      · simp at h
    · simp only [show ¬ ((0 : Int) = 1) by decide, if_false, ne_eq, not_true_eq_false] at hroom ⊢
      have hpre := hmkA.2.1
      have he1 : Emb l A1.l (mp rows (had ++ [r])) (fun x => x ∈ rows.take (had ++ [r]).length) := by
        have hsplit : ∀ x, x ∈ rows.take (had ++ [r]).length → x ∈ rows.take had.length ∨ x = y := fun x hx => by
          rw [List.length_append, List.length_singleton, htk] at hx
          rcases List.mem_append.1 hx with h | h
          · exact .inl h
          · exact .inr (by simpa using h)
        have hin : ∀ x, x ∈ rows.take had.length → x ∈ rows.take (had ++ [r]).length := fun x hx => by
          rw [List.length_append, List.length_singleton, htk]; exact List.mem_append_left _ hx
        have hold : ∀ x, x ∈ rows.take had.length → mp rows (had ++ [r]) x = mp rows had x := fun x hx => mp_app (idx_take hx)
        have hnew : mp rows (had ++ [r]) y = r := by unfold mp; rw [hidy]; simp [List.getD]
        have hndo : ∀ x, x ∈ rows.take had.length → nd A1.l (mp rows (had ++ [r]) x) = nd A.l (mp rows had x) := fun x hx => by
          rw [hold x hx]; exact nd_pre hpre (he.hasm x hx)
        refine ⟨fun x hx => hr.has x (List.mem_of_mem_take hx), fun x hx => ?_, fun x hx => ?_, fun x hx => ?_, fun x hx k hk => ?_⟩
        · rcases hsplit x hx with h | rfl
          · rw [hold x h]; exact has_pre hpre (he.hasm x h)
          · rw [hnew]; exact hhas
        · rcases hsplit x hx with h | rfl
          · rw [hndo x h]; exact he.kind x h
          · rw [hnew, hnd]; exact hkind
        · rcases hsplit x hx with h | rfl
          · rw [hndo x h]; exact he.num x h
          · rw [hnew, hnd]; exact hnum
        · rcases hsplit x hx with h | rfl
          · have hp := he.part x h k hk
            rw [hndo x h]
            by_cases hm : k < many (nd l x).kind
            · rw [if_pos hm] at hp ⊢; exact ⟨hin _ hp.1, by rw [hold _ hp.1]; exact hp.2⟩
            · rw [if_neg hm] at hp ⊢; exact hp
          · rw [hnew, hnd, mpN_part _ _ _ _ hk]
            by_cases hm : k < many (nd l x).kind
            · have hpk := hkd _ (part_kid hm)
              rw [if_pos hm, if_pos hm]; exact ⟨hin _ hpk, (hold _ hpk).symm⟩
            · rw [if_neg hm, if_neg hm]
              refine ⟨?_, rfl⟩
              have hv := (w.valid _ (nd_mem hyl)).2
              match k, hk with
              | 0, _ => exact hv.1 (by omega)
              | 1, _ => exact hv.2.1 (by omega)
              | 2, _ => exact hv.2.2 (by omega)
      obtain ⟨A', had', b1, b2, b3, b4, b5⟩ := back_build w hR hr hcl hlen ys A1 (had ++ [r]) (by
        rw [List.length_append, List.length_singleton, htk, List.append_assoc]; exact h1) (by simp; omega) hmkA.1 he1 (by
        rcases hroom with h | h
        · left; rw [hmkA.2.2]; simp only [List.length_cons] at h; omega
        · exact .inr h)
      exact ⟨A', had', b1, b2, b3, hpre.trans b4, b5⟩
theorem rows_last {l : List Nd} (w : Wf l) {x : Int} (hx : has l x = true) : ∃ t, rowsA l [] x = t ++ [x] := by
  rw [rowsA_eq w, if_neg (by rw [hx]; simp)]; exact ⟨_, rfl⟩
theorem last_mp {rows had t : List Int} {x : Int} (ht : rows = t ++ [x]) (hn : rows.Nodup) (hl : had.length = rows.length) : had.getLastD 0 = mp rows had x := by
  have hx : rows.idxOf x = t.length := by
    rw [ht] at hn ⊢
    have : x ∉ t := fun h => by
      have := (List.nodup_append.1 hn).2.2 x h x (by simp); exact this rfl
    rw [List.idxOf_append, if_neg this]; simp
  unfold mp
  rw [hx]
  have hl2 : had.length = t.length + 1 := by rw [hl, ht]; simp
  rw [List.getLastD_eq_getLast?, List.getLast?_eq_getElem?, hl2]; rfl
theorem dropLast_snoc {α : Type} (l : List α) (x : α) : (l ++ [x]).dropLast = l := by simp
theorem back_buildA {l : List Nd} (w : Wf l) (hR : ∀ n ∈ l, right l n = true) (hl : l.length ≤ 65536) {x : Int} (hx : has l x = true) {A : Ar} (hA : ArOk A)
    (hroom : A.l.length + (rowsA l [] x).length ≤ A.limit ∨ (buildA A (strO (text l x))).2.2 = 0) :
    ∃ A' φ, buildA A (strO (text l x)) = (A', φ x, 0) ∧ ArOk A' ∧ A.l <+: A'.l ∧ Emb l A'.l φ (fun y => y ∈ rowsA l [] x) := by
  have hr := rows_refs w (Refs.nil l) x
  obtain ⟨t, ht⟩ := rows_last w hx
  have hs : splitS 59 (strO (text l x)) = ((rowsA l [] x).map fun y => strO (rowB (rowsA l [] x) (nd l y))) ++ [strO []] := by
    rw [splitS_eq]; unfold text; rw [split_text]; simp
  have hb : buildA A (strO (text l x)) = buildF ((rowsA l [] x).map fun y => strO (rowB (rowsA l [] x) (nd l y))) A [] := by
    unfold buildA
    rw [hs, if_neg]
    · rw [dropLast_snoc]
    · rw [not_or]
      refine ⟨by rw [ht]; simp, ?_⟩
      rw [List.getLastD_eq_getLast?]; simp [strO]
  rw [hb] at hroom ⊢
  obtain ⟨A', had', b1, b2, b3, b4, b5⟩ := back_build w hR hr (rows_closed w x) (Nat.le_trans hr.length hl) (rowsA l [] x) A [] (by simp) (by simp) hA
    ⟨fun y hy => by simp at hy, fun y hy => by simp at hy, fun y hy => by simp at hy, fun y hy => by simp at hy, fun y hy => by simp at hy⟩ hroom
  exact ⟨A', mp (rowsA l [] x) had', by rw [b1, last_mp ht hr.nodup b2], b3, b4, b5⟩
/-- In its own arena each is found. -/
theorem Emb.own {l m : List Nd} {φ : Int → Int} {D : Int → Prop} (e : Emb l m φ D) (w : Wf l) (wm : Wf m) (h : l <+: m) : ∀ (n : Nat) (x : Int), x.toNat < n → D x → φ x = x
  | 0, _, h, _ => by omega
  | n + 1, x, hn, hx => by
    have hxl := e.hasl x hx
    refine nd_inj wm (e.hasm x hx) (has_pre h hxl) ?_
    rw [nd_pre h hxl]
    refine nd_ext (e.kind x hx) (e.num x hx) (fun k hk => ?_)
    have p := e.part x hx k hk
    by_cases hm : k < many (nd l x).kind
    · rw [if_pos hm] at p
      have hlt := w.kid hxl (part_kid hm)
      rw [p.2]
      exact e.own w wm h n _ (by omega) p.1
    · rw [if_neg hm] at p
      rw [p.1, p.2]
end Go.Proofs.YtfelbecofbdeaaaGreatDoor
