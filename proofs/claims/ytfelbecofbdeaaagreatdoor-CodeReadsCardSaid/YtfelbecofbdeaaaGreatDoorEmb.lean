/- Terms of one arena found in another one: what is compared, what may be, what is written are the same. No program in sight. -/
import Derived.Test.YtfelbecofbdeaaaGreatDoorTxt
import Derived.Test.YtfelbecofbdeaaaGreatDoorTerm5
import Derived.Test.YtfelbecofbdeaaaGreatDoorCSz
namespace Go.Proofs.YtfelbecofbdeaaaGreatDoor
open Go.RowKit

/-- φ carries the terms D of l into m. -/
structure Emb (l m : List Nd) (φ : Int → Int) (D : Int → Prop) : Prop where
  hasl : ∀ x, D x → has l x = true
  hasm : ∀ x, D x → has m (φ x) = true
  kind : ∀ x, D x → (nd m (φ x)).kind = (nd l x).kind
  num : ∀ x, D x → (nd m (φ x)).n = (nd l x).n
  part : ∀ x, D x → ∀ k, k < 3 → if k < many (nd l x).kind then D ((nd l x).part k) ∧ (nd m (φ x)).part k = φ ((nd l x).part k) else (nd l x).part k = 0 ∧ (nd m (φ x)).part k = 0
theorem nd_ext {x y : Nd} (hk : x.kind = y.kind) (hn : x.n = y.n) (hp : ∀ k, k < 3 → x.part k = y.part k) : x = y := by
  obtain ⟨k, n, a, b, c⟩ := x
  obtain ⟨k', n', a', b', c'⟩ := y
  have h0 : a = a' := hp 0 (by omega)
  have h1 : b = b' := hp 1 (by omega)
  have h2 : c = c' := hp 2 (by omega)
  simp only at hk hn
  subst hk hn h0 h1 h2; rfl
theorem nd_inj {l : List Nd} (w : Wf l) {x y : Int} (hx : has l x = true) (hy : has l y = true) (h : nd l x = nd l y) : x = y := by
  have h1 := getElem?_of_has hx
  have h2 := getElem?_of_has hy
  rw [← h] at h2
  have hx0 := has_iff.1 hx
  have hy0 := has_iff.1 hy
  have := (List.getElem?_inj (by omega : x.toNat < l.length) w.nodup).1 (h1.trans h2.symm)
  omega
theorem part_kid {n : Nd} {k : Nat} (h : k < many n.kind) : n.part k ∈ kids n := by
  have h3 := many_le n.kind
  have hk : (kids n)[k]? = some (n.part k) := by
    unfold kids
    rw [List.getElem?_take, if_pos h]
    match k, h with
    | 0, _ => rfl
    | 1, _ => rfl
    | 2, _ => rfl
    | k + 3, h => omega
  exact List.mem_of_getElem? hk
theorem Emb.inj {l m : List Nd} {φ : Int → Int} {D : Int → Prop} (e : Emb l m φ D) (w : Wf l) : ∀ (n : Nat) (x y : Int), x.toNat < n → D x → D y → φ x = φ y → x = y
  | 0, _, _, h, _, _, _ => by omega
  | n + 1, x, y, h, hx, hy, hxy => by
    refine nd_inj w (e.hasl x hx) (e.hasl y hy) (nd_ext ?_ ?_ ?_)
    · rw [← e.kind x hx, ← e.kind y hy, hxy]
    · rw [← e.num x hx, ← e.num y hy, hxy]
    · intro k hk
      have hkk : (nd l x).kind = (nd l y).kind := by rw [← e.kind x hx, ← e.kind y hy, hxy]
      have p1 := e.part x hx k hk
      have p2 := e.part y hy k hk
      rw [← hkk] at p2
      by_cases hm : k < many (nd l x).kind
      · rw [if_pos hm] at p1 p2
        have hlt := w.kid (e.hasl x hx) (part_kid hm)
        exact e.inj w n _ _ (by omega) p1.1 p2.1 (by rw [← p1.2, ← p2.2, hxy])
      · rw [if_neg hm] at p1 p2
        rw [p1.1, p2.1]
theorem cmpF_self (f : Nat) (l : List Nd) (x : Int) : cmpF f l x x = 0 := by cases f <;> simp [cmpF]
theorem cmpF_parts {f : Nat} {l : List Nd} {x y : Int} (hne : x ≠ y) (hx : has l x = true) (hy : has l y = true) :
    cmpF (f + 1) l x y = if cmp2 (nd l x).kind (nd l y).kind ≠ 0 then cmp2 (nd l x).kind (nd l y).kind else if cmp2 (nd l x).n (nd l y).n ≠ 0 then cmp2 (nd l x).n (nd l y).n else
      if cmpF f l ((nd l x).part 0) ((nd l y).part 0) ≠ 0 then cmpF f l ((nd l x).part 0) ((nd l y).part 0) else if cmpF f l ((nd l x).part 1) ((nd l y).part 1) ≠ 0 then cmpF f l ((nd l x).part 1) ((nd l y).part 1) else cmpF f l ((nd l x).part 2) ((nd l y).part 2) :=
  cmpF_top hne hx hy rfl rfl
theorem Emb.cmp {l m : List Nd} {φ : Int → Int} {D : Int → Prop} (e : Emb l m φ D) (w : Wf l) : ∀ (f : Nat) (x y : Int), D x → D y → cmpF f m (φ x) (φ y) = cmpF f l x y
  | 0, _, _, _, _ => rfl
  | f + 1, x, y, hx, hy => by
    by_cases hxy : x = y
    · subst hxy; rw [cmpF_self, cmpF_self]
    · have hne : φ x ≠ φ y := fun h => hxy (e.inj w (x.toNat + 1) x y (by omega) hx hy h)
      rw [cmpF_parts hxy (e.hasl x hx) (e.hasl y hy), cmpF_parts hne (e.hasm x hx) (e.hasm y hy), e.kind x hx, e.kind y hy, e.num x hx, e.num y hy]
      by_cases hk : cmp2 (nd l x).kind (nd l y).kind = 0
      · have hkk := cmp2_zero hk
        have hp : ∀ k, k < 3 → cmpF f m ((nd m (φ x)).part k) ((nd m (φ y)).part k) = cmpF f l ((nd l x).part k) ((nd l y).part k) := by
          intro k hk3
          have p1 := e.part x hx k hk3
          have p2 := e.part y hy k hk3
          rw [← hkk] at p2
          by_cases hm : k < many (nd l x).kind
          · rw [if_pos hm] at p1 p2
            rw [p1.2, p2.2]
            exact e.cmp w f _ _ p1.1 p2.1
          · rw [if_neg hm] at p1 p2
            rw [p1.1, p1.2, p2.1, p2.2, cmpF_self, cmpF_self]
        rw [hp 0 (by omega), hp 1 (by omega), hp 2 (by omega)]
      · rw [if_pos hk, if_pos hk]
theorem cmpF_fuel {l : List Nd} (w : Wf l) : ∀ (f g : Nat) (x y : Int), has l x = true → has l y = true → x.toNat < f → x.toNat < g → cmpF f l x y = cmpF g l x y
  | 0, _, _, _, _, _, h, _ => by omega
  | _, 0, _, _, _, _, _, h => by omega
  | f + 1, g + 1, x, y, hx, hy, hf, hg => by
    by_cases hxy : x = y
    · subst hxy; rw [cmpF_self, cmpF_self]
    · rw [cmpF_parts hxy hx hy, cmpF_parts hxy hx hy]
      by_cases hk : cmp2 (nd l x).kind (nd l y).kind = 0
      · have hkk := cmp2_zero hk
        have d1 := w.down hx hy hxy hkk
        have d2 := w.down hy hx (Ne.symm hxy) hkk.symm
        have hx0 := has_iff.1 hx
        have hy0 := has_iff.1 hy
        have hp : ∀ k, k < 3 → cmpF f l ((nd l x).part k) ((nd l y).part k) = cmpF g l ((nd l x).part k) ((nd l y).part k) := by
          intro k hk3
          have hb : 0 ≤ (nd l x).part k ∧ (nd l x).part k < x ∧ 0 ≤ (nd l y).part k ∧ (nd l y).part k < y := by
            match k, hk3 with
            | 0, _ => exact ⟨d1.2.2.2.2.1, d1.2.1, d2.2.2.2.2.1, d2.2.1⟩
            | 1, _ => exact ⟨d1.2.2.2.2.2.1, d1.2.2.1, d2.2.2.2.2.2.1, d2.2.2.1⟩
            | 2, _ => exact ⟨d1.2.2.2.2.2.2, d1.2.2.2.1, d2.2.2.2.2.2.2, d2.2.2.2.1⟩
          exact cmpF_fuel w f g _ _ (has_iff.2 (by omega)) (has_iff.2 (by omega)) (by omega) (by omega)
        rw [hp 0 (by omega), hp 1 (by omega), hp 2 (by omega)]
      · rw [if_pos hk, if_pos hk]
theorem Emb.cmpA {l m : List Nd} {φ : Int → Int} {D : Int → Prop} (e : Emb l m φ D) (w : Wf l) (wm : Wf m) {x y : Int} (hx : D x) (hy : D y) : cmpA m (φ x) (φ y) = cmpA l x y := by
  unfold Go.Proofs.YtfelbecofbdeaaaGreatDoor.cmpA
  have h1 := has_iff.1 (e.hasl x hx)
  have h2 := has_iff.1 (e.hasm x hx)
  rw [cmpF_fuel wm (m.length + 1) (m.length + l.length + 1) _ _ (e.hasm x hx) (e.hasm y hy) (by omega) (by omega), e.cmp w _ x y hx hy]
  exact cmpF_fuel w _ _ _ _ (e.hasl x hx) (e.hasl y hy) (by omega) (by omega)
/-- A node of parts in D, and the node that has their likes. -/
theorem Emb.right {l m : List Nd} {φ : Int → Int} {D : Int → Prop} (e : Emb l m φ D) (w : Wf l) (wm : Wf m) {n n' : Nd} (hk : n'.kind = n.kind) (hn : n'.n = n.n)
    (hp : ∀ k, k < 3 → if k < many n.kind then D (n.part k) ∧ n'.part k = φ (n.part k) else n'.part k = 0) (hr : right l n = true) : right m n' = true := by
  unfold Go.Proofs.YtfelbecofbdeaaaGreatDoor.right at hr ⊢
  rw [hk]
  by_cases h1 : n.kind < 0 ∨ 9 < n.kind
  · rw [if_pos h1] at hr; cases hr
  · rw [if_neg h1] at hr ⊢
    have hnum : numberedP n' = numberedP n := by unfold numberedP; rw [hk, hn]
    rw [hnum]
    by_cases h2 : numberedP n = false
    · rw [if_pos h2] at hr; cases hr
    · rw [if_neg h2] at hr ⊢
      by_cases h3 : partsOk l n = false
      · rw [if_pos h3] at hr; cases hr
      · rw [if_neg h3] at hr
        have hok : partsOk m n' = true := by
          unfold partsOk
          rw [List.all_eq_true]
          intro k hk3
          have hk3 := List.mem_range.1 hk3
          have p := hp k hk3
          rw [hk]
          by_cases hm : k < many n.kind
          · rw [if_pos hm] at p ⊢
            rw [p.2]; exact e.hasm _ p.1
          · rw [if_neg hm] at p ⊢
            rw [p]; rfl
        rw [if_neg (by rw [hok]; decide)]
        by_cases h4 : n.kind = 3
        · rw [if_pos h4] at hr ⊢
          have p0 := hp 0 (by omega)
          have p1 := hp 1 (by omega)
          rw [h4] at p0 p1
          have q0 : D n.a ∧ n'.a = φ n.a := p0
          have q1 : D n.b ∧ n'.b = φ n.b := p1
          rw [q0.2, q1.2, e.cmpA w wm q0.1 q1.1]; exact hr
        · rw [if_neg h4] at hr ⊢
          by_cases h5 : n.kind = 4
          · rw [if_pos h5] at hr ⊢
            have p1 := hp 1 (by omega)
            rw [h5] at p1
            have q1 : D n.b ∧ n'.b = φ n.b := p1
            rw [q1.2, e.kind _ q1.1]; exact hr
          · rw [if_neg h5]
/-- The same terms, where more have come. -/
theorem has_pre {l m : List Nd} (h : l <+: m) {x : Int} (hx : has l x = true) : has m x = true := by
  have h1 := h.length_le
  have h2 := has_iff.1 hx
  exact has_iff.2 (by omega)
theorem nd_pre {l m : List Nd} (h : l <+: m) {x : Int} (hx : has l x = true) : nd m x = nd l x := by
  obtain ⟨t, rfl⟩ := h
  have hx0 := has_iff.1 hx
  have hl : x.toNat < l.length := by omega
  simp only [nd, List.getD, List.getElem?_append_left hl]
theorem Emb.pre {l m : List Nd} (w : Wf l) (h : l <+: m) : Emb l m id (fun x => has l x = true) where
  hasl _ hx := hx
  hasm _ hx := has_pre h hx
  kind x hx := by rw [id, nd_pre h hx]
  num x hx := by rw [id, nd_pre h hx]
  part x hx k hk := by
    rw [id, nd_pre h hx]
    by_cases hm : k < many (nd l x).kind
    · rw [if_pos hm]; exact ⟨(w.kid hx (part_kid hm)).2.2, rfl⟩
    · rw [if_neg hm]
      have hv := (w.valid _ (nd_mem hx)).2
      have : (nd l x).part k = 0 := by
        match k, hk with
        | 0, _ => exact hv.1 (by omega)
        | 1, _ => exact hv.2.1 (by omega)
        | 2, _ => exact hv.2.2 (by omega)
      exact ⟨this, this⟩
theorem right_pre {l m : List Nd} (w : Wf l) (wm : Wf m) (h : l <+: m) {n : Nd} (hr : right l n = true) : right m n = true := by
  refine (Emb.pre w h).right w wm rfl rfl (fun k hk => ?_) hr
  have hp : partsOk l n = true := by
    cases hq : partsOk l n with
    | true => rfl
    | false => rw [right_bad (.inr (.inr (.inr hq)))] at hr; cases hr
  unfold partsOk at hp
  rw [List.all_eq_true] at hp
  have := hp k (List.mem_range.2 hk)
  by_cases hm : k < many n.kind
  · rw [if_pos hm] at this ⊢; exact ⟨this, rfl⟩
  · rw [if_neg hm] at this ⊢; simpa using this
theorem Emb.kids {l m : List Nd} {φ : Int → Int} {D : Int → Prop} (e : Emb l m φ D) {x : Int} (hx : D x) : kids (nd m (φ x)) = (kids (nd l x)).map φ ∧ ∀ p ∈ kids (nd l x), D p := by
  have h3 := many_le (nd l x).kind
  have hp := fun k hk => e.part x hx k hk
  have hat : ∀ k, k < many (nd l x).kind → D ((nd l x).part k) ∧ (nd m (φ x)).part k = φ ((nd l x).part k) := fun k hk => by
    have := hp k (by omega); rw [if_pos hk] at this; exact this
  constructor
  · unfold Go.Proofs.YtfelbecofbdeaaaGreatDoor.kids
    rw [e.kind x hx, ← List.map_take.symm]
    refine List.ext_getElem? fun k => ?_
    rw [List.getElem?_take, List.getElem?_take]
    by_cases hk : k < many (nd l x).kind
    · rw [if_pos hk, if_pos hk]
      have := (hat k hk).2
      match k, hk, this with
      | 0, _, h => exact congrArg some h
      | 1, _, h => exact congrArg some h
      | 2, _, h => exact congrArg some h
      | k + 3, hk, _ => omega
    · rw [if_neg hk, if_neg hk]
  · intro p hpk
    obtain ⟨k, hk⟩ := List.mem_iff_getElem?.1 hpk
    have hkl : k < many (nd l x).kind := by have := (List.getElem?_eq_some_iff.1 hk).1; rw [kids_length] at this; exact this
    have := (hat k hkl).1
    unfold Go.Proofs.YtfelbecofbdeaaaGreatDoor.kids at hk
    rw [List.getElem?_take, if_pos hkl] at hk
    match k, hkl, this, hk with
    | 0, _, h, hk => cases hk; exact h
    | 1, _, h, hk => cases hk; exact h
    | 2, _, h, hk => cases hk; exact h
    | k + 3, hkl, _, _ => omega
theorem Emb.rows {l m : List Nd} {φ : Int → Int} {D : Int → Prop} (e : Emb l m φ D) (w : Wf l) (wm : Wf m) : ∀ (n : Nat) (acc : List Int) (x : Int), x.toNat < n → D x → (∀ y ∈ acc, D y) → rowsA m (acc.map φ) (φ x) = (rowsA l acc x).map φ ∧ ∀ y ∈ rowsA l acc x, D y
  | 0, _, _, h, _, _ => by omega
  | n + 1, acc, x, h, hx, ha => by
    have hi : φ x ∈ acc.map φ ↔ x ∈ acc := ⟨fun hh => by
      obtain ⟨y, hy, hyx⟩ := List.mem_map.1 hh
      exact e.inj w (y.toNat + 1) y x (by omega) (ha y hy) hx hyx ▸ hy, fun hh => List.mem_map.2 ⟨x, hh, rfl⟩⟩
    rw [rowsA_eq w, rowsA_eq wm, e.hasl x hx, e.hasm x hx]
    by_cases hc : x ∈ acc
    · rw [if_pos (.inr (hi.2 hc)), if_pos (.inr hc)]; exact ⟨rfl, ha⟩
    · rw [if_neg (fun h => h.elim (fun h => by cases h) (fun h => hc (hi.1 h))), if_neg (fun h => h.elim (fun h => by cases h) hc)]
      obtain ⟨hk, hkD⟩ := e.kids hx
      rw [hk]
      have hf : ∀ (ks a : List Int), (∀ p ∈ ks, p ∈ Go.Proofs.YtfelbecofbdeaaaGreatDoor.kids (nd l x)) → (∀ y ∈ a, D y) → (ks.map φ).foldl (rowsA m) (a.map φ) = (ks.foldl (rowsA l) a).map φ ∧ ∀ y ∈ ks.foldl (rowsA l) a, D y := by
        intro ks
        induction ks with
        | nil => intro a _ ha; exact ⟨rfl, ha⟩
        | cons p ks ih =>
          intro a hks ha
          have hp := hks p (by simp)
          have hlt := w.kid (e.hasl x hx) hp
          obtain ⟨h1, h2⟩ := e.rows w wm n a p (by omega) (hkD p hp) ha
          simp only [List.map_cons, List.foldl_cons]
          rw [h1]
          exact ih _ (fun q hq => hks q (by simp [hq])) h2
      obtain ⟨h1, h2⟩ := hf _ acc (fun p hp => hp) ha
      rw [h1]
      refine ⟨by simp, fun y hy => ?_⟩
      rcases List.mem_append.1 hy with hy | hy
      · exact h2 y hy
      · simp at hy; subst hy; exact hx
theorem idxOf_map {φ : Int → Int} {p : Int} : ∀ (rows : List Int), (∀ y ∈ rows, φ y = φ p → y = p) → (rows.map φ).idxOf (φ p) = rows.idxOf p
  | [], _ => rfl
  | y :: rows, h => by
    rw [List.map_cons, List.idxOf_cons, List.idxOf_cons]
    by_cases hy : y = p
    · subst hy; simp
    · have : φ y ≠ φ p := fun hh => hy (h y (by simp) hh)
      rw [beq_eq_false_iff_ne.2 hy, beq_eq_false_iff_ne.2 this, idxOf_map rows (fun z hz => h z (by simp [hz]))]
theorem Emb.text {l m : List Nd} {φ : Int → Int} {D : Int → Prop} (e : Emb l m φ D) (w : Wf l) (wm : Wf m) {x : Int} (hx : D x) : text m (φ x) = text l x := by
  obtain ⟨h1, h2⟩ := e.rows w wm (x.toNat + 1) [] x (by omega) hx (fun y hy => (List.not_mem_nil hy).elim)
  unfold Go.Proofs.YtfelbecofbdeaaaGreatDoor.text
  rw [List.map_nil] at h1
  rw [h1]
  generalize rowsA l [] x = rows at *
  unfold textR
  rw [List.flatMap_map]
  have hrow : ∀ y ∈ rows, rowText (rows.map φ) (nd m (φ y)) = rowText rows (nd l y) := fun y hy => by
    obtain ⟨hk, hkD⟩ := e.kids (h2 y hy)
    unfold rowText rowT1
    rw [hk, e.kind y (h2 y hy), e.num y (h2 y hy), List.flatMap_map]
    congr 2
    have : ∀ (ks : List Int), (∀ p ∈ ks, D p) → (ks.flatMap fun a => partT (rows.map φ) (φ a)) = ks.flatMap (partT rows) := by
      intro ks
      induction ks with
      | nil => intro _; rfl
      | cons p ks ih =>
        intro hD
        rw [List.flatMap_cons, List.flatMap_cons, ih (fun q hq => hD q (by simp [hq]))]
        congr 1
        unfold partT
        rw [idxOf_map rows (fun z hz hh => e.inj w (z.toNat + 1) z p (by omega) (h2 z hz) (hD p (by simp)) hh)]
    exact this _ hkD
  have : ∀ ys : List Int, (∀ y ∈ ys, y ∈ rows) → (ys.flatMap fun a => rowText (rows.map φ) (nd m (φ a))) = ys.flatMap fun y => rowText rows (nd l y) := by
    intro ys
    induction ys with
    | nil => intro _; rfl
    | cons y ys ih =>
      intro hys
      rw [List.flatMap_cons, List.flatMap_cons, ih (fun z hz => hys z (by simp [hz])), hrow y (hys y (by simp))]
  exact this rows (fun y hy => hy)
end Go.Proofs.YtfelbecofbdeaaaGreatDoor
