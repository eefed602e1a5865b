/- Packed by packn.py: Ext, Sync, Sync2. -/
import Derived.Test.YtikimmgileffgaaGreatDoorQk29
import Derived.Test.YtikimmgileffgaaGreatDoorQk14
import Derived.Test.YtikimmgileffgaaGreatDoorQk23
/- Terms of one arena found in another one; what Mk makes is there still, whatever comes behind it. No program in sight. -/
section
namespace Go.Proofs.YtikimmgileffgaaGreatDoor
open Go.RowKit
/-! Terms of one arena found in another one: what is compared, what may be, what is written are the same. No program in sight. -/
/-- φ carries the terms D of l into m. -/
structure Emb (l m : List Nd) (φ : Int → Int) (D : Int → Prop) : Prop where
  hasl : ∀ x, D x → has l x = true
  hasm : ∀ x, D x → has m (φ x) = true
  kind : ∀ x, D x → (nd m (φ x)).kind = (nd l x).kind
  num : ∀ x, D x → (nd m (φ x)).n = (nd l x).n
  part : ∀ x, D x → ∀ k, k < 3 → if k < many (nd l x).kind then D ((nd l x).part k) ∧ (nd m (φ x)).part k = φ ((nd l x).part k) else (nd l x).part k = 0 ∧ (nd m (φ x)).part k = 0
theorem nd_ext {x y : Nd} (hk : x.kind = y.kind) (hn : x.n = y.n) (hp : ∀ k, k < 3 → x.part k = y.part k) : x = y := by
  obtain ⟨k, n, a, b, c⟩ := x
  obtain ⟨k', n', a', b', c'⟩ := y
  have h0 : a = a' := hp 0 (by omega)
  have h1 : b = b' := hp 1 (by omega)
  have h2 : c = c' := hp 2 (by omega)
  simp only at hk hn
  subst hk hn h0 h1 h2; rfl
theorem nd_inj {l : List Nd} (w : Wf l) {x y : Int} (hx : has l x = true) (hy : has l y = true) (h : nd l x = nd l y) : x = y := by
  have h1 := getElem?_of_has hx
  have h2 := getElem?_of_has hy
  rw [← h] at h2
  have hx0 := has_iff.1 hx
  have hy0 := has_iff.1 hy
  have := (List.getElem?_inj (by omega : x.toNat < l.length) w.nodup).1 (h1.trans h2.symm)
  omega
theorem part_kid {n : Nd} {k : Nat} (h : k < many n.kind) : n.part k ∈ kids n := by
  have h3 := many_le n.kind
  have hk : (kids n)[k]? = some (n.part k) := by
    unfold kids
    rw [List.getElem?_take, if_pos h]
    match k, h with
    | 0, _ => rfl
    | 1, _ => rfl
    | 2, _ => rfl
    | k + 3, h => omega
  exact List.mem_of_getElem? hk
theorem Emb.inj {l m : List Nd} {φ : Int → Int} {D : Int → Prop} (e : Emb l m φ D) (w : Wf l) : ∀ (n : Nat) (x y : Int), x.toNat < n → D x → D y → φ x = φ y → x = y
  | 0, _, _, h, _, _, _ => by omega
  | n + 1, x, y, h, hx, hy, hxy => by
    refine nd_inj w (e.hasl x hx) (e.hasl y hy) (nd_ext ?_ ?_ ?_)
    · rw [← e.kind x hx, ← e.kind y hy, hxy]
    · rw [← e.num x hx, ← e.num y hy, hxy]
    · intro k hk
      have hkk : (nd l x).kind = (nd l y).kind := by rw [← e.kind x hx, ← e.kind y hy, hxy]
      have p1 := e.part x hx k hk
      have p2 := e.part y hy k hk
      rw [← hkk] at p2
      by_cases hm : k < many (nd l x).kind
      · rw [if_pos hm] at p1 p2
        have hlt := w.kid (e.hasl x hx) (part_kid hm)
        exact e.inj w n _ _ (by omega) p1.1 p2.1 (by rw [← p1.2, ← p2.2, hxy])
      · rw [if_neg hm] at p1 p2
        rw [p1.1, p2.1]
theorem cmpF_self (f : Nat) (l : List Nd) (x : Int) : cmpF f l x x = 0 := by cases f <;> simp [cmpF]
theorem cmpF_parts {f : Nat} {l : List Nd} {x y : Int} (hne : x ≠ y) (hx : has l x = true) (hy : has l y = true) :
    cmpF (f + 1) l x y = if cmp2 (nd l x).kind (nd l y).kind ≠ 0 then cmp2 (nd l x).kind (nd l y).kind else if cmp2 (nd l x).n (nd l y).n ≠ 0 then cmp2 (nd l x).n (nd l y).n else
      if cmpF f l ((nd l x).part 0) ((nd l y).part 0) ≠ 0 then cmpF f l ((nd l x).part 0) ((nd l y).part 0) else if cmpF f l ((nd l x).part 1) ((nd l y).part 1) ≠ 0 then cmpF f l ((nd l x).part 1) ((nd l y).part 1) else cmpF f l ((nd l x).part 2) ((nd l y).part 2) :=
  cmpF_top hne hx hy rfl rfl
theorem Emb.cmp {l m : List Nd} {φ : Int → Int} {D : Int → Prop} (e : Emb l m φ D) (w : Wf l) : ∀ (f : Nat) (x y : Int), D x → D y → cmpF f m (φ x) (φ y) = cmpF f l x y
  | 0, _, _, _, _ => rfl
  | f + 1, x, y, hx, hy => by
    by_cases hxy : x = y
    · subst hxy; rw [cmpF_self, cmpF_self]
    · have hne : φ x ≠ φ y := fun h => hxy (e.inj w (x.toNat + 1) x y (by omega) hx hy h)
      rw [cmpF_parts hxy (e.hasl x hx) (e.hasl y hy), cmpF_parts hne (e.hasm x hx) (e.hasm y hy), e.kind x hx, e.kind y hy, e.num x hx, e.num y hy]
      by_cases hk : cmp2 (nd l x).kind (nd l y).kind = 0
      · have hkk := cmp2_zero hk
        have hp : ∀ k, k < 3 → cmpF f m ((nd m (φ x)).part k) ((nd m (φ y)).part k) = cmpF f l ((nd l x).part k) ((nd l y).part k) := by
          intro k hk3
          have p1 := e.part x hx k hk3
          have p2 := e.part y hy k hk3
          rw [← hkk] at p2
          by_cases hm : k < many (nd l x).kind
          · rw [if_pos hm] at p1 p2
            rw [p1.2, p2.2]
            exact e.cmp w f _ _ p1.1 p2.1
          · rw [if_neg hm] at p1 p2
            rw [p1.1, p1.2, p2.1, p2.2, cmpF_self, cmpF_self]
        rw [hp 0 (by omega), hp 1 (by omega), hp 2 (by omega)]
      · rw [if_pos hk, if_pos hk]
theorem cmpF_fuel {l : List Nd} (w : Wf l) : ∀ (f g : Nat) (x y : Int), has l x = true → has l y = true → x.toNat < f → x.toNat < g → cmpF f l x y = cmpF g l x y
  | 0, _, _, _, _, _, h, _ => by omega
  | _, 0, _, _, _, _, _, h => by omega
  | f + 1, g + 1, x, y, hx, hy, hf, hg => by
    by_cases hxy : x = y
    · subst hxy; rw [cmpF_self, cmpF_self]
    · rw [cmpF_parts hxy hx hy, cmpF_parts hxy hx hy]
      by_cases hk : cmp2 (nd l x).kind (nd l y).kind = 0
      · have hkk := cmp2_zero hk
        have d1 := w.down hx hy hxy hkk
        have d2 := w.down hy hx (Ne.symm hxy) hkk.symm
        have hx0 := has_iff.1 hx
        have hy0 := has_iff.1 hy
        have hp : ∀ k, k < 3 → cmpF f l ((nd l x).part k) ((nd l y).part k) = cmpF g l ((nd l x).part k) ((nd l y).part k) := by
          intro k hk3
          have hb : 0 ≤ (nd l x).part k ∧ (nd l x).part k < x ∧ 0 ≤ (nd l y).part k ∧ (nd l y).part k < y := by
            match k, hk3 with
            | 0, _ => exact ⟨d1.2.2.2.2.1, d1.2.1, d2.2.2.2.2.1, d2.2.1⟩
            | 1, _ => exact ⟨d1.2.2.2.2.2.1, d1.2.2.1, d2.2.2.2.2.2.1, d2.2.2.1⟩
            | 2, _ => exact ⟨d1.2.2.2.2.2.2, d1.2.2.2.1, d2.2.2.2.2.2.2, d2.2.2.2.1⟩
          exact cmpF_fuel w f g _ _ (has_iff.2 (by omega)) (has_iff.2 (by omega)) (by omega) (by omega)
        rw [hp 0 (by omega), hp 1 (by omega), hp 2 (by omega)]
      · rw [if_pos hk, if_pos hk]
theorem Emb.cmpA {l m : List Nd} {φ : Int → Int} {D : Int → Prop} (e : Emb l m φ D) (w : Wf l) (wm : Wf m) {x y : Int} (hx : D x) (hy : D y) : cmpA m (φ x) (φ y) = cmpA l x y := by
  unfold Go.Proofs.YtikimmgileffgaaGreatDoor.cmpA
  have h1 := has_iff.1 (e.hasl x hx)
  have h2 := has_iff.1 (e.hasm x hx)
  rw [cmpF_fuel wm (m.length + 1) (m.length + l.length + 1) _ _ (e.hasm x hx) (e.hasm y hy) (by omega) (by omega), e.cmp w _ x y hx hy]
  exact cmpF_fuel w _ _ _ _ (e.hasl x hx) (e.hasl y hy) (by omega) (by omega)
/-- A node of parts in D, and the node that has their likes. -/
theorem Emb.right {l m : List Nd} {φ : Int → Int} {D : Int → Prop} (e : Emb l m φ D) (w : Wf l) (wm : Wf m) {n n' : Nd} (hk : n'.kind = n.kind) (hn : n'.n = n.n)
    (hp : ∀ k, k < 3 → if k < many n.kind then D (n.part k) ∧ n'.part k = φ (n.part k) else n'.part k = 0) (hr : right l n = true) : right m n' = true := by
  unfold Go.Proofs.YtikimmgileffgaaGreatDoor.right at hr ⊢
  rw [hk]
  by_cases h1 : n.kind < 0 ∨ 9 < n.kind
  · rw [if_pos h1] at hr; cases hr
  · rw [if_neg h1] at hr ⊢
    have hnum : numberedP n' = numberedP n := by unfold numberedP; rw [hk, hn]
    rw [hnum]
    by_cases h2 : numberedP n = false
    · rw [if_pos h2] at hr; cases hr
    · rw [if_neg h2] at hr ⊢
      by_cases h3 : partsOk l n = false
      · rw [if_pos h3] at hr; cases hr
      · rw [if_neg h3] at hr
        have hok : partsOk m n' = true := by
          unfold partsOk
          rw [List.all_eq_true]
          intro k hk3
          have hk3 := List.mem_range.1 hk3
          have p := hp k hk3
          rw [hk]
          by_cases hm : k < many n.kind
          · rw [if_pos hm] at p ⊢
            rw [p.2]; exact e.hasm _ p.1
          · rw [if_neg hm] at p ⊢
            rw [p]; rfl
        rw [if_neg (by rw [hok]; decide)]
        by_cases h4 : n.kind = 3
        · rw [if_pos h4] at hr ⊢
          have p0 := hp 0 (by omega)
          have p1 := hp 1 (by omega)
          rw [h4] at p0 p1
          have q0 : D n.a ∧ n'.a = φ n.a := p0
          have q1 : D n.b ∧ n'.b = φ n.b := p1
          rw [q0.2, q1.2, e.cmpA w wm q0.1 q1.1]; exact hr
        · rw [if_neg h4] at hr ⊢
          by_cases h5 : n.kind = 4
          · rw [if_pos h5] at hr ⊢
            have p1 := hp 1 (by omega)
            rw [h5] at p1
            have q1 : D n.b ∧ n'.b = φ n.b := p1
            rw [q1.2, e.kind _ q1.1]; exact hr
          · rw [if_neg h5]
/-- The same terms, where more have come. -/
theorem has_pre {l m : List Nd} (h : l <+: m) {x : Int} (hx : has l x = true) : has m x = true := by
  have h1 := h.length_le
  have h2 := has_iff.1 hx
  exact has_iff.2 (by omega)
theorem nd_pre {l m : List Nd} (h : l <+: m) {x : Int} (hx : has l x = true) : nd m x = nd l x := by
  obtain ⟨t, rfl⟩ := h
  have hx0 := has_iff.1 hx
  have hl : x.toNat < l.length := by omega
  simp only [nd, List.getD, List.getElem?_append_left hl]
theorem Emb.pre {l m : List Nd} (w : Wf l) (h : l <+: m) : Emb l m id (fun x => has l x = true) where
  hasl _ hx := hx
  hasm _ hx := has_pre h hx
  kind x hx := by rw [id, nd_pre h hx]
  num x hx := by rw [id, nd_pre h hx]
  part x hx k hk := by
    rw [id, nd_pre h hx]
    by_cases hm : k < many (nd l x).kind
    · rw [if_pos hm]; exact ⟨(w.kid hx (part_kid hm)).2.2, rfl⟩
    · rw [if_neg hm]
      have hv := (w.valid _ (nd_mem hx)).2
      have : (nd l x).part k = 0 := by
        match k, hk with
        | 0, _ => exact hv.1 (by omega)
        | 1, _ => exact hv.2.1 (by omega)
        | 2, _ => exact hv.2.2 (by omega)
      exact ⟨this, this⟩
theorem right_pre {l m : List Nd} (w : Wf l) (wm : Wf m) (h : l <+: m) {n : Nd} (hr : right l n = true) : right m n = true := by
  refine (Emb.pre w h).right w wm rfl rfl (fun k hk => ?_) hr
  have hp : partsOk l n = true := by
    cases hq : partsOk l n with
    | true => rfl
    | false => rw [right_bad (.inr (.inr (.inr hq)))] at hr; cases hr
  unfold partsOk at hp
  rw [List.all_eq_true] at hp
  have := hp k (List.mem_range.2 hk)
  by_cases hm : k < many n.kind
  · rw [if_pos hm] at this ⊢; exact ⟨this, rfl⟩
  · rw [if_neg hm] at this ⊢; simpa using this
/-- An arena whose terms are right. -/
structure ArOk (A : Ar) : Prop where
  wf : Wf A.l
  right : ∀ n ∈ A.l, Go.Proofs.YtikimmgileffgaaGreatDoor.right A.l n = true
theorem arOk_new (limit : Int) : ArOk (newAr limit) where
  wf := wf_new
  right n hn := by
    have : n = Nd.zero := by simpa [newAr] using hn
    subst this; rfl
theorem arOk_mk {A : Ar} (h : ArOk A) {x : Nd} (h0 : 0 ≤ x.n) (h1 : x.n ≤ 18446744073709551615) : ArOk (mk A x).1 ∧ A.l <+: (mk A x).1.l ∧ (mk A x).1.limit = A.limit := by
  unfold mk
  by_cases hr : right A.l x = false
  · rw [if_pos hr]; exact ⟨h, List.prefix_rfl, rfl⟩
  · rw [if_neg hr]
    have hr : right A.l x = true := by simpa using hr
    cases hi : A.l.idxOf? x with
    | some i => exact ⟨h, List.prefix_rfl, rfl⟩
    | none =>
      by_cases hl : A.limit ≤ A.l.length
      · simp only [if_pos hl]; exact ⟨h, List.prefix_rfl, trivial⟩
      · simp only [if_neg hl]
        have hw := wf_snoc h.wf hr hi h0 h1
        refine ⟨⟨hw, fun n hn => ?_⟩, List.prefix_append _ _, trivial⟩
        rcases List.mem_append.1 hn with hn | hn
        · exact right_pre h.wf hw (List.prefix_append _ _) (h.right n hn)
        · simp at hn; subst hn; exact right_pre h.wf hw (List.prefix_append _ _) hr
/-- What Mk makes of a right node. -/
theorem mk_right {A : Ar} {x : Nd} (hr : right A.l x = true) : (mk A x).2.2 = 3 ∧ A.limit ≤ A.l.length ∨ (mk A x).2.2 = 0 ∧ has (mk A x).1.l (mk A x).2.1 = true ∧ nd (mk A x).1.l (mk A x).2.1 = x ∧ (mk A x).1.l.length ≤ A.l.length + 1 := by
  unfold mk
  rw [if_neg (by rw [hr]; decide)]
  cases hi : A.l.idxOf? x with
  | some i =>
    have hx : A.l[i]? = some x := by
      rw [List.idxOf?, List.findIdx?_eq_some_iff_getElem] at hi
      obtain ⟨hl, he, _⟩ := hi
      rw [List.getElem?_eq_getElem hl]; simpa using he
    right
    refine ⟨rfl, has_iff.2 ?_, nd_of_getElem? (i := i) hx, Nat.le_succ _⟩
    have := (List.getElem?_eq_some_iff.1 hx).1
    simp only; omega
  | none =>
    by_cases hl : A.limit ≤ A.l.length
    · left; simp only [if_pos hl]; exact ⟨trivial, hl⟩
    · right
      simp only [if_neg hl]
      refine ⟨trivial, has_iff.2 (by simp only [List.length_append, List.length_singleton]; omega), nd_of_getElem? (i := A.l.length) (by simp), by simp⟩
theorem mk_firstX {A : Ar} {x : Nd} {k : Nat} (hR : right A.l x = true) (hz : ∀ j, j < k → A.l[j]? ≠ some x) (hk : A.l[k]? = some x) : mk A x = (A, ((k : Nat) : Int), (0 : Int)) := by
  have hi : A.l.idxOf? x = some k := by
    rw [List.idxOf?, List.findIdx?_eq_some_iff_getElem]
    obtain ⟨h1, h2⟩ := List.getElem?_eq_some_iff.1 hk
    refine ⟨h1, by simp [h2], fun j hj => ?_⟩
    have := hz j hj
    rw [List.getElem?_eq_getElem (by omega)] at this
    simpa using this
  simp [mk, hR, hi]
theorem mk_there {A : Ar} (w : Wf A.l) {x : Nd} {r : Int} (hr : right A.l x = true) (hh : has A.l r = true) (hx : nd A.l r = x) : mk A x = (A, r, 0) := by
  have hg := getElem?_of_has hh
  rw [hx] at hg
  have h0 := has_iff.1 hh
  have := mk_firstX (k := r.toNat) hr (fun j hj he => by
    have hjl := (List.getElem?_eq_some_iff.1 he).1
    have := (List.getElem?_inj hjl w.nodup).1 (he.trans hg.symm)
    omega) hg
  rw [this, show ((r.toNat : Nat) : Int) = r by omega]
end Go.Proofs.YtikimmgileffgaaGreatDoor
end
/- Two sides of a handshake come to the same: what is made is found again, by whoever makes it (layers 1, 10 to 12). No program in sight. -/
section
namespace Go.Proofs.YtikimmgileffgaaGreatDoor
open Go.RowKit

theorem cmp2_neg (x y : Int) : cmp2 y x = - cmp2 x y := by unfold cmp2; split <;> split <;> (try split) <;> omega
theorem cmpF_neg : ∀ (f : Nat) (l : List Nd) (x y : Int), cmpF f l y x = - cmpF f l x y
  | 0, _, _, _ => rfl
  | f + 1, l, x, y => by
    have hk := cmp2_neg (nd l x).kind (nd l y).kind
    have hn := cmp2_neg (nd l x).n (nd l y).n
    have ha := cmpF_neg f l (nd l x).a (nd l y).a
    have hb := cmpF_neg f l (nd l x).b (nd l y).b
    have hc := cmpF_neg f l (nd l x).c (nd l y).c
    have hxy := cmp2_neg x y
    simp only [cmpF]
    by_cases e : x = y
    · subst e; simp
    · rw [if_neg e, if_neg (Ne.symm e)]
      by_cases h1 : has l x = true
      · by_cases h2 : has l y = true
        · simp only [h1, h2, Bool.and_self, if_true]
          rw [hk, hn, ha, hb, hc]
          by_cases z1 : cmp2 (nd l x).kind (nd l y).kind = 0
          · by_cases z2 : cmp2 (nd l x).n (nd l y).n = 0
            · by_cases z3 : cmpF f l (nd l x).a (nd l y).a = 0
              · by_cases z4 : cmpF f l (nd l x).b (nd l y).b = 0
                · simp [z1, z2, z3, z4]
                · simp [z1, z2, z3, z4]
              · simp [z1, z2, z3]
            · simp [z1, z2]
          · simp [z1]
        · have h2 : has l y = false := by simpa using h2
          simp [h1, h2]
      · have h1 : has l x = false := by simpa using h1
        by_cases h2 : has l y = true
        · simp [h1, h2]
        · have h2 : has l y = false := by simpa using h2
          simp [h1, h2, hxy]
theorem has_part {l : List Nd} (w : Wf l) {x : Int} (hx : has l x = true) {k : Nat} : has l ((nd l x).part k) = true ∧ ((nd l x).part k).toNat ≤ x.toNat ∧ (0 < x → ((nd l x).part k).toNat < x.toNat) := by
  have h0 := has_iff.1 hx
  have h1 := w.parts _ _ (getElem?_of_has hx) k
  refine ⟨has_iff.2 ?_, ?_, ?_⟩ <;> omega
theorem cmpF_zero {l : List Nd} (w : Wf l) : ∀ (f : Nat) (x y : Int), has l x = true → has l y = true → x.toNat < f → y.toNat < f → cmpF f l x y = 0 → x = y
  | 0, _, _, _, _, h, _, _ => by omega
  | f + 1, x, y, hx, hy, hxf, hyf, h => by
    by_cases e : x = y
    · exact e
    · simp only [cmpF, if_neg e, hx, hy, Bool.and_true, if_true] at h
      split at h
      · contradiction
      · rename_i hk
        split at h
        · contradiction
        · rename_i hn
          split at h
          · contradiction
          · rename_i ha
            split at h
            · contradiction
            · rename_i hb
              have hk : cmp2 (nd l x).kind (nd l y).kind = 0 := by simpa using hk
              have hn : cmp2 (nd l x).n (nd l y).n = 0 := by simpa using hn
              have ha : cmpF f l (nd l x).a (nd l y).a = 0 := by simpa using ha
              have hb : cmpF f l (nd l x).b (nd l y).b = 0 := by simpa using hb
              have hd := w.down hx hy e (cmp2_zero hk)
              have hd2 := w.down hy hx (Ne.symm e) (cmp2_zero hk).symm
              have px := fun k => has_part w hx (k := k)
              have py := fun k => has_part w hy (k := k)
              have h0x := (has_iff.1 hx).1
              have h0y := (has_iff.1 hy).1
              have ea := cmpF_zero w f _ _ (px 0).1 (py 0).1 (by have := (px 0).2.2 hd.1; omega) (by have := (py 0).2.2 hd2.1; omega) ha
              have eb := cmpF_zero w f _ _ (px 1).1 (py 1).1 (by have := (px 1).2.2 hd.1; omega) (by have := (py 1).2.2 hd2.1; omega) hb
              have ec := cmpF_zero w f _ _ (px 2).1 (py 2).1 (by have := (px 2).2.2 hd.1; omega) (by have := (py 2).2.2 hd2.1; omega) h
              refine nd_inj w hx hy (nd_ext (cmp2_zero hk) (cmp2_zero hn) fun k hk3 => ?_)
              match k, hk3 with
              | 0, _ => exact ea
              | 1, _ => exact eb
              | 2, _ => exact ec
theorem cmpA_zero {l : List Nd} (w : Wf l) {x y : Int} (hx : has l x = true) (hy : has l y = true) (h : cmpA l x y = 0) : x = y :=
  cmpF_zero w _ x y hx hy (by have := has_iff.1 hx; omega) (by have := has_iff.1 hy; omega) h
/-- The two parts of what is shared, in order. -/
def dhN (l : List Nd) (x z : Int) : Nd := if 0 < cmpA l x z then ⟨3, 0, z, x, 0⟩ else ⟨3, 0, x, z, 0⟩
theorem dhN_comm {l : List Nd} (w : Wf l) {x z : Int} (hx : has l x = true) (hz : has l z = true) : dhN l z x = dhN l x z := by
  unfold dhN
  have h := cmpF_neg (l.length + 1) l x z
  have h : cmpA l z x = - cmpA l x z := h
  by_cases e : x = z
  · subst e; rfl
  · have hne : cmpA l x z ≠ 0 := fun h0 => e (cmpA_zero w hx hz h0)
    by_cases hp : 0 < cmpA l x z
    · rw [if_pos hp, if_neg (by omega)]
    · rw [if_neg hp, if_pos (by omega)]
theorem share_eq {A : Ar} {x y : Int} (hx : has A.l x = true) (hy : has A.l y = true) (hk : (nd A.l y).kind = 2) : share A x y = mk A (dhN A.l x (nd A.l y).a) := by
  unfold share dhN
  rw [if_pos (by rw [hx, hy]; rfl), if_neg (by rw [hk]; decide)]
  dsimp only
  split <;> rfl
/-- An arena that has come of another one, by so many terms at most. -/
structure Grow (A A' : Ar) (c : Nat) : Prop where
  ok : ArOk A'
  pre : A.l <+: A'.l
  limit : A'.limit = A.limit
  len : A'.l.length ≤ A.l.length + c
theorem Grow.refl {A : Ar} (h : ArOk A) : Grow A A 0 := ⟨h, List.prefix_rfl, rfl, Nat.le_refl _⟩
theorem Grow.trans {A B C : Ar} {c d : Nat} (h : Grow A B c) (k : Grow B C d) : Grow A C (c + d) := ⟨k.ok, h.pre.trans k.pre, k.limit.trans h.limit, by have := h.len; have := k.len; omega⟩
theorem Grow.le {A B : Ar} {c d : Nat} (h : Grow A B c) (hd : c ≤ d) : Grow A B d := ⟨h.ok, h.pre, h.limit, by have := h.len; omega⟩
theorem Grow.has {A B : Ar} {c : Nat} {x : Int} (h : Grow A B c) (hx : Go.Proofs.YtikimmgileffgaaGreatDoor.has A.l x = true) : Go.Proofs.YtikimmgileffgaaGreatDoor.has B.l x = true := has_pre h.pre hx
theorem Grow.room {A B : Ar} {c d : Nat} (h : Grow A B c) (hr : A.l.length + (c + d) ≤ A.limit) : B.l.length + d ≤ B.limit := by have := h.len; rw [h.limit]; omega
/-- Mk of a right node: it is made, and found again from then on. -/
theorem mk_all {A : Ar} {n : Nd} (hA : ArOk A) (h0 : 0 ≤ n.n) (h1 : n.n ≤ 18446744073709551615) (hr : right A.l n = true) (room : A.l.length + 1 ≤ A.limit) :
    ∃ A' y, mk A n = (A', y, 0) ∧ Grow A A' 1 ∧ has A'.l y = true ∧ nd A'.l y = n ∧ ∀ B, ArOk B → A'.l <+: B.l → mk B n = (B, y, 0) := by
  obtain ⟨o1, o2, o3⟩ := arOk_mk hA (x := n) h0 h1
  rcases mk_right (A := A) hr with h | ⟨e, hh, hn, hl⟩
  · omega
  · refine ⟨(mk A n).1, (mk A n).2.1, by rw [← e], ⟨o1, o2, o3, hl⟩, hh, hn, fun B hB hp => ?_⟩
    exact mk_there hB.wf (right_pre o1.wf hB.wf hp (right_pre hA.wf o1.wf o2 hr)) (has_pre hp hh) (by rw [nd_pre hp hh]; exact hn)
theorem right_of {l : List Nd} {k n a b c : Int} (hk : k = 2 ∨ k = 5 ∨ k = 6 ∨ k = 7 ∨ k = 8) (hn : numberedP ⟨k, n, a, b, c⟩ = true) (ha : has l a = true) (hb : if 1 < many k then has l b = true else b = 0) (hc : if 2 < many k then has l c = true else c = 0) : right l ⟨k, n, a, b, c⟩ = true := by
  have hp : partsOk l ⟨k, n, a, b, c⟩ = true := by
    unfold partsOk
    rw [List.all_eq_true]
    intro i hi
    have hi : i < 3 := by simpa using hi
    have hm : 1 ≤ many k := by rcases hk with rfl | rfl | rfl | rfl | rfl <;> decide
    match i, hi with
    | 0, _ => rw [if_pos (show 0 < many k by omega)]; exact ha
    | 1, _ =>
      by_cases h : 1 < many k
      · rw [if_pos h]; rw [if_pos h] at hb; exact hb
      · rw [if_neg h]; rw [if_neg h] at hb; simpa [Nd.part] using hb
    | 2, _ =>
      by_cases h : 2 < many k
      · rw [if_pos h]; rw [if_pos h] at hc; exact hc
      · rw [if_neg h]; rw [if_neg h] at hc; simpa [Nd.part] using hc
  unfold right
  rw [if_neg (by rcases hk with rfl | rfl | rfl | rfl | rfl <;> simp), if_neg (by rw [hn]; decide), if_neg (by rw [hp]; decide), if_neg (by rcases hk with rfl | rfl | rfl | rfl | rfl <;> simp), if_neg (by rcases hk with rfl | rfl | rfl | rfl | rfl <;> simp)]
theorem right_dh {l : List Nd} (_w : Wf l) {x z : Int} (hx : has l x = true) (hz : has l z = true) : right l (dhN l x z) = true := by
  have key : ∀ {a b : Int}, has l a = true → has l b = true → cmpA l a b ≤ 0 → right l ⟨3, 0, a, b, 0⟩ = true := fun {a b} ha hb hc => by
    have hp : partsOk l ⟨3, 0, a, b, 0⟩ = true := by
      unfold partsOk
      rw [List.all_eq_true]
      intro i hi
      have hi : i < 3 := by simpa using hi
      match i, hi with
      | 0, _ => exact ha
      | 1, _ => exact hb
      | 2, _ => rfl
    unfold right
    rw [if_neg (by simp), if_neg (by simp [numberedP]), if_neg (by rw [hp]; decide), if_pos rfl]
    simpa using hc
  unfold dhN
  split
  · rename_i h
    have := cmpF_neg (l.length + 1) l x z
    have : cmpA l z x = - cmpA l x z := this
    exact key hz hx (by omega)
  · exact key hx hz (by omega)
/-- Pub of a term. -/
theorem pub_all {A : Ar} {x : Int} (hA : ArOk A) (hx : has A.l x = true) (room : A.l.length + 1 ≤ A.limit) :
    ∃ A' y, mk A ⟨2, 0, x, 0, 0⟩ = (A', y, 0) ∧ Grow A A' 1 ∧ has A'.l y = true ∧ nd A'.l y = ⟨2, 0, x, 0, 0⟩ ∧ ∀ B, ArOk B → A'.l <+: B.l → mk B ⟨2, 0, x, 0, 0⟩ = (B, y, 0) :=
  mk_all hA (Int.le_refl 0) (show (0 : Int) ≤ _ by decide) (right_of (.inl rfl) rfl hx rfl rfl) room
theorem mixHash_all {A : Ar} {s : Sy} {x : Int} (hA : ArOk A) (hs : has A.l s.h = true) (hx : has A.l x = true) (room : A.l.length + 1 ≤ A.limit) :
    ∃ A' h', mixHashS A s x = (A', ⟨s.ck, h', s.c⟩, 0) ∧ Grow A A' 1 ∧ has A'.l h' = true ∧ nd A'.l h' = ⟨5, 0, s.h, x, 0⟩ ∧ ∀ B, ArOk B → A'.l <+: B.l → mixHashS B s x = (B, ⟨s.ck, h', s.c⟩, 0) := by
  obtain ⟨A', h', h1, h2, h3, h4, h5⟩ := mk_all (n := ⟨5, 0, s.h, x, 0⟩) hA (Int.le_refl 0) (show (0 : Int) ≤ _ by decide) (right_of (.inr (.inl rfl)) rfl hs hx rfl) room
  exact ⟨A', h', by simp [mixHashS, h1], h2, h3, h4, fun B hB hp => by simp [mixHashS, h5 B hB hp]⟩
theorem kdf_all {A : Ar} {ck x n : Int} (hn : 1 ≤ n ∧ n ≤ 3) (hA : ArOk A) (hc : has A.l ck = true) (hx : has A.l x = true) (room : A.l.length + 1 ≤ A.limit) :
    ∃ A' y, mk A ⟨6, n, ck, x, 0⟩ = (A', y, 0) ∧ Grow A A' 1 ∧ has A'.l y = true ∧ nd A'.l y = ⟨6, n, ck, x, 0⟩ ∧ ∀ B, ArOk B → A'.l <+: B.l → mk B ⟨6, n, ck, x, 0⟩ = (B, y, 0) :=
  mk_all hA (by show 0 ≤ n; omega) (by show n ≤ _; omega) (right_of (.inr (.inr (.inl rfl))) (by unfold numberedP; simp; omega) hc hx rfl) room
theorem mixKey_all {A : Ar} {s : Sy} {x : Int} (hA : ArOk A) (hc : has A.l s.ck = true) (hx : has A.l x = true) (room : A.l.length + 2 ≤ A.limit) :
    ∃ A' c k, mixKeyS A s x = (A', ⟨c, s.h, ⟨k, true, 0⟩⟩, 0) ∧ Grow A A' 2 ∧ has A'.l c = true ∧ has A'.l k = true ∧ nd A'.l c = ⟨6, 1, s.ck, x, 0⟩ ∧ nd A'.l k = ⟨6, 2, s.ck, x, 0⟩ ∧ ∀ B, ArOk B → A'.l <+: B.l → mixKeyS B s x = (B, ⟨c, s.h, ⟨k, true, 0⟩⟩, 0) := by
  obtain ⟨A1, c, a1, a2, a3, a4, a5⟩ := kdf_all (n := 1) (by decide) hA hc hx (by omega)
  obtain ⟨A2, k, b1, b2, b3, b4, b5⟩ := kdf_all (n := 2) (by decide) a2.ok (a2.has hc) (a2.has hx) (a2.room (d := 1) (by omega))
  refine ⟨A2, c, k, by simp [mixKeyS, keys2, a1, b1], a2.trans b2, b2.has a3, b3, by rw [nd_pre b2.pre a3]; exact a4, b4, fun B hB hp => ?_⟩
  simp [mixKeyS, keys2, a5 B hB (b2.pre.trans hp), b5 B hB hp]
theorem mixBoth_all {A : Ar} {s : Sy} {x : Int} (hA : ArOk A) (hc : has A.l s.ck = true) (hh : has A.l s.h = true) (hx : has A.l x = true) (room : A.l.length + 4 ≤ A.limit) :
    ∃ A' c h' k, mixBothS A s x = (A', ⟨c, h', ⟨k, true, 0⟩⟩, 0) ∧ Grow A A' 4 ∧ has A'.l c = true ∧ has A'.l h' = true ∧ has A'.l k = true ∧ nd A'.l c = ⟨6, 1, s.ck, x, 0⟩ ∧ nd A'.l k = ⟨6, 3, s.ck, x, 0⟩ ∧ ∀ B, ArOk B → A'.l <+: B.l → mixBothS B s x = (B, ⟨c, h', ⟨k, true, 0⟩⟩, 0) := by
  obtain ⟨A1, c, a1, a2, a3, a4, a5⟩ := kdf_all (n := 1) (by decide) hA hc hx (by omega)
  obtain ⟨A2, t, b1, b2, b3, b4, b5⟩ := kdf_all (n := 2) (by decide) a2.ok (a2.has hc) (a2.has hx) (by have := a2.room (d := 3) (by omega); omega)
  have g2 := a2.trans b2
  obtain ⟨A3, k, c1, c2, c3, c4, c5⟩ := kdf_all (n := 3) (by decide) g2.ok (g2.has hc) (g2.has hx) (by have := g2.room (d := 2) (by omega); omega)
  have g3 := g2.trans c2
  obtain ⟨A4, h', d1, d2, d3, d4, d5⟩ := mixHash_all (s := ⟨c, s.h, ⟨k, true, 0⟩⟩) (x := t) g3.ok (g3.has hh) (c2.has b3) (g3.room (d := 1) (by omega))
  refine ⟨A4, c, h', k, by simp [mixBothS, keys3, a1, b1, c1, d1], g3.trans d2, d2.has (c2.has (b2.has a3)), d3, d2.has c3, ?_, by rw [nd_pre d2.pre c3]; exact c4, fun B hB hp => ?_⟩
  · rw [nd_pre (b2.pre.trans (c2.pre.trans d2.pre)) a3]; exact a4
  · simp [mixBothS, keys3, a5 B hB (b2.pre.trans (c2.pre.trans (d2.pre.trans hp))), b5 B hB (c2.pre.trans (d2.pre.trans hp)), c5 B hB (d2.pre.trans hp), d5 B hB hp]
theorem share_all {A : Ar} {x y z : Int} (hA : ArOk A) (hx : has A.l x = true) (hy : has A.l y = true) (hn : nd A.l y = ⟨2, 0, z, 0, 0⟩) (hz : has A.l z = true) (room : A.l.length + 1 ≤ A.limit) :
    ∃ A' d, share A x y = (A', d, 0) ∧ Grow A A' 1 ∧ has A'.l d = true ∧ nd A'.l d = dhN A.l x z ∧ ∀ B, ArOk B → A'.l <+: B.l → mk B (dhN A.l x z) = (B, d, 0) := by
  have hd : 0 ≤ (dhN A.l x z).n ∧ (dhN A.l x z).n ≤ 18446744073709551615 := by unfold dhN; split <;> exact ⟨Int.le_refl 0, show (0 : Int) ≤ _ by decide⟩
  obtain ⟨A', d, h1, h2, h3, h4, h5⟩ := mk_all hA hd.1 hd.2 (right_dh hA.wf hx hz) room
  exact ⟨A', d, by rw [share_eq hx hy (by rw [hn]), hn]; exact h1, h2, h3, h4, h5⟩
/-- What a state is made of is there; its cipher's number is so much at most. -/
structure SyOk (A : Ar) (s : Sy) (k : Int) : Prop where
  ck : has A.l s.ck = true
  h : has A.l s.h = true
  key : s.c.has = true → has A.l s.c.key = true
  n0 : 0 ≤ s.c.n
  n1 : s.c.n ≤ k
theorem SyOk.grow {A B : Ar} {c : Nat} {s : Sy} {k : Int} (h : SyOk A s k) (g : Grow A B c) : SyOk B s k := ⟨g.has h.ck, g.has h.h, fun e => g.has (h.key e), h.n0, h.n1⟩
theorem SyOk.le {A : Ar} {s : Sy} {k m : Int} (h : SyOk A s k) (hm : k ≤ m) : SyOk A s m := ⟨h.ck, h.h, h.key, h.n0, by have := h.n1; omega⟩
theorem seal_all {A : Ar} {s : Sy} {p k : Int} (hA : ArOk A) (hs : SyOk A s k) (hk : k < 1000) (hp : has A.l p = true) (room : A.l.length + 2 ≤ A.limit) :
    ∃ A' y part, sealS A s p = (A', y, part, 0) ∧ Grow A A' 2 ∧ SyOk A' y (k + 1) ∧ y.c.has = s.c.has ∧ has A'.l part = true ∧ (s.c.has = false → part = p) ∧ (s.c.has = true → nd A'.l part = ⟨7, s.c.n, s.c.key, s.h, p⟩) ∧
      ∀ B, ArOk B → A'.l <+: B.l → sealS B s p = (B, y, part, 0) ∧ openS B s part = (B, y, p, 0) := by
  have hn0 := hs.n0
  have hn1 := hs.n1
  have may : ∀ {l : List Nd} {x : Int}, A.l <+: l → has l x = true → mayC l s.c [s.h, x] = 0 := fun {l x} hl hx => by
    rw [mayC_two, if_neg (by
      rw [has_pre hl hs.h, hx]
      rintro (h | ⟨h, h2⟩)
      · cases h
      · rw [has_pre hl (hs.key h)] at h2; cases h2), if_neg (by rintro ⟨_, h⟩; omega)]
  cases hh : s.c.has with
  | false =>
    obtain ⟨A', h', h1, h2, h3, h4, h5⟩ := mixHash_all (s := ⟨s.ck, s.h, s.c⟩) (x := p) hA hs.h hp (by omega)
    refine ⟨A', ⟨s.ck, h', s.c⟩, p, ?_, h2.le (by omega), ⟨h2.has hs.ck, h3, fun e => h2.has (hs.key e), hn0, by show s.c.n ≤ k + 1; omega⟩, hh, h2.has hp, fun _ => rfl, (by intro e; cases e), fun B hB hl => ⟨?_, ?_⟩⟩
    · simp [sealS, sealC, may List.prefix_rfl hp, hh, doneS, h1]
    · have hl0 := h2.pre.trans hl
      simp [sealS, sealC, may hl0 (has_pre hl0 hp), hh, doneS, h5 B hB hl]
    · have hl0 := h2.pre.trans hl
      simp [openS, openC, may hl0 (has_pre hl0 hp), hh, doneS, h5 B hB hl]
  | true =>
    obtain ⟨A1, q, a1, a2, a3, a4, a5⟩ := mk_all (n := ⟨7, s.c.n, s.c.key, s.h, p⟩) hA hn0 (show s.c.n ≤ _ by omega) (right_of (.inr (.inr (.inr (.inl rfl)))) rfl (hs.key hh) hs.h hp) (by omega)
    obtain ⟨A', h', h1, h2, h3, h4, h5⟩ := mixHash_all (s := ⟨s.ck, s.h, laterC s.c⟩) (x := q) a2.ok (a2.has hs.h) a3 (a2.room (d := 1) (by omega))
    have g := a2.trans h2
    refine ⟨A', ⟨s.ck, h', laterC s.c⟩, q, ?_, g, ⟨g.has hs.ck, h3, fun e => g.has (hs.key hh), by show 0 ≤ s.c.n + 1; omega, by show s.c.n + 1 ≤ k + 1; omega⟩, hh, h2.has a3, (by intro e; cases e), fun _ => by rw [nd_pre h2.pre a3]; exact a4, fun B hB hl => ⟨?_, ?_⟩⟩
    · simp [sealS, sealC, may List.prefix_rfl hp, hh, a1, doneS, h1]
    · have hl0 := g.pre.trans hl
      simp [sealS, sealC, may hl0 (has_pre hl0 hp), hh, a5 B hB (h2.pre.trans hl), doneS, h5 B hB hl]
    · have hl0 := g.pre.trans hl
      have hl1 := h2.pre.trans hl
      have hq := has_pre hl1 a3
      have hnq : getNd B.l q = ⟨7, s.c.n, s.c.key, s.h, p⟩ := by rw [getNd_of_has hq, nd_pre hl1 a3]; exact a4
      simp [openS, openC, may hl0 hq, hh, hnq, doneS, h5 B hB hl]
end Go.Proofs.YtikimmgileffgaaGreatDoor
end
/- Two sides of a handshake, token by token (layer 12). No program in sight. -/
section
namespace Go.Proofs.YtikimmgileffgaaGreatDoor
open Go.RowKit

theorem cmpA_pre {l m : List Nd} (w : Wf l) (wm : Wf m) (h : l <+: m) {x y : Int} (hx : has l x = true) (hy : has l y = true) : cmpA m x y = cmpA l x y := (Emb.pre w h).cmpA w wm hx hy
theorem dhN_pre {l m : List Nd} (w : Wf l) (wm : Wf m) (h : l <+: m) {x z : Int} (hx : has l x = true) (hz : has l z = true) : dhN m x z = dhN l x z := by
  unfold dhN; rw [cmpA_pre w wm h hx hz]
/-- y is the public key of x. -/
structure PubOf (A : Ar) (y x : Int) : Prop where
  hx : has A.l x = true
  hy : has A.l y = true
  nd : Go.Proofs.YtikimmgileffgaaGreatDoor.nd A.l y = ⟨2, 0, x, 0, 0⟩
theorem PubOf.grow {A B : Ar} {c : Nat} {y x : Int} (h : PubOf A y x) (g : Grow A B c) : PubOf B y x := ⟨g.has h.hx, g.has h.hy, by rw [nd_pre g.pre h.hy]; exact h.nd⟩
/-- What a secret and the other one's public key come to, for both. -/
theorem dh_sync {A : Ar} {x y px py : Int} (hA : ArOk A) (hx : PubOf A px x) (hy : PubOf A py y) (room : A.l.length + 1 ≤ A.limit) :
    ∃ A' d, share A x py = (A', d, 0) ∧ Grow A A' 1 ∧ has A'.l d = true ∧ nd A'.l d = dhN A.l x y ∧ ∀ B, ArOk B → A'.l <+: B.l → share B y px = (B, d, 0) := by
  obtain ⟨A', d, h1, h2, h3, h4, h5⟩ := share_all hA hx.hx hy.hy hy.nd hy.hx room
  refine ⟨A', d, h1, h2, h3, h4, fun B hB hl => ?_⟩
  have hl0 := h2.pre.trans hl
  rw [share_eq (has_pre hl0 hy.hx) (has_pre hl0 hx.hy) (by rw [nd_pre hl0 hx.hy, hx.nd]), nd_pre hl0 hx.hy, hx.nd]
  show mk B (dhN B.l y x) = _
  rw [dhN_comm hB.wf (has_pre hl0 hx.hx) (has_pre hl0 hy.hx), dhN_pre hA.wf hB.wf hl0 hx.hx hy.hx]
  exact h5 B hB hl
/-- Writer and reader, between two tokens; f: what the rules know. -/
structure Pair (A : Ar) (f : Nat → Bool) (w r : Nat) (Sw Sr : Int) (h g : Hs) (k : Int) : Prop where
  at_ : g.at_ = h.at_
  nx : g.nx = h.nx
  y : g.y = h.y
  ok : SyOk A h.y k
  key : h.y.c.has = f 15
  wE : f (3 * w + 1) = true → PubOf A g.RE h.E
  wS : f (3 * w + 2) = true → PubOf A g.RS Sw
  rE : f (3 * r + 1) = true → PubOf A h.RE g.E
  rS : f (3 * r + 2) = true → PubOf A h.RS Sr
theorem tok_dh {f f' : Nat → Bool} {w t : Nat} (ht : 3 ≤ t) (h : tokV f w t = (0, f')) : (t < 7 → f (pA t) = true ∧ f (3 + pB t) = true) ∧ f' = putV (putV f (6 + t) true) 15 true := by
  unfold tokV at h
  rw [if_neg (by omega)] at h
  split at h
  · simp at h
  · rename_i h1
    split at h
    · simp at h
    · simp only [Prod.mk.injEq] at h
      refine ⟨fun h7 => ?_, h.2.symm⟩
      have h1 : ¬ (f (pA t) = false ∨ f (3 + pB t) = false) := fun hc => h1 ⟨h7, hc⟩
      exact ⟨by cases hq : f (pA t) <;> simp [hq] at h1 ⊢, by cases hq : f (3 + pB t) <;> simp [hq] at h1 ⊢⟩
/-- A token that is no key. -/
theorem mix_sync {A : Ar} {f f' : Nat → Bool} {w r : Nat} {Sw Sr t k : Int} {h g : Hs} {psks : List Int} (hwr : (w = 0 ∧ r = 1) ∨ (w = 1 ∧ r = 0)) (hA : ArOk A) (P : Pair A f w r Sw Sr h g k) (hk : 0 ≤ k) (ht : 3 ≤ t ∧ t ≤ 7) (htok : tokV f w t.toNat = (0, f'))
    (hpsk : t = 7 → has A.l (psks.getD h.nx.toNat 0) = true) (room : A.l.length + 4 ≤ A.limit) :
    ∃ A' h' g', mixC A w Sw psks h t = (A', h', 0) ∧ Grow A A' 4 ∧ Pair A' f' w r Sw Sr h' g' k ∧ ∀ B, ArOk B → A'.l <+: B.l → mixC B r Sr psks g t = (B, g', 0) := by
  obtain ⟨hdh, rfl⟩ := tok_dh (by omega) htok
  have hlow : ∀ i, i < 6 → putV (putV f (6 + t.toNat) true) 15 true i = f i := fun i hi => by unfold putV; rw [if_neg (by omega), if_neg (by omega)]
  have pair' : ∀ {A' : Ar} {c : Nat} {y' : Sy} {n : Int}, Grow A A' c → SyOk A' y' 0 → y'.c.has = true → Pair A' (putV (putV f (6 + t.toNat) true) 15 true) w r Sw Sr { h with nx := n, y := y' } { g with nx := n, y := y' } k := fun {A' c y' n} gr hok hh =>
    ⟨P.at_, rfl, rfl, hok.le hk, by rw [hh]; rfl, fun e => (P.wE (by rwa [hlow _ (by omega)] at e)).grow gr, fun e => (P.wS (by rwa [hlow _ (by omega)] at e)).grow gr, fun e => (P.rE (by rwa [hlow _ (by omega)] at e)).grow gr, fun e => (P.rS (by rwa [hlow _ (by omega)] at e)).grow gr⟩
  by_cases h7 : t = 7
  · obtain ⟨A', c, h', q, a1, a2, a3, a4, a5, a6, a7, a8⟩ := mixBoth_all hA P.ok.ck P.ok.h (hpsk h7) room
    refine ⟨A', { h with nx := h.nx + 1, y := ⟨c, h', ⟨q, true, 0⟩⟩ }, { g with nx := h.nx + 1, y := ⟨c, h', ⟨q, true, 0⟩⟩ }, by simp only [mixC, if_pos h7, a1]; rfl, a2, pair' a2 ⟨a3, a4, fun _ => a5, Int.le_refl _, Int.le_refl _⟩ rfl, fun B hB hl => ?_⟩
    simp only [mixC, if_pos h7, P.nx, P.y, a8 B hB hl]; rfl
  · obtain ⟨f1, f2⟩ := hdh (by omega)
    obtain ⟨px, py, hx, hy⟩ : ∃ px py, PubOf A px (pOwn w Sw h.E t) ∧ PubOf A py (pOwn r Sr g.E t) ∧ pOther w h.RS h.RE t = py ∧ pOther r g.RS g.RE t = px := by
      have ht4 : t = 3 ∨ t = 4 ∨ t = 5 ∨ t = 6 := by omega
      rcases hwr with ⟨rfl, rfl⟩ | ⟨rfl, rfl⟩ <;> rcases ht4 with rfl | rfl | rfl | rfl
      all_goals
        simp [pA, pB] at f1 f2
        refine ⟨_, _, ?_, ?_, rfl, rfl⟩
        all_goals simp only [pOwn, pOther]
        all_goals first | exact P.wE f1 | exact P.wE f2 | exact P.wS f1 | exact P.wS f2 | exact P.rE f1 | exact P.rE f2 | exact P.rS f1 | exact P.rS f2
    obtain ⟨hy, e1, e2⟩ := hy
    obtain ⟨A1, d, a1, a2, a3, a4, a5⟩ := dh_sync hA hx hy (by omega)
    obtain ⟨A', c, q, b1, b2, b3, b4, b5, b6, b7⟩ := mixKey_all (s := h.y) (x := d) a2.ok (a2.has P.ok.ck) a3 (by have := a2.room (d := 3) (by omega); omega)
    have gr := (a2.trans b2).le (d := 4) (by omega)
    refine ⟨A', { h with nx := h.nx, y := ⟨c, h.y.h, ⟨q, true, 0⟩⟩ }, { g with nx := h.nx, y := ⟨c, h.y.h, ⟨q, true, 0⟩⟩ }, by simp only [mixC, if_neg h7, e1, a1, b1]; rfl, gr, pair' gr ⟨b3, gr.has P.ok.h, fun _ => b4, Int.le_refl _, Int.le_refl _⟩ rfl, fun B hB hl => ?_⟩
    simp only [mixC, if_neg h7, e2, a5 B hB (b2.pre.trans hl), P.y, b7 B hB hl, ← P.nx]; rfl
end Go.Proofs.YtikimmgileffgaaGreatDoor
end
