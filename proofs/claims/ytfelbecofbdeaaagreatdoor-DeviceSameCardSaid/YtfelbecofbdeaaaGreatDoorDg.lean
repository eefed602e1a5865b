/- Numerals read back; a row of a text cut at its spaces, a text cut at its ends. No program in sight. -/
import Derived.Test.YtfelbecofbdeaaaGreatDoorRd
import Derived.Test.YtfelbecofbdeaaaGreatDoorCWrite
import Derived.Lib.AtoiAllCases
import Derived.Lib.ParseIntBCases
import Derived.Test.YtfelbecofbdeaaaGreatDoorTxt
import Derived.Test.YtfelbecofbdeaaaGreatDoorTerm5
import Derived.Test.YtfelbecofbdeaaaGreatDoorCSz
namespace Go.Proofs.YtfelbecofbdeaaaGreatDoor
open Go.RowKit

theorem digit_val {d : Nat} (h : d < 10) : (UInt8.ofNat (48 + d)).toNat = 48 + d := by
  rw [UInt8.toNat_ofNat']; omega
theorem digs_byte : ∀ (u : Nat) (b : UInt8), b ∈ digs u → 48 ≤ b.toNat ∧ b.toNat ≤ 57 := by
  intro u
  induction u using Nat.strongRecOn with
  | _ u ih =>
    intro b hb
    unfold digs at hb ih
    rw [Lib.decDigits] at hb
    split at hb
    · rw [List.mem_singleton.1 hb, digit_val (by omega)]; omega
    · rcases List.mem_append.1 hb with h | h
      · exact ih (u / 10) (by omega) b h
      · rw [List.mem_singleton.1 h, digit_val (by omega)]; omega
theorem digs_ne (u : Nat) : digs u ≠ [] := fun h => by
  have := congrArg List.length h
  unfold digs at this
  rw [Lib.decDigits_length] at this
  have := Lib.nDigits_pos u
  simp at *; omega
theorem parse_digs : ∀ (u : Nat) (r : List UInt8), u < 18446744073709551616 → Lib.parseUint10 0 (digs u ++ r) = Lib.parseUint10 u r := by
  intro u
  induction u using Nat.strongRecOn with
  | _ u ih =>
    intro r h
    unfold digs at ih ⊢
    rw [Lib.decDigits]
    by_cases h10 : u < 10
    · rw [dif_pos h10]
      simp only [List.cons_append, List.nil_append]
      rw [Lib.parseUint10, digit_val h10, if_pos (by omega), if_neg (by omega), if_neg (by omega)]
      congr 1; omega
    · rw [dif_neg h10, List.append_assoc, ih (u / 10) (by omega) _ (by omega)]
      simp only [List.cons_append, List.nil_append]
      rw [Lib.parseUint10, digit_val (by omega), if_pos (by omega), if_neg (by omega), if_neg (by omega)]
      congr 1; omega
theorem mag_digs {u : Nat} (h : u < 18446744073709551616) : Lib.parseMag (digs u) = .ok u := by
  unfold Lib.parseMag
  rw [if_neg (digs_ne u)]
  have := parse_digs u [] h
  rw [List.append_nil] at this
  rw [this]; rfl
theorem strO_data (l : List UInt8) : (strO l).data.toList = l := by simp [strO]
theorem numU_digs {u : Nat} (h : u < 18446744073709551616) : numU (strO (digs u)) = some u := by
  unfold numU
  rw [strO_data, Lib.parseUintB_64, mag_digs h]
theorem numI_digs {u : Nat} (h : u < 9223372036854775808) : numI (strO (digs u)) = some (u : Int) := by
  unfold numI
  rw [strO_data]
  have hm := mag_digs (u := u) (by omega)
  have hb := digs_byte u
  cases hd : digs u with
  | nil => exact absurd hd (digs_ne u)
  | cons c r =>
    rw [hd] at hm hb
    have := hb c (by simp)
    have h1 : Lib.atoiAll (c :: r) = .ok (u : Int) := by
      simp only [Lib.atoiAll]
      rw [if_neg (by omega), hm]
      simp only
      rw [if_neg (by omega), if_neg (by omega), if_neg (by omega)]
    rw [h1]
theorem split_app (c : UInt8) : ∀ (a l : List UInt8), (∀ b ∈ a, b ≠ c) → splitL c (a ++ c :: l) = a :: splitL c l
  | [], l, _ => splitL_here c l
  | b :: a, l, h => splitL_other (h b (by simp)) (split_app c a l (fun x hx => h x (by simp [hx])))
theorem split_one (c : UInt8) : ∀ (a : List UInt8), (∀ b ∈ a, b ≠ c) → splitL c a = [a]
  | [], _ => rfl
  | b :: a, h => splitL_other (h b (by simp)) (split_one c a (fun x hx => h x (by simp [hx])))
/-- A row without its end. -/
def rowB (rows : List Int) (n : Nd) : List UInt8 := rowT1 n ++ (kids n).flatMap (partT rows)
theorem rowText_eq (rows : List Int) (n : Nd) : rowText rows n = rowB rows n ++ [59] := rfl
theorem digs_not {u : Nat} {b c : UInt8} (h : b ∈ digs u) (hc : c.toNat < 48 ∨ 57 < c.toNat) : b ≠ c := by
  have := digs_byte u b h
  rintro rfl; omega
theorem rowB_not (rows : List Int) (n : Nd) : ∀ b ∈ rowB rows n, b ≠ 59 := by
  intro b hb
  simp only [rowB, rowT1, partT, List.mem_append, List.mem_cons, List.mem_flatMap] at hb
  have h32 : b = 32 → b ≠ 59 := fun h => by subst h; decide
  rcases hb with (h | h | h) | ⟨p, _, h | h⟩
  · exact digs_not h (.inr (by decide))
  · exact h32 h
  · exact digs_not h (.inr (by decide))
  · exact h32 h
  · exact digs_not h (.inr (by decide))
theorem split_parts (rows : List Int) : ∀ (ks : List Int) (a : List UInt8), (∀ b ∈ a, b ≠ 32) → splitL 32 (a ++ ks.flatMap (partT rows)) = a :: ks.map fun p => digs (rows.idxOf p)
  | [], a, h => by simpa using split_one 32 a h
  | p :: ks, a, h => by
    rw [List.flatMap_cons]
    show splitL 32 (a ++ (32 :: digs (rows.idxOf p) ++ ks.flatMap (partT rows))) = _
    rw [List.cons_append, split_app 32 a _ h, split_parts rows ks _ (fun b hb => digs_not hb (.inl (by decide)))]
    rfl
theorem split_row (rows : List Int) (n : Nd) : splitL 32 (rowB rows n) = digs n.kind.toNat :: digs n.n.toNat :: (kids n).map fun p => digs (rows.idxOf p) := by
  unfold rowB rowT1
  rw [List.append_assoc, List.cons_append, split_app 32 _ _ (fun b hb => digs_not hb (.inl (by decide))), split_parts rows _ _ (fun b hb => digs_not hb (.inl (by decide)))]
theorem split_text (l : List Nd) (rows : List Int) : ∀ ys : List Int, splitL 59 (textR l rows ys) = (ys.map fun y => rowB rows (nd l y)) ++ [[]]
  | [] => rfl
  | y :: ys => by
    have := split_text l rows ys
    unfold textR at this ⊢
    rw [List.flatMap_cons, rowText_eq, List.append_assoc, List.cons_append, List.nil_append, split_app 59 _ _ (rowB_not rows _), this]
    rfl
theorem strO_toList (s : ByteArray) : strO s.data.toList = s := by obtain ⟨⟨l⟩⟩ := s; rfl
theorem splitS_eq (c : UInt8) (l : List UInt8) : splitS c (strO l) = (splitL c l).map strO := by
  have h := splitS_data c (strO l)
  rw [strO_data] at h
  rw [← h, List.map_map]
  conv => lhs; rw [← List.map_id (splitS c (strO l))]
  refine List.map_congr_left fun s _ => (strO_toList s).symm
/-! Terms of one arena found in another one: what is compared, what may be, what is written are the same. No program in sight. -/
/-- φ carries the terms D of l into m. -/
structure Emb (l m : List Nd) (φ : Int → Int) (D : Int → Prop) : Prop where
  hasl : ∀ x, D x → has l x = true
  hasm : ∀ x, D x → has m (φ x) = true
  kind : ∀ x, D x → (nd m (φ x)).kind = (nd l x).kind
  num : ∀ x, D x → (nd m (φ x)).n = (nd l x).n
  part : ∀ x, D x → ∀ k, k < 3 → if k < many (nd l x).kind then D ((nd l x).part k) ∧ (nd m (φ x)).part k = φ ((nd l x).part k) else (nd l x).part k = 0 ∧ (nd m (φ x)).part k = 0
theorem nd_ext {x y : Nd} (hk : x.kind = y.kind) (hn : x.n = y.n) (hp : ∀ k, k < 3 → x.part k = y.part k) : x = y := by
  obtain ⟨k, n, a, b, c⟩ := x
  obtain ⟨k', n', a', b', c'⟩ := y
  have h0 : a = a' := hp 0 (by omega)
  have h1 : b = b' := hp 1 (by omega)
  have h2 : c = c' := hp 2 (by omega)
  simp only at hk hn
  subst hk hn h0 h1 h2; rfl
theorem nd_inj {l : List Nd} (w : Wf l) {x y : Int} (hx : has l x = true) (hy : has l y = true) (h : nd l x = nd l y) : x = y := by
  have h1 := getElem?_of_has hx
  have h2 := getElem?_of_has hy
  rw [← h] at h2
  have hx0 := has_iff.1 hx
  have hy0 := has_iff.1 hy
  have := (List.getElem?_inj (by omega : x.toNat < l.length) w.nodup).1 (h1.trans h2.symm)
  omega
theorem part_kid {n : Nd} {k : Nat} (h : k < many n.kind) : n.part k ∈ kids n := by
  have h3 := many_le n.kind
  have hk : (kids n)[k]? = some (n.part k) := by
    unfold kids
    rw [List.getElem?_take, if_pos h]
    match k, h with
    | 0, _ => rfl
    | 1, _ => rfl
    | 2, _ => rfl
    | k + 3, h => omega
  exact List.mem_of_getElem? hk
theorem Emb.inj {l m : List Nd} {φ : Int → Int} {D : Int → Prop} (e : Emb l m φ D) (w : Wf l) : ∀ (n : Nat) (x y : Int), x.toNat < n → D x → D y → φ x = φ y → x = y
  | 0, _, _, h, _, _, _ => by omega
  | n + 1, x, y, h, hx, hy, hxy => by
    refine nd_inj w (e.hasl x hx) (e.hasl y hy) (nd_ext ?_ ?_ ?_)
    · rw [← e.kind x hx, ← e.kind y hy, hxy]
    · rw [← e.num x hx, ← e.num y hy, hxy]
    · intro k hk
      have hkk : (nd l x).kind = (nd l y).kind := by rw [← e.kind x hx, ← e.kind y hy, hxy]
      have p1 := e.part x hx k hk
      have p2 := e.part y hy k hk
      rw [← hkk] at p2
      by_cases hm : k < many (nd l x).kind
      · rw [if_pos hm] at p1 p2
        have hlt := w.kid (e.hasl x hx) (part_kid hm)
        exact e.inj w n _ _ (by omega) p1.1 p2.1 (by rw [← p1.2, ← p2.2, hxy])
      · rw [if_neg hm] at p1 p2
        rw [p1.1, p2.1]
theorem cmpF_self (f : Nat) (l : List Nd) (x : Int) : cmpF f l x x = 0 := by cases f <;> simp [cmpF]
theorem cmpF_parts {f : Nat} {l : List Nd} {x y : Int} (hne : x ≠ y) (hx : has l x = true) (hy : has l y = true) :
    cmpF (f + 1) l x y = if cmp2 (nd l x).kind (nd l y).kind ≠ 0 then cmp2 (nd l x).kind (nd l y).kind else if cmp2 (nd l x).n (nd l y).n ≠ 0 then cmp2 (nd l x).n (nd l y).n else
      if cmpF f l ((nd l x).part 0) ((nd l y).part 0) ≠ 0 then cmpF f l ((nd l x).part 0) ((nd l y).part 0) else if cmpF f l ((nd l x).part 1) ((nd l y).part 1) ≠ 0 then cmpF f l ((nd l x).part 1) ((nd l y).part 1) else cmpF f l ((nd l x).part 2) ((nd l y).part 2) :=
  cmpF_top hne hx hy rfl rfl
theorem Emb.cmp {l m : List Nd} {φ : Int → Int} {D : Int → Prop} (e : Emb l m φ D) (w : Wf l) : ∀ (f : Nat) (x y : Int), D x → D y → cmpF f m (φ x) (φ y) = cmpF f l x y
  | 0, _, _, _, _ => rfl
  | f + 1, x, y, hx, hy => by
    by_cases hxy : x = y
    · subst hxy; rw [cmpF_self, cmpF_self]
    · have hne : φ x ≠ φ y := fun h => hxy (e.inj w (x.toNat + 1) x y (by omega) hx hy h)
      rw [cmpF_parts hxy (e.hasl x hx) (e.hasl y hy), cmpF_parts hne (e.hasm x hx) (e.hasm y hy), e.kind x hx, e.kind y hy, e.num x hx, e.num y hy]
      by_cases hk : cmp2 (nd l x).kind (nd l y).kind = 0
      · have hkk := cmp2_zero hk
        have hp : ∀ k, k < 3 → cmpF f m ((nd m (φ x)).part k) ((nd m (φ y)).part k) = cmpF f l ((nd l x).part k) ((nd l y).part k) := by
          intro k hk3
          have p1 := e.part x hx k hk3
          have p2 := e.part y hy k hk3
          rw [← hkk] at p2
          by_cases hm : k < many (nd l x).kind
          · rw [if_pos hm] at p1 p2
            rw [p1.2, p2.2]
            exact e.cmp w f _ _ p1.1 p2.1
          · rw [if_neg hm] at p1 p2
            rw [p1.1, p1.2, p2.1, p2.2, cmpF_self, cmpF_self]
        rw [hp 0 (by omega), hp 1 (by omega), hp 2 (by omega)]
      · rw [if_pos hk, if_pos hk]
theorem cmpF_fuel {l : List Nd} (w : Wf l) : ∀ (f g : Nat) (x y : Int), has l x = true → has l y = true → x.toNat < f → x.toNat < g → cmpF f l x y = cmpF g l x y
  | 0, _, _, _, _, _, h, _ => by omega
  | _, 0, _, _, _, _, _, h => by omega
  | f + 1, g + 1, x, y, hx, hy, hf, hg => by
    by_cases hxy : x = y
    · subst hxy; rw [cmpF_self, cmpF_self]
    · rw [cmpF_parts hxy hx hy, cmpF_parts hxy hx hy]
      by_cases hk : cmp2 (nd l x).kind (nd l y).kind = 0
      · have hkk := cmp2_zero hk
        have d1 := w.down hx hy hxy hkk
        have d2 := w.down hy hx (Ne.symm hxy) hkk.symm
        have hx0 := has_iff.1 hx
        have hy0 := has_iff.1 hy
        have hp : ∀ k, k < 3 → cmpF f l ((nd l x).part k) ((nd l y).part k) = cmpF g l ((nd l x).part k) ((nd l y).part k) := by
          intro k hk3
          have hb : 0 ≤ (nd l x).part k ∧ (nd l x).part k < x ∧ 0 ≤ (nd l y).part k ∧ (nd l y).part k < y := by
            match k, hk3 with
            | 0, _ => exact ⟨d1.2.2.2.2.1, d1.2.1, d2.2.2.2.2.1, d2.2.1⟩
            | 1, _ => exact ⟨d1.2.2.2.2.2.1, d1.2.2.1, d2.2.2.2.2.2.1, d2.2.2.1⟩
            | 2, _ => exact ⟨d1.2.2.2.2.2.2, d1.2.2.2.1, d2.2.2.2.2.2.2, d2.2.2.2.1⟩
          exact cmpF_fuel w f g _ _ (has_iff.2 (by omega)) (has_iff.2 (by omega)) (by omega) (by omega)
        rw [hp 0 (by omega), hp 1 (by omega), hp 2 (by omega)]
      · rw [if_pos hk, if_pos hk]
theorem Emb.cmpA {l m : List Nd} {φ : Int → Int} {D : Int → Prop} (e : Emb l m φ D) (w : Wf l) (wm : Wf m) {x y : Int} (hx : D x) (hy : D y) : cmpA m (φ x) (φ y) = cmpA l x y := by
  unfold Go.Proofs.YtfelbecofbdeaaaGreatDoor.cmpA
  have h1 := has_iff.1 (e.hasl x hx)
  have h2 := has_iff.1 (e.hasm x hx)
  rw [cmpF_fuel wm (m.length + 1) (m.length + l.length + 1) _ _ (e.hasm x hx) (e.hasm y hy) (by omega) (by omega), e.cmp w _ x y hx hy]
  exact cmpF_fuel w _ _ _ _ (e.hasl x hx) (e.hasl y hy) (by omega) (by omega)
/-- A node of parts in D, and the node that has their likes. -/
theorem Emb.right {l m : List Nd} {φ : Int → Int} {D : Int → Prop} (e : Emb l m φ D) (w : Wf l) (wm : Wf m) {n n' : Nd} (hk : n'.kind = n.kind) (hn : n'.n = n.n)
    (hp : ∀ k, k < 3 → if k < many n.kind then D (n.part k) ∧ n'.part k = φ (n.part k) else n'.part k = 0) (hr : right l n = true) : right m n' = true := by
  unfold Go.Proofs.YtfelbecofbdeaaaGreatDoor.right at hr ⊢
  rw [hk]
  by_cases h1 : n.kind < 0 ∨ 9 < n.kind
  · rw [if_pos h1] at hr; cases hr
  · rw [if_neg h1] at hr ⊢
    have hnum : numberedP n' = numberedP n := by unfold numberedP; rw [hk, hn]
    rw [hnum]
    by_cases h2 : numberedP n = false
    · rw [if_pos h2] at hr; cases hr
    · rw [if_neg h2] at hr ⊢
      by_cases h3 : partsOk l n = false
      · rw [if_pos h3] at hr; cases hr
      · rw [if_neg h3] at hr
        have hok : partsOk m n' = true := by
          unfold partsOk
          rw [List.all_eq_true]
          intro k hk3
          have hk3 := List.mem_range.1 hk3
          have p := hp k hk3
          rw [hk]
          by_cases hm : k < many n.kind
          · rw [if_pos hm] at p ⊢
            rw [p.2]; exact e.hasm _ p.1
          · rw [if_neg hm] at p ⊢
            rw [p]; rfl
        rw [if_neg (by rw [hok]; decide)]
        by_cases h4 : n.kind = 3
        · rw [if_pos h4] at hr ⊢
          have p0 := hp 0 (by omega)
          have p1 := hp 1 (by omega)
          rw [h4] at p0 p1
          have q0 : D n.a ∧ n'.a = φ n.a := p0
          have q1 : D n.b ∧ n'.b = φ n.b := p1
          rw [q0.2, q1.2, e.cmpA w wm q0.1 q1.1]; exact hr
        · rw [if_neg h4] at hr ⊢
          by_cases h5 : n.kind = 4
          · rw [if_pos h5] at hr ⊢
            have p1 := hp 1 (by omega)
            rw [h5] at p1
            have q1 : D n.b ∧ n'.b = φ n.b := p1
            rw [q1.2, e.kind _ q1.1]; exact hr
          · rw [if_neg h5]
/-- The same terms, where more have come. -/
theorem has_pre {l m : List Nd} (h : l <+: m) {x : Int} (hx : has l x = true) : has m x = true := by
  have h1 := h.length_le
  have h2 := has_iff.1 hx
  exact has_iff.2 (by omega)
theorem nd_pre {l m : List Nd} (h : l <+: m) {x : Int} (hx : has l x = true) : nd m x = nd l x := by
  obtain ⟨t, rfl⟩ := h
  have hx0 := has_iff.1 hx
  have hl : x.toNat < l.length := by omega
  simp only [nd, List.getD, List.getElem?_append_left hl]
theorem Emb.pre {l m : List Nd} (w : Wf l) (h : l <+: m) : Emb l m id (fun x => has l x = true) where
  hasl _ hx := hx
  hasm _ hx := has_pre h hx
  kind x hx := by rw [id, nd_pre h hx]
  num x hx := by rw [id, nd_pre h hx]
  part x hx k hk := by
    rw [id, nd_pre h hx]
    by_cases hm : k < many (nd l x).kind
    · rw [if_pos hm]; exact ⟨(w.kid hx (part_kid hm)).2.2, rfl⟩
    · rw [if_neg hm]
      have hv := (w.valid _ (nd_mem hx)).2
      have : (nd l x).part k = 0 := by
        match k, hk with
        | 0, _ => exact hv.1 (by omega)
        | 1, _ => exact hv.2.1 (by omega)
        | 2, _ => exact hv.2.2 (by omega)
      exact ⟨this, this⟩
theorem right_pre {l m : List Nd} (w : Wf l) (wm : Wf m) (h : l <+: m) {n : Nd} (hr : right l n = true) : right m n = true := by
  refine (Emb.pre w h).right w wm rfl rfl (fun k hk => ?_) hr
  have hp : partsOk l n = true := by
    cases hq : partsOk l n with
    | true => rfl
    | false => rw [right_bad (.inr (.inr (.inr hq)))] at hr; cases hr
  unfold partsOk at hp
  rw [List.all_eq_true] at hp
  have := hp k (List.mem_range.2 hk)
  by_cases hm : k < many n.kind
  · rw [if_pos hm] at this ⊢; exact ⟨this, rfl⟩
  · rw [if_neg hm] at this ⊢; simpa using this
theorem Emb.kids {l m : List Nd} {φ : Int → Int} {D : Int → Prop} (e : Emb l m φ D) {x : Int} (hx : D x) : kids (nd m (φ x)) = (kids (nd l x)).map φ ∧ ∀ p ∈ kids (nd l x), D p := by
  have h3 := many_le (nd l x).kind
  have hp := fun k hk => e.part x hx k hk
  have hat : ∀ k, k < many (nd l x).kind → D ((nd l x).part k) ∧ (nd m (φ x)).part k = φ ((nd l x).part k) := fun k hk => by
    have := hp k (by omega); rw [if_pos hk] at this; exact this
  constructor
  · unfold Go.Proofs.YtfelbecofbdeaaaGreatDoor.kids
    rw [e.kind x hx, ← List.map_take.symm]
    refine List.ext_getElem? fun k => ?_
    rw [List.getElem?_take, List.getElem?_take]
    by_cases hk : k < many (nd l x).kind
    · rw [if_pos hk, if_pos hk]
      have := (hat k hk).2
      match k, hk, this with
      | 0, _, h => exact congrArg some h
      | 1, _, h => exact congrArg some h
      | 2, _, h => exact congrArg some h
      | k + 3, hk, _ => omega
    · rw [if_neg hk, if_neg hk]
  · intro p hpk
    obtain ⟨k, hk⟩ := List.mem_iff_getElem?.1 hpk
    have hkl : k < many (nd l x).kind := by have := (List.getElem?_eq_some_iff.1 hk).1; rw [kids_length] at this; exact this
    have := (hat k hkl).1
    unfold Go.Proofs.YtfelbecofbdeaaaGreatDoor.kids at hk
    rw [List.getElem?_take, if_pos hkl] at hk
    match k, hkl, this, hk with
    | 0, _, h, hk => cases hk; exact h
    | 1, _, h, hk => cases hk; exact h
    | 2, _, h, hk => cases hk; exact h
    | k + 3, hkl, _, _ => omega
theorem Emb.rows {l m : List Nd} {φ : Int → Int} {D : Int → Prop} (e : Emb l m φ D) (w : Wf l) (wm : Wf m) : ∀ (n : Nat) (acc : List Int) (x : Int), x.toNat < n → D x → (∀ y ∈ acc, D y) → rowsA m (acc.map φ) (φ x) = (rowsA l acc x).map φ ∧ ∀ y ∈ rowsA l acc x, D y
  | 0, _, _, h, _, _ => by omega
  | n + 1, acc, x, h, hx, ha => by
    have hi : φ x ∈ acc.map φ ↔ x ∈ acc := ⟨fun hh => by
      obtain ⟨y, hy, hyx⟩ := List.mem_map.1 hh
      exact e.inj w (y.toNat + 1) y x (by omega) (ha y hy) hx hyx ▸ hy, fun hh => List.mem_map.2 ⟨x, hh, rfl⟩⟩
    rw [rowsA_eq w, rowsA_eq wm, e.hasl x hx, e.hasm x hx]
    by_cases hc : x ∈ acc
    · rw [if_pos (.inr (hi.2 hc)), if_pos (.inr hc)]; exact ⟨rfl, ha⟩
    · rw [if_neg (fun h => h.elim (fun h => by cases h) (fun h => hc (hi.1 h))), if_neg (fun h => h.elim (fun h => by cases h) hc)]
      obtain ⟨hk, hkD⟩ := e.kids hx
      rw [hk]
      have hf : ∀ (ks a : List Int), (∀ p ∈ ks, p ∈ Go.Proofs.YtfelbecofbdeaaaGreatDoor.kids (nd l x)) → (∀ y ∈ a, D y) → (ks.map φ).foldl (rowsA m) (a.map φ) = (ks.foldl (rowsA l) a).map φ ∧ ∀ y ∈ ks.foldl (rowsA l) a, D y := by
        intro ks
        induction ks with
        | nil => intro a _ ha; exact ⟨rfl, ha⟩
        | cons p ks ih =>
          intro a hks ha
          have hp := hks p (by simp)
          have hlt := w.kid (e.hasl x hx) hp
          obtain ⟨h1, h2⟩ := e.rows w wm n a p (by omega) (hkD p hp) ha
          simp only [List.map_cons, List.foldl_cons]
          rw [h1]
          exact ih _ (fun q hq => hks q (by simp [hq])) h2
      obtain ⟨h1, h2⟩ := hf _ acc (fun p hp => hp) ha
      rw [h1]
      refine ⟨by simp, fun y hy => ?_⟩
      rcases List.mem_append.1 hy with hy | hy
      · exact h2 y hy
      · simp at hy; subst hy; exact hx
theorem idxOf_map {φ : Int → Int} {p : Int} : ∀ (rows : List Int), (∀ y ∈ rows, φ y = φ p → y = p) → (rows.map φ).idxOf (φ p) = rows.idxOf p
  | [], _ => rfl
  | y :: rows, h => by
    rw [List.map_cons, List.idxOf_cons, List.idxOf_cons]
    by_cases hy : y = p
    · subst hy; simp
    · have : φ y ≠ φ p := fun hh => hy (h y (by simp) hh)
      rw [beq_eq_false_iff_ne.2 hy, beq_eq_false_iff_ne.2 this, idxOf_map rows (fun z hz => h z (by simp [hz]))]
theorem Emb.text {l m : List Nd} {φ : Int → Int} {D : Int → Prop} (e : Emb l m φ D) (w : Wf l) (wm : Wf m) {x : Int} (hx : D x) : text m (φ x) = text l x := by
  obtain ⟨h1, h2⟩ := e.rows w wm (x.toNat + 1) [] x (by omega) hx (fun y hy => (List.not_mem_nil hy).elim)
  unfold Go.Proofs.YtfelbecofbdeaaaGreatDoor.text
  rw [List.map_nil] at h1
  rw [h1]
  generalize rowsA l [] x = rows at *
  unfold textR
  rw [List.flatMap_map]
  have hrow : ∀ y ∈ rows, rowText (rows.map φ) (nd m (φ y)) = rowText rows (nd l y) := fun y hy => by
    obtain ⟨hk, hkD⟩ := e.kids (h2 y hy)
    unfold rowText rowT1
    rw [hk, e.kind y (h2 y hy), e.num y (h2 y hy), List.flatMap_map]
    congr 2
    have : ∀ (ks : List Int), (∀ p ∈ ks, D p) → (ks.flatMap fun a => partT (rows.map φ) (φ a)) = ks.flatMap (partT rows) := by
      intro ks
      induction ks with
      | nil => intro _; rfl
      | cons p ks ih =>
        intro hD
        rw [List.flatMap_cons, List.flatMap_cons, ih (fun q hq => hD q (by simp [hq]))]
        congr 1
        unfold partT
        rw [idxOf_map rows (fun z hz hh => e.inj w (z.toNat + 1) z p (by omega) (h2 z hz) (hD p (by simp)) hh)]
    exact this _ hkD
  have : ∀ ys : List Int, (∀ y ∈ ys, y ∈ rows) → (ys.flatMap fun a => rowText (rows.map φ) (nd m (φ a))) = ys.flatMap fun y => rowText rows (nd l y) := by
    intro ys
    induction ys with
    | nil => intro _; rfl
    | cons y ys ih =>
      intro hys
      rw [List.flatMap_cons, List.flatMap_cons, ih (fun z hz => hys z (by simp [hz])), hrow y (hys y (by simp))]
  exact this rows (fun y hy => hy)
/-! What is written is read. No program in sight. -/
/-- An arena whose terms are right. -/
structure ArOk (A : Ar) : Prop where
  wf : Wf A.l
  right : ∀ n ∈ A.l, Go.Proofs.YtfelbecofbdeaaaGreatDoor.right A.l n = true
theorem arOk_new (limit : Int) : ArOk (newAr limit) where
  wf := wf_new
  right n hn := by
    have : n = Nd.zero := by simpa [newAr] using hn
    subst this; rfl
theorem arOk_mk {A : Ar} (h : ArOk A) {x : Nd} (h0 : 0 ≤ x.n) (h1 : x.n ≤ 18446744073709551615) : ArOk (mk A x).1 ∧ A.l <+: (mk A x).1.l ∧ (mk A x).1.limit = A.limit := by
  unfold mk
  by_cases hr : right A.l x = false
  · rw [if_pos hr]; exact ⟨h, List.prefix_rfl, rfl⟩
  · rw [if_neg hr]
    have hr : right A.l x = true := by simpa using hr
    cases hi : A.l.idxOf? x with
    | some i => exact ⟨h, List.prefix_rfl, rfl⟩
    | none =>
      by_cases hl : A.limit ≤ A.l.length
      · simp only [if_pos hl]; exact ⟨h, List.prefix_rfl, trivial⟩
      · simp only [if_neg hl]
        have hw := wf_snoc h.wf hr hi h0 h1
        refine ⟨⟨hw, fun n hn => ?_⟩, List.prefix_append _ _, trivial⟩
        rcases List.mem_append.1 hn with hn | hn
        · exact right_pre h.wf hw (List.prefix_append _ _) (h.right n hn)
        · simp at hn; subst hn; exact right_pre h.wf hw (List.prefix_append _ _) hr
/-- What Mk makes of a right node. -/
theorem mk_right {A : Ar} {x : Nd} (hr : right A.l x = true) : (mk A x).2.2 = 3 ∧ A.limit ≤ A.l.length ∨ (mk A x).2.2 = 0 ∧ has (mk A x).1.l (mk A x).2.1 = true ∧ nd (mk A x).1.l (mk A x).2.1 = x ∧ (mk A x).1.l.length ≤ A.l.length + 1 := by
  unfold mk
  rw [if_neg (by rw [hr]; decide)]
  cases hi : A.l.idxOf? x with
  | some i =>
    have hx : A.l[i]? = some x := by
      rw [List.idxOf?, List.findIdx?_eq_some_iff_getElem] at hi
      obtain ⟨hl, he, _⟩ := hi
      rw [List.getElem?_eq_getElem hl]; simpa using he
    right
    refine ⟨rfl, has_iff.2 ?_, nd_of_getElem? (i := i) hx, Nat.le_succ _⟩
    have := (List.getElem?_eq_some_iff.1 hx).1
    simp only; omega
  | none =>
    by_cases hl : A.limit ≤ A.l.length
    · left; simp only [if_pos hl]; exact ⟨trivial, hl⟩
    · right
      simp only [if_neg hl]
      refine ⟨trivial, has_iff.2 (by simp only [List.length_append, List.length_singleton]; omega), nd_of_getElem? (i := A.l.length) (by simp), by simp⟩
def mp (rows had : List Int) (p : Int) : Int := had.getD (rows.idxOf p) 0
def mpN (rows had : List Int) (n : Nd) : Nd := ndP n.kind n.n.toNat ((kids n).map (mp rows had))
theorem mpN_part (rows had : List Int) (n : Nd) (k : Nat) (hk : k < 3) : (mpN rows had n).part k = if k < many n.kind then mp rows had (n.part k) else 0 := by
  have h3 := many_le n.kind
  have hg : ∀ j, ((kids n).map (mp rows had)).getD j 0 = if j < many n.kind then mp rows had (([n.a, n.b, n.c] : List Int).getD j 0) else 0 := fun j => by
    unfold kids
    simp only [List.getD, List.getElem?_map, List.getElem?_take]
    by_cases hj : j < many n.kind
    · rw [if_pos hj, if_pos hj, List.getElem?_eq_getElem (by simp; omega)]; rfl
    · rw [if_neg hj, if_neg hj]; rfl
  match k, hk with
  | 0, _ => exact hg 0
  | 1, _ => exact hg 1
  | 2, _ => exact hg 2
theorem ix_digs {had : List Int} {i : Nat} (h : i < had.length) (hl : had.length ≤ 65536) : ixP had (strO (digs i)) = some (had.getD i 0) := by
  unfold ixP
  rw [numI_digs (by omega)]
  simp only [Option.bind_some]
  rw [if_pos (by omega)]
  simp [List.getD, h]
theorem parts_digs {rows had : List Int} (hl : had.length ≤ 65536) : ∀ ks : List Int, (∀ p ∈ ks, rows.idxOf p < had.length) → partsP had (ks.map fun p => strO (digs (rows.idxOf p))) = some (ks.map (mp rows had))
  | [], _ => rfl
  | p :: ks, h => by
    rw [List.map_cons, partsP, ix_digs (h p (by simp)) hl, parts_digs hl ks (fun q hq => h q (by simp [hq]))]
    rfl
theorem row_digs {rows had : List Int} {n : Nd} (hl : had.length ≤ 65536) (hf : 0 ≤ n.n ∧ n.n ≤ 18446744073709551615 ∧ 0 ≤ n.kind ∧ n.kind ≤ 9) (hk : ∀ p ∈ kids n, rows.idxOf p < had.length) :
    rowP had (splitS 32 (strO (rowB rows n))) = some (mpN rows had n) := by
  rw [splitS_eq, split_row]
  simp only [List.map_cons, List.map_map]
  unfold rowP
  simp only [List.getD_cons_zero, List.getD_cons_succ]
  rw [numI_digs (by omega)]
  simp only [Option.bind_some]
  have hkk : ((n.kind.toNat : Nat) : Int) = n.kind := by omega
  rw [hkk, if_pos ⟨hf.2.2.1, by omega, by simp [kids_length]; omega⟩, numU_digs (by omega)]
  simp only [Option.bind_some, List.drop_succ_cons, List.drop_zero]
  have := parts_digs (rows := rows) hl (kids n) hk
  rw [show (strO ∘ fun p => digs (rows.idxOf p)) = fun p => strO (digs (rows.idxOf p)) from rfl, this]
  rfl
theorem idx_take {rows : List Int} {p : Int} {k : Nat} (h : p ∈ rows.take k) : rows.idxOf p < k := by
  rw [← idxOf_take h]
  have := List.idxOf_lt_length_of_mem h
  simp at this; omega
theorem mp_app {rows had : List Int} {r p : Int} (h : rows.idxOf p < had.length) : mp rows (had ++ [r]) p = mp rows had p := by
  unfold mp
  simp [List.getD, List.getElem?_append_left h]
theorem back_build {l : List Nd} {rows : List Int} (w : Wf l) (hR : ∀ n ∈ l, right l n = true) (hr : Refs l rows) (hcl : ∀ (k : Nat) (y : Int), rows[k]? = some y → ∀ p ∈ kids (nd l y), p ∈ rows.take k) (hlen : rows.length ≤ 65536) :
    ∀ (ys : List Int) (A : Ar) (had : List Int), rows = rows.take had.length ++ ys → had.length + ys.length = rows.length → ArOk A → Emb l A.l (mp rows had) (fun x => x ∈ rows.take had.length) →
      (A.l.length + ys.length ≤ A.limit ∨ (buildF (ys.map fun y => strO (rowB rows (nd l y))) A had).2.2 = 0) →
      ∃ A' had', buildF (ys.map fun y => strO (rowB rows (nd l y))) A had = (A', had'.getLastD 0, 0) ∧ had'.length = rows.length ∧ ArOk A' ∧ A.l <+: A'.l ∧ Emb l A'.l (mp rows had') (fun x => x ∈ rows)
  | [], A, had, h1, h2, hA, he, _ => by
    have hh : rows.take had.length = rows := by simpa using h1.symm
    rw [hh] at he
    exact ⟨A, had, rfl, by simpa using h2, hA, List.prefix_rfl, he⟩
  | y :: ys, A, had, h1, h2, hA, he, hroom => by
    simp only [List.length_cons] at h2
    have hat : rows[had.length]? = some y := by
      rw [h1, List.getElem?_append_right (by simp; omega)]
      have : (rows.take had.length).length = had.length := by simp; omega
      rw [this]; simp
    have hyr : y ∈ rows := List.mem_of_getElem? hat
    have hyl := hr.has y hyr
    have hkd := hcl _ _ hat
    have hfit := w.fits _ (nd_mem hyl)
    have hrow := row_digs (rows := rows) (had := had) (n := nd l y) (by omega) hfit (fun p hp => idx_take (hkd p hp))
    have hkind : (mpN rows had (nd l y)).kind = (nd l y).kind := rfl
    have hnum : (mpN rows had (nd l y)).n = (nd l y).n := by
      show (((nd l y).n.toNat : Nat) : Int) = _; omega
    have hright : right A.l (mpN rows had (nd l y)) = true := by
      refine he.right w hA.wf hkind hnum (fun k hk => ?_) (hR _ (nd_mem hyl))
      rw [mpN_part _ _ _ _ hk]
      by_cases hm : k < many (nd l y).kind
      · rw [if_pos hm, if_pos hm]; exact ⟨hkd _ (part_kid hm), rfl⟩
      · rw [if_neg hm, if_neg hm]
    have htk : rows.take (had.length + 1) = rows.take had.length ++ [y] := by rw [List.take_add_one, hat]; rfl
    have hidy : rows.idxOf y = had.length := by
      have hl : had.length < rows.length := by omega
      have h3 : rows[rows.idxOf y]? = some y := by
        have := List.idxOf_lt_length_of_mem hyr
        rw [List.getElem?_eq_getElem this]; simp
      exact (List.getElem?_inj (List.idxOf_lt_length_of_mem hyr) hr.nodup).1 (h3.trans hat.symm)
    have hmkA := arOk_mk hA (x := mpN rows had (nd l y)) (by rw [hnum]; omega) (by rw [hnum]; omega)
    have hmk := mk_right hright
    simp only [List.map_cons, buildF, hrow] at hroom ⊢
    generalize mk A (mpN rows had (nd l y)) = M at *
    obtain ⟨A1, r, e⟩ := M
    simp only at *
    rcases hmk with ⟨rfl, hfull⟩ | ⟨rfl, hhas, hnd, hlen1⟩
    · exfalso
      rcases hroom with h | h
      · simp only [List.length_cons] at h; omega
      · simp at h
    · simp only [show ¬ ((0 : Int) = 1) by decide, if_false, ne_eq, not_true_eq_false] at hroom ⊢
      have hpre := hmkA.2.1
      have he1 : Emb l A1.l (mp rows (had ++ [r])) (fun x => x ∈ rows.take (had ++ [r]).length) := by
        have hsplit : ∀ x, x ∈ rows.take (had ++ [r]).length → x ∈ rows.take had.length ∨ x = y := fun x hx => by
          rw [List.length_append, List.length_singleton, htk] at hx
          rcases List.mem_append.1 hx with h | h
          · exact .inl h
          · exact .inr (by simpa using h)
        have hin : ∀ x, x ∈ rows.take had.length → x ∈ rows.take (had ++ [r]).length := fun x hx => by
          rw [List.length_append, List.length_singleton, htk]; exact List.mem_append_left _ hx
        have hold : ∀ x, x ∈ rows.take had.length → mp rows (had ++ [r]) x = mp rows had x := fun x hx => mp_app (idx_take hx)
        have hnew : mp rows (had ++ [r]) y = r := by unfold mp; rw [hidy]; simp [List.getD]
        have hndo : ∀ x, x ∈ rows.take had.length → nd A1.l (mp rows (had ++ [r]) x) = nd A.l (mp rows had x) := fun x hx => by
          rw [hold x hx]; exact nd_pre hpre (he.hasm x hx)
        refine ⟨fun x hx => hr.has x (List.mem_of_mem_take hx), fun x hx => ?_, fun x hx => ?_, fun x hx => ?_, fun x hx k hk => ?_⟩
        · rcases hsplit x hx with h | rfl
          · rw [hold x h]; exact has_pre hpre (he.hasm x h)
          · rw [hnew]; exact hhas
        · rcases hsplit x hx with h | rfl
          · rw [hndo x h]; exact he.kind x h
          · rw [hnew, hnd]; exact hkind
        · rcases hsplit x hx with h | rfl
          · rw [hndo x h]; exact he.num x h
          · rw [hnew, hnd]; exact hnum
        · rcases hsplit x hx with h | rfl
          · have hp := he.part x h k hk
            rw [hndo x h]
            by_cases hm : k < many (nd l x).kind
            · rw [if_pos hm] at hp ⊢; exact ⟨hin _ hp.1, by rw [hold _ hp.1]; exact hp.2⟩
            · rw [if_neg hm] at hp ⊢; exact hp
          · rw [hnew, hnd, mpN_part _ _ _ _ hk]
            by_cases hm : k < many (nd l x).kind
            · have hpk := hkd _ (part_kid hm)
              rw [if_pos hm, if_pos hm]; exact ⟨hin _ hpk, (hold _ hpk).symm⟩
            · rw [if_neg hm, if_neg hm]
              refine ⟨?_, rfl⟩
              have hv := (w.valid _ (nd_mem hyl)).2
              match k, hk with
              | 0, _ => exact hv.1 (by omega)
              | 1, _ => exact hv.2.1 (by omega)
              | 2, _ => exact hv.2.2 (by omega)
      obtain ⟨A', had', b1, b2, b3, b4, b5⟩ := back_build w hR hr hcl hlen ys A1 (had ++ [r]) (by
        rw [List.length_append, List.length_singleton, htk, List.append_assoc]; exact h1) (by simp; omega) hmkA.1 he1 (by
        rcases hroom with h | h
        · left; rw [hmkA.2.2]; simp only [List.length_cons] at h; omega
        · exact .inr h)
      exact ⟨A', had', b1, b2, b3, hpre.trans b4, b5⟩
theorem rows_last {l : List Nd} (w : Wf l) {x : Int} (hx : has l x = true) : ∃ t, rowsA l [] x = t ++ [x] := by
  rw [rowsA_eq w, if_neg (by rw [hx]; simp)]; exact ⟨_, rfl⟩
theorem last_mp {rows had t : List Int} {x : Int} (ht : rows = t ++ [x]) (hn : rows.Nodup) (hl : had.length = rows.length) : had.getLastD 0 = mp rows had x := by
  have hx : rows.idxOf x = t.length := by
    rw [ht] at hn ⊢
    have : x ∉ t := fun h => by
      have := (List.nodup_append.1 hn).2.2 x h x (by simp); exact this rfl
    rw [List.idxOf_append, if_neg this]; simp
  unfold mp
  rw [hx]
  have hl2 : had.length = t.length + 1 := by rw [hl, ht]; simp
  rw [List.getLastD_eq_getLast?, List.getLast?_eq_getElem?, hl2]; rfl
theorem dropLast_snoc {α : Type} (l : List α) (x : α) : (l ++ [x]).dropLast = l := by simp
theorem back_buildA {l : List Nd} (w : Wf l) (hR : ∀ n ∈ l, right l n = true) (hl : l.length ≤ 65536) {x : Int} (hx : has l x = true) {A : Ar} (hA : ArOk A)
    (hroom : A.l.length + (rowsA l [] x).length ≤ A.limit ∨ (buildA A (strO (text l x))).2.2 = 0) :
    ∃ A' φ, buildA A (strO (text l x)) = (A', φ x, 0) ∧ ArOk A' ∧ A.l <+: A'.l ∧ Emb l A'.l φ (fun y => y ∈ rowsA l [] x) := by
  have hr := rows_refs w (Refs.nil l) x
  obtain ⟨t, ht⟩ := rows_last w hx
  have hs : splitS 59 (strO (text l x)) = ((rowsA l [] x).map fun y => strO (rowB (rowsA l [] x) (nd l y))) ++ [strO []] := by
    rw [splitS_eq]; unfold text; rw [split_text]; simp
  have hb : buildA A (strO (text l x)) = buildF ((rowsA l [] x).map fun y => strO (rowB (rowsA l [] x) (nd l y))) A [] := by
    unfold buildA
    rw [hs, if_neg]
    · rw [dropLast_snoc]
    · rw [not_or]
      refine ⟨by rw [ht]; simp, ?_⟩
      rw [List.getLastD_eq_getLast?]; simp [strO]
  rw [hb] at hroom ⊢
  obtain ⟨A', had', b1, b2, b3, b4, b5⟩ := back_build w hR hr (rows_closed w x) (Nat.le_trans hr.length hl) (rowsA l [] x) A [] (by simp) (by simp) hA
    ⟨fun y hy => by simp at hy, fun y hy => by simp at hy, fun y hy => by simp at hy, fun y hy => by simp at hy, fun y hy => by simp at hy⟩ hroom
  exact ⟨A', mp (rowsA l [] x) had', by rw [b1, last_mp ht hr.nodup b2], b3, b4, b5⟩
/-- In its own arena each is found. -/
theorem Emb.own {l m : List Nd} {φ : Int → Int} {D : Int → Prop} (e : Emb l m φ D) (w : Wf l) (wm : Wf m) (h : l <+: m) : ∀ (n : Nat) (x : Int), x.toNat < n → D x → φ x = x
  | 0, _, h, _ => by omega
  | n + 1, x, hn, hx => by
    have hxl := e.hasl x hx
    refine nd_inj wm (e.hasm x hx) (has_pre h hxl) ?_
    rw [nd_pre h hxl]
    refine nd_ext (e.kind x hx) (e.num x hx) (fun k hk => ?_)
    have p := e.part x hx k hk
    by_cases hm : k < many (nd l x).kind
    · rw [if_pos hm] at p
      have hlt := w.kid hxl (part_kid hm)
      rw [p.2]
      exact e.own w wm h n _ (by omega) p.1
    · rw [if_neg hm] at p
      rw [p.1, p.2]
end Go.Proofs.YtfelbecofbdeaaaGreatDoor
