/- Packed by packn.py: Sync3, Sync4, Sync5, Sync6, Sync7. -/
import Derived.Test.YtikimmgileffgaaGreatDoorQk30
import Derived.Test.YtikimmgileffgaaGreatDoorQk27
/- Two sides of a handshake, message by message (layer 12). No program in sight. -/
section
namespace Go.Proofs.YtikimmgileffgaaGreatDoor
open Go.RowKit

theorem Pair.sym {A : Ar} {f : Nat → Bool} {w r : Nat} {Sw Sr : Int} {h g : Hs} {k : Int} (P : Pair A f w r Sw Sr h g k) : Pair A f r w Sr Sw g h k :=
  ⟨P.at_.symm, P.nx.symm, P.y.symm, P.y ▸ P.ok, P.y ▸ P.key, P.rE, P.rS, P.wE, P.wS⟩
theorem Pair.grow {A B : Ar} {c : Nat} {f : Nat → Bool} {w r : Nat} {Sw Sr : Int} {h g : Hs} {k : Int} (P : Pair A f w r Sw Sr h g k) (gr : Grow A B c) : Pair B f w r Sw Sr h g k :=
  ⟨P.at_, P.nx, P.y, P.ok.grow gr, P.key, fun e => (P.wE e).grow gr, fun e => (P.wS e).grow gr, fun e => (P.rE e).grow gr, fun e => (P.rS e).grow gr⟩
theorem tok_key {f f' : Nat → Bool} {w t : Nat} (ht : t ≤ 2) (h : tokV f w t = (0, f')) : f (3 * w + t) = false ∧ f' = putV (putV f (3 * w + t) true) 15 (f 15 || (decide (t = 1) && f 14)) := by
  unfold tokV at h
  rw [if_pos ht] at h
  split at h
  · simp at h
  · rename_i h1
    split at h
    · rename_i h2; simp only [Prod.mk.injEq] at h; omega
    · simp only [Prod.mk.injEq] at h
      exact ⟨by simpa using h1, h.2.symm⟩
theorem tok_mode {f f' : Nat → Bool} {w t : Nat} (hw : w ≤ 1) (ht : t ≤ 7) (h : tokV f w t = (0, f')) : f' 14 = f 14 := by
  by_cases h2 : t ≤ 2
  · rw [(tok_key h2 h).2]; unfold putV; rw [if_neg (by omega), if_neg (by omega)]
  · rw [(tok_dh (by omega) h).2]; unfold putV; rw [if_neg (by omega), if_neg (by omega)]
/-- What is told in the open: it is mixed; and, where there is a psk, into the key too. -/
theorem open_all {A : Ar} {s : Sy} {x k : Int} (md : Bool) (hA : ArOk A) (hs : SyOk A s k) (hk : 0 ≤ k) (hx : has A.l x = true) (room : A.l.length + 3 ≤ A.limit) :
    ∃ A' y, openY A s md x true = (A', y, 0) ∧ Grow A A' 3 ∧ SyOk A' y k ∧ y.c.has = (s.c.has || md) ∧ ∀ B, ArOk B → A'.l <+: B.l → openY B s md x true = (B, y, 0) := by
  obtain ⟨A1, h1, a1, a2, a3, a4, a5⟩ := mixHash_all hA hs.h hx (by omega)
  cases md with
  | false =>
    refine ⟨A1, ⟨s.ck, h1, s.c⟩, by simp [openY, a1], a2.le (by omega), ⟨a2.has hs.ck, a3, fun e => a2.has (hs.key e), hs.n0, hs.n1⟩, by simp, fun B hB hl => by simp [openY, a5 B hB hl]⟩
  | true =>
    obtain ⟨A2, c, q, b1, b2, b3, b4, b5, b6, b7⟩ := mixKey_all (s := ⟨s.ck, h1, s.c⟩) (x := x) a2.ok (a2.has hs.ck) (a2.has hx) (a2.room (d := 2) (by omega))
    refine ⟨A2, ⟨c, h1, ⟨q, true, 0⟩⟩, by simp [openY, a1, b1], a2.trans b2, ⟨b3, b2.has a3, fun _ => b4, Int.le_refl _, hk⟩, by simp, fun B hB hl => by simp [openY, a5 B hB (b2.pre.trans hl), b7 B hB hl]⟩
/-- The state that a writer goes on with: a fresh secret, where the token is E. -/
def frE (h : Hs) (e t : Int) : Hs := if t = 1 then { h with E := e } else h
/-- A token that is a key. -/
theorem send_sync {A : Ar} {f f' : Nat → Bool} {w r : Nat} {Sw Sr t k e : Int} {h g : Hs} (hwr : (w = 0 ∧ r = 1) ∨ (w = 1 ∧ r = 0)) (hA : ArOk A) (P : Pair A f w r Sw Sr h g k) (hk : 0 ≤ k ∧ k < 1000) (ht : t = 1 ∨ t = 2) (htok : tokV f w t.toNat = (0, f'))
    (he : has A.l e = true) (he0 : e ≠ 0) (hS : has A.l Sw = true) (room : A.l.length + 4 ≤ A.limit) :
    ∃ A' h' g' part, sendC A w Sw (f 14) (frE h e t) t = (A', h', part, 0) ∧ Grow A A' 4 ∧ Pair A' f' w r Sw Sr h' g' (k + 1) ∧ has A'.l part = true ∧ ∀ B, ArOk B → A'.l <+: B.l → receiveC B (f 14) g t part = (B, g', 0) := by
  obtain ⟨hf, rfl⟩ := tok_key (by omega) htok
  have hlow : ∀ i, i < 6 → i ≠ 3 * w + t.toNat → putV (putV f (3 * w + t.toNat) true) 15 (f 15 || (decide (t.toNat = 1) && f 14)) i = f i := fun i hi h2 => by unfold putV; rw [if_neg (by omega), if_neg h2]
  rcases ht with rfl | rfl
  · obtain ⟨A1, y, a1, a2, a3, a4, -⟩ := pub_all hA he (by omega)
    obtain ⟨A2, q, b1, b2, b3, b4, b5⟩ := open_all (f 14) a2.ok (P.ok.grow a2) hk.1 a3 (a2.room (d := 3) (by omega))
    have gr := a2.trans b2
    refine ⟨A2, { h with E := e, y := q }, { g with RE := y, y := q }, y, ?_, gr, ⟨P.at_, P.nx, rfl, b3.le (by omega), ?_, fun _ => ⟨gr.has he, b2.has a3, by rw [nd_pre b2.pre a3]; exact a4⟩, fun hi => ?_, fun hi => ?_, fun hi => ?_⟩, b2.has a3, fun B hB hl => ?_⟩
    · have hp : publicC A w Sw e h.RS h.RE w 1 = (A1, y, 0) := by simp [publicC, a1]
      simp [sendC, frE, he0, hp, b1]
    · show q.c.has = _
      rw [b4, P.key]; simp [putV]
    · rw [hlow _ (by omega) (by simp only [Int.toNat_one]; omega)] at hi; exact (P.wS hi).grow gr
    · rw [hlow _ (by omega) (by simp only [Int.toNat_one]; omega)] at hi; exact (P.rE hi).grow gr
    · rw [hlow _ (by omega) (by simp only [Int.toNat_one]; omega)] at hi; exact (P.rS hi).grow gr
    · simp [receiveC, P.y, b5 B hB hl]
  · obtain ⟨A1, y, a1, a2, a3, a4, -⟩ := pub_all hA hS (by omega)
    obtain ⟨A2, q, part, b1, b2, b3, b4, b5, b6, b7, b8⟩ := seal_all a2.ok (P.ok.grow a2) hk.2 a3 (by have := a2.room (d := 3) (by omega); omega)
    have gr := (a2.trans b2).le (d := 4) (by omega)
    have h2 : (2 : Int).toNat = 2 := rfl
    refine ⟨A2, { h with y := q }, { g with RS := y, y := q }, part, ?_, gr, ⟨P.at_, P.nx, rfl, b3, ?_, fun hi => ?_, fun _ => ⟨gr.has hS, b2.has a3, by rw [nd_pre b2.pre a3]; exact a4⟩, fun hi => ?_, fun hi => ?_⟩, b5, fun B hB hl => ?_⟩
    · have hp : publicC A w Sw h.E h.RS h.RE w 2 = (A1, y, 0) := by simp [publicC, a1]
      simp [sendC, frE, hp, sealedC, b1]
    · show q.c.has = _
      rw [b4, P.key]; simp [putV]
    · rw [hlow _ (by omega) (by omega)] at hi; exact (P.wE hi).grow gr
    · rw [hlow _ (by omega) (by omega)] at hi; exact (P.rE hi).grow gr
    · rw [hlow _ (by omega) (by omega)] at hi; exact (P.rS hi).grow gr
    · simp [receiveC, openedC, P.y, (b8 B hB hl).2]
/-- The tokens of a message, one by one. -/
theorem toks_sync {w r : Nat} {Sw Sr e : Int} {psks : List Int} {md : Bool} (hwr : (w = 0 ∧ r = 1) ∨ (w = 1 ∧ r = 0)) (he0 : e ≠ 0) : ∀ (l : List Int) {A : Ar} {f f' : Nat → Bool} {h g : Hs} {k : Int} (msg : List Int), ArOk A → Pair A f w r Sw Sr h g k → 0 ≤ k → k + l.length < 1000 → (∀ t ∈ l, 1 ≤ t ∧ t ≤ 7) → msgV w l f = (0, f') → f 14 = md →
    0 ≤ h.nx → h.nx + cnt7 l ≤ psks.length → (∀ x ∈ psks, has A.l x = true) → has A.l e = true → has A.l Sw = true → A.l.length + 4 * l.length ≤ A.limit →
    ∃ A' h' g' parts, writeL w Sw e psks md l A h msg = (A', h', msg ++ parts, 0) ∧ Grow A A' (4 * l.length) ∧ Pair A' f' w r Sw Sr h' g' (k + l.length) ∧ f' 14 = md ∧ h'.at_ = h.at_ ∧ h'.nx = h.nx + cnt7 l ∧ (∀ x ∈ parts, has A'.l x = true) ∧ (parts.length : Int) + 1 = partsC l ∧
      ∀ B, ArOk B → A'.l <+: B.l → ∀ pre post, readL r Sr psks md (pre ++ parts ++ post) l B g pre.length = (B, g', pre.length + parts.length, 0)
  | [], A, f, f', h, g, k, msg, hA, P, hk, hk2, hl, hv, hm, h0, hn, hp, he, hS, room => by
    have hf : f' = f := by simp only [msgV, Prod.mk.injEq] at hv; exact hv.2.symm
    subst hf
    exact ⟨A, h, g, [], by simp [writeL], (Grow.refl hA).le (by omega), by simpa using P, hm, rfl, by simp [cnt7], by simp, rfl, fun B hB hl pre post => by simp [readL]⟩
  | t :: l, A, f, f', h, g, k, msg, hA, P, hk, hk2, hl, hv, hm, h0, hn, hp, he, hS, room => by
    have ht := hl t (List.mem_cons_self ..)
    have hl' : ∀ t ∈ l, 1 ≤ t ∧ t ≤ 7 := fun x hx => hl x (List.mem_cons_of_mem _ hx)
    simp only [List.length_cons] at hk2 room ⊢
    have hw1 : w ≤ 1 := by omega
    have hpos := cnt7_pos l
    have htok : tokV f w t.toNat = (0, (tokV f w t.toNat).2) ∧ msgV w l (tokV f w t.toNat).2 = (0, f') := by
      simp only [msgV] at hv
      have h1 : 0 ≤ (tokV f w t.toNat).1 := by unfold tokV; split <;> (try split) <;> (try split) <;> simp; omega
      split at hv
      · rename_i h2; rw [hv] at h2; simp at h2
      · refine ⟨Prod.ext (by show (tokV f w t.toNat).1 = 0; omega) rfl, hv⟩
    obtain ⟨ht1, ht2⟩ := htok
    generalize hf1 : (tokV f w t.toNat).2 = f1 at ht1 ht2
    have hm1 : f1 14 = md := by rw [tok_mode hw1 (by omega) ht1, hm]
    by_cases h2 : 2 < t
    · have hpsk : t = 7 → has A.l (psks.getD h.nx.toNat 0) = true := fun h7 => by
        simp only [cnt7, if_pos h7] at hn
        have hi : h.nx.toNat < psks.length := by omega
        rw [getD_at (List.getElem?_eq_getElem hi)]
        exact hp _ (List.getElem_mem hi)
      obtain ⟨A1, h1, g1, a1, a2, a3, a4⟩ := mix_sync hwr hA P hk ⟨by omega, ht.2⟩ ht1 hpsk (by omega)
      obtain ⟨s1, s2, -, -, -⟩ := mixC_st a1
      obtain ⟨A2, h2', g2, parts, b1, b2, b3, b4, b5, b6, b7, b8, b9⟩ := toks_sync (Sw := Sw) (Sr := Sr) (psks := psks) hwr he0 l msg a2.ok a3 hk (by omega) hl' ht2 hm1 (by rw [s2]; split <;> omega) (by rw [s2]; simp only [cnt7] at hn; omega) (fun x hx => a2.has (hp x hx)) (a2.has he) (a2.has hS) (a2.room (d := 4 * l.length) (by omega))
      refine ⟨A2, h2', g2, parts, ?_, (a2.trans b2).le (by omega), ?_, b4, b5.trans s1, by rw [b6, s2]; simp only [cnt7]; omega, b7, by rw [b8]; simp only [partsC]; rw [if_neg (by omega)], fun B hB hl0 pre post => ?_⟩
      · simp only [writeL, if_pos h2, if_neg (show ¬ t = 1 by omega), a1, ne_eq, not_true_eq_false, if_false]; exact b1
      · exact ⟨b3.at_, b3.nx, b3.y, b3.ok.le (by omega), b3.key, b3.wE, b3.wS, b3.rE, b3.rS⟩
      · simp only [readL, if_pos h2, a4 B hB (b2.pre.trans hl0), ne_eq, not_true_eq_false, if_false]; exact b9 B hB hl0 pre post
    · have h7 : ¬ t = 7 := by omega
      simp only [cnt7, if_neg h7] at hn ⊢
      obtain ⟨A1, h1, g1, part, a1, a2, a3, a4, a5⟩ := send_sync (e := e) hwr hA P ⟨hk, by omega⟩ (by omega) ht1 he he0 hS (by omega)
      rw [hm] at a1 a5
      obtain ⟨s1, s2, -, -, -⟩ := sendC_st a1
      have s1 : h1.at_ = h.at_ := by rw [s1]; unfold frE; split <;> rfl
      have s2 : h1.nx = h.nx := by rw [s2]; unfold frE; split <;> rfl
      obtain ⟨A2, h2', g2, parts, b1, b2, b3, b4, b5, b6, b7, b8, b9⟩ := toks_sync (Sw := Sw) (Sr := Sr) (psks := psks) hwr he0 l (msg ++ [part]) a2.ok a3 (by omega) (by omega) hl' ht2 hm1 (by rw [s2]; exact h0) (by rw [s2]; omega) (fun x hx => a2.has (hp x hx)) (a2.has he) (a2.has hS) (a2.room (d := 4 * l.length) (by omega))
      refine ⟨A2, h2', g2, part :: parts, ?_, (a2.trans b2).le (by omega), ?_, b4, b5.trans s1, by rw [b6, s2]; omega, ?_, by simp only [List.length_cons, partsC]; rw [if_pos (by omega)]; omega, fun B hB hl0 pre post => ?_⟩
      · have : (if t = 1 then { h with E := e } else h) = frE h e t := rfl
        simp only [writeL, if_neg h2, this, a1, ne_eq, not_true_eq_false, if_false]
        rw [b1]; simp
      · exact ⟨b3.at_, b3.nx, b3.y, b3.ok.le (by omega), b3.key, b3.wE, b3.wS, b3.rE, b3.rS⟩
      · intro x hx
        rcases List.mem_cons.1 hx with rfl | hx
        · exact b2.has a4
        · exact b7 x hx
      · have hg : (pre ++ part :: parts ++ post).getD pre.length 0 = part := by simp [List.getD_eq_getElem?_getD]
        simp only [readL, if_neg h2, hg, a5 B hB (b2.pre.trans hl0), ne_eq, not_true_eq_false, if_false]
        have := b9 B hB hl0 (pre ++ [part]) post
        simp only [List.length_append, List.length_cons, List.length_nil, List.append_assoc, List.cons_append, List.nil_append] at this ⊢
        rw [this]
        simp; omega
end Go.Proofs.YtikimmgileffgaaGreatDoor
end
/- Whole messages, and the beginning, of both sides (layer 12). No program in sight. -/
section
namespace Go.Proofs.YtikimmgileffgaaGreatDoor
open Go.RowKit

theorem msg_sync {A : Ar} {f f' : Nat → Bool} {w r : Nat} {Sw Sr e payload : Int} {psks : List Int} {p : Pat} {h g : Hs} {k : Int} (hwr : (w = 0 ∧ r = 1) ∨ (w = 1 ∧ r = 0)) (hA : ArOk A) (P : Pair A f w r Sw Sr h g k) (hk : 0 ≤ k) (hk2 : k + (toks p h.at_).length < 1000)
    (hs : sendsP p w h.at_ = true) (hr : sendsP p r h.at_ = false) (hl : ∀ t ∈ toks p h.at_, 1 ≤ t ∧ t ≤ 7) (hv : msgV w (toks p h.at_) f = (0, f')) (hm : f 14 = modeP p) (h0 : 0 ≤ h.nx) (hn : h.nx + cnt7 (toks p h.at_) ≤ psks.length) (hp : ∀ x ∈ psks, has A.l x = true)
    (he0 : e ≠ 0) (he : has A.l e = true) (hpay : has A.l payload = true) (hS : has A.l Sw = true) (room : A.l.length + (4 * (toks p h.at_).length + 2) ≤ A.limit) :
    ∃ A' h' g' msg, writeC A w Sw psks p h e payload = (A', h', msg, 0) ∧ Grow A A' (4 * (toks p h.at_).length + 2) ∧ Pair A' f' w r Sw Sr h' g' (k + (toks p h.at_).length + 1) ∧ f' 14 = modeP p ∧ h'.at_ = h.at_ + 1 ∧ h'.nx = h.nx + cnt7 (toks p h.at_) ∧
      ∀ B, ArOk B → A'.l <+: B.l → readC B r Sr psks p g msg = (B, g', payload, 0) := by
  obtain ⟨A1, h1, g1, parts, a1, a2, a3, a4, a5, a6, a7, a8, a9⟩ := toks_sync (Sw := Sw) (Sr := Sr) (psks := psks) hwr he0 (toks p h.at_) [] hA P hk hk2 hl hv hm h0 hn hp he hS (by omega)
  obtain ⟨A2, y, part, b1, b2, b3, b4, b5, b6, b7, b8⟩ := seal_all a2.ok a3.ok (by omega) (a2.has hpay) (a2.room (d := 2) (by omega))
  refine ⟨A2, { h1 with y := y, at_ := h1.at_ + 1 }, { g1 with y := y, at_ := g1.at_ + 1 }, parts ++ [part], ?_, a2.trans b2, ⟨?_, a3.nx, rfl, b3, ?_, fun hi => (a3.wE hi).grow b2, fun hi => (a3.wS hi).grow b2, fun hi => (a3.rE hi).grow b2, fun hi => (a3.rS hi).grow b2⟩, a4, ?_, a6, fun B hB hl => ?_⟩
  · simp only [List.nil_append] at a1
    simp [writeC, hs, he, hpay, a1, sealedC, b1]
  · show g1.at_ + 1 = h1.at_ + 1
    rw [a3.at_]
  · show y.c.has = _
    rw [b4, a3.key]
  · show h1.at_ + 1 = _
    rw [a5]
  · have hl1 := b2.pre.trans hl
    have hat : ¬ (p.msgs.length : Int) ≤ h.at_ := by
      obtain ⟨q, m, e1, e2, -⟩ := sendsP_facts hs
      have := idx_lt e2
      omega
    have hall : ((parts ++ [part]).all fun x => has B.l x) = true := by
      rw [List.all_eq_true]
      intro x hx
      rcases List.mem_append.1 hx with hx | hx
      · exact has_pre hl1 (a7 x hx)
      · rw [List.mem_singleton.1 hx]; exact has_pre hl b5
    have hlen : ((parts ++ [part]).length : Int) = partsC (toks p h.at_) := by rw [← a8]; simp
    have hr1 := a9 B hB hl1 [] [part]
    simp only [List.nil_append, List.length_nil, Nat.zero_add] at hr1
    have hg : (parts ++ [part]).getD parts.length 0 = part := by simp [List.getD_eq_getElem?_getD]
    have ho : openedC B g1 part = (B, { g1 with y := y }, payload, 0) := by simp [openedC, a3.y, (b8 B hB hl).2]
    unfold readC
    rw [P.at_, if_neg (by rw [hr]; simp [hat]), if_neg (by rw [hall]; decide), if_neg (by rw [hlen]; simp)]
    simp only [hr1, ne_eq, not_true_eq_false, if_false, hg, ho]
theorem name_all : ∀ (l : List UInt8) {A : Ar} {t : Int}, ArOk A → has A.l t = true → A.l.length + 2 * l.length ≤ A.limit →
    ∃ A' y, nameS l A t = (A', y, 0) ∧ Grow A A' (2 * l.length) ∧ has A'.l y = true ∧ ∀ B, ArOk B → A'.l <+: B.l → nameS l B t = (B, y, 0)
  | [], A, t, hA, ht, room => ⟨A, t, rfl, (Grow.refl hA).le (by omega), ht, fun _ _ _ => rfl⟩
  | c :: l, A, t, hA, ht, room => by
    simp only [List.length_cons] at room ⊢
    have hc : (c.toNat : Int) ≤ 18446744073709551615 := by have := c.toNat_lt; omega
    obtain ⟨A1, x, a1, a2, a3, -, a5⟩ := mk_all (n := ⟨9, c.toNat, 0, 0, 0⟩) hA (Int.natCast_nonneg _) hc (by simp [right, numberedP, partsOk, many, Nd.part]) (by omega)
    obtain ⟨A2, y, b1, b2, b3, -, b5⟩ := mk_all (n := ⟨8, 0, t, x, 0⟩) a2.ok (Int.le_refl 0) (show (0 : Int) ≤ _ by decide) (right_of (.inr (.inr (.inr (.inr rfl)))) rfl (a2.has ht) a3 rfl) (by have := a2.room (d := 1) (by omega); omega)
    have g2 := a2.trans b2
    obtain ⟨A3, z, c1, c2, c3, c4⟩ := name_all l b2.ok b3 (g2.room (d := 2 * l.length) (by omega))
    exact ⟨A3, z, by simp [nameS, a1, b1, c1], (g2.trans c2).le (by omega), c3, fun B hB hl => by
      simp [nameS, a5 B hB (b2.pre.trans (c2.pre.trans hl)), b5 B hB (c2.pre.trans hl), c4 B hB hl]⟩
theorem begin_all {A : Ar} {name : List UInt8} {pro : Int} (hA : ArOk A) (hn : name.length ≤ 100) (hp : has A.l pro = true) (h0 : has A.l 0 = true) (room : A.l.length + (2 * name.length + 1) ≤ A.limit) :
    ∃ A' y, beginS A name pro = (A', y, 0) ∧ Grow A A' (2 * name.length + 1) ∧ SyOk A' y 0 ∧ y.c.has = false ∧ ∀ B, ArOk B → A'.l <+: B.l → beginS B name pro = (B, y, 0) := by
  obtain ⟨A1, t, a1, a2, a3, a4⟩ := name_all name (t := 0) hA h0 (by omega)
  obtain ⟨A2, h', b1, b2, b3, b4, b5⟩ := mixHash_all (s := ⟨t, t, Ci.zero⟩) (x := pro) a2.ok a3 (a2.has hp) (a2.room (d := 1) (by omega))
  refine ⟨A2, ⟨t, h', Ci.zero⟩, ?_, a2.trans b2, ⟨b2.has a3, b3, (fun e => by cases e), Int.le_refl _, Int.le_refl _⟩, rfl, fun B hB hl => ?_⟩
  · unfold beginS; rw [if_neg (by rw [hp]; simp; omega)]; simp [a1, b1]
  · have hl0 := (a2.trans b2).pre.trans hl
    unfold beginS; rw [if_neg (by rw [has_pre hl0 hp]; simp; omega)]; simp [a4 B hB (b2.pre.trans hl), b5 B hB hl]
/-- A key that was told is mixed. -/
theorem openK_all {A : Ar} {s : Sy} {x k : Int} (md eph : Bool) (hA : ArOk A) (hs : SyOk A s k) (hk : 0 ≤ k) (hx : has A.l x = true) (room : A.l.length + 3 ≤ A.limit) :
    ∃ A' y, openY A s md x eph = (A', y, 0) ∧ Grow A A' 3 ∧ SyOk A' y k ∧ y.c.has = (s.c.has || (eph && md)) ∧ ∀ B, ArOk B → A'.l <+: B.l → openY B s md x eph = (B, y, 0) := by
  have key : ∀ C : Ar, openY C s md x eph = openY C s (eph && md) x true := fun C => by cases eph <;> cases md <;> simp [openY]
  obtain ⟨A', y, h1, h2, h3, h4, h5⟩ := open_all (eph && md) hA hs hk hx room
  exact ⟨A', y, by rw [key, h1], h2, h3, h4, fun B hB hl => by rw [key, h5 B hB hl]⟩
/-- What was told beforehand, of both sides: q tells the keys. -/
theorem told_all {md : Bool} {who : Int} {q : Int → Int} : ∀ (l : List Int) {A : Ar} {s : Sy} {k : Int}, ArOk A → SyOk A s k → 0 ≤ k → (∀ t ∈ l, has A.l (q t) = true) → A.l.length + 3 * l.length ≤ A.limit →
    ∃ A' y, Grow A A' (3 * l.length) ∧ SyOk A' y k ∧ y.c.has = (s.c.has || (decide (1 ∈ l) && md)) ∧ ∀ role kS kE kRS kRE, (∀ t ∈ l, ∀ B, ArOk B → A.l <+: B.l → publicC B role kS kE kRS kRE who t = (B, q t, 0)) →
      toldL md role kS kE kRS kRE who l (A, s, 0) = (A', y, 0) ∧ ∀ B, ArOk B → A'.l <+: B.l → toldL md role kS kE kRS kRE who l (B, s, 0) = (B, y, 0)
  | [], A, s, k, hA, hs, hk, hq, room => ⟨A, s, (Grow.refl hA).le (by omega), hs, by simp, fun _ _ _ _ _ _ => ⟨rfl, fun _ _ _ => rfl⟩⟩
  | t :: l, A, s, k, hA, hs, hk, hq, room => by
    simp only [List.length_cons] at room ⊢
    obtain ⟨A1, y1, a1, a2, a3, a4, a5⟩ := openK_all md (decide (t = 1)) hA hs hk (hq t (List.mem_cons_self ..)) (by omega)
    obtain ⟨A2, y2, b1, b2, b3, b4⟩ := told_all (md := md) (who := who) (q := q) l a2.ok a3 hk (fun x hx => a2.has (hq x (List.mem_cons_of_mem _ hx))) (a2.room (d := 3 * l.length) (by omega))
    refine ⟨A2, y2, (a2.trans b1).le (by omega), b2, ?_, fun role kS kE kRS kRE hpub => ?_⟩
    · rw [b3, a4]
      cases s.c.has <;> cases md <;> simp [eq_comm (a := (1 : Int))]
    · obtain ⟨c1, c2⟩ := b4 role kS kE kRS kRE (fun x hx B hB hl => hpub x (List.mem_cons_of_mem _ hx) B hB (a2.pre.trans hl))
      have ht := fun B hB hl => hpub t (List.mem_cons_self ..) B hB hl
      refine ⟨?_, fun B hB hl => ?_⟩
      · simp only [toldL, ne_eq, not_true_eq_false, if_false, toldY, ht A hA List.prefix_rfl, a1]; exact c1
      · simp only [toldL, ne_eq, not_true_eq_false, if_false, toldY, ht B hB (a2.pre.trans (b1.pre.trans hl)), a5 B hB (b1.pre.trans hl)]; exact c2 B hB hl
end Go.Proofs.YtikimmgileffgaaGreatDoor
end
/- Two sides of a whole handshake (layer 12). No program in sight. -/
section
namespace Go.Proofs.YtikimmgileffgaaGreatDoor
open Go.RowKit

/-- The psks of messages. -/
def cntM : List Msg → Int
  | [] => 0
  | m :: l => cnt7 m.t + cntM l
theorem cntM_pos : ∀ l, 0 ≤ cntM l
  | [] => Int.le_refl _
  | m :: l => by have := cntM_pos l; have := cnt7_pos m.t; simp only [cntM]; omega
theorem needTok_cnt (role frm : Int) : ∀ (l : List Int) (s : Bool) (n : Int), (needTok role frm l s n).2 = n + cnt7 l
  | [], s, n => by simp [needTok, cnt7]
  | t :: l, s, n => by
    simp only [needTok, cnt7]
    split
    · rw [needTok_cnt role frm l]; omega
    · split <;> rw [needTok_cnt role frm l] <;> omega
theorem needMsgs_cnt (role : Int) : ∀ (l : List Msg) (s : Bool) (n : Int), (needMsgs role l s n).2 = n + cntM l
  | [], s, n => by simp [needMsgs, cntM]
  | m :: l, s, n => by
    simp only [needMsgs, cntM]
    rw [needMsgs_cnt role l, needTok_cnt]; omega
def needS (p : Pat) (role : Int) : Bool := (needMsgs role p.msgs (decide ((2 : Int) ∈ preOf p role)) 0).1
def needK (p : Pat) (role : Int) : NK := ⟨needS p role, decide ((1 : Int) ∈ preOf p role), decide ((2 : Int) ∈ preOf p (1 - role)), decide ((1 : Int) ∈ preOf p (1 - role)), cntM p.msgs⟩
theorem need_eq {p : Pat} {role : Int} (hr : role = 0 ∨ role = 1) : needOf p role = if (checkV p).2.2 ≠ 0 then (NK.zero, (checkV p).2.2) else (needK p role, 0) := by
  unfold needOf needK needS
  rw [if_neg (by omega)]; dsimp only; rw [needMsgs_cnt]; simp
theorem needTok_mono (role frm : Int) : ∀ (l : List Int) (n : Int), (needTok role frm l true n).1 = true
  | [], n => rfl
  | t :: l, n => by
    simp only [needTok]
    split
    · exact needTok_mono role frm l _
    · split <;> exact needTok_mono role frm l _
theorem needMsgs_mono (role : Int) : ∀ (l : List Msg) (n : Int), (needMsgs role l true n).1 = true
  | [], n => rfl
  | m :: l, n => by simp only [needMsgs]; rw [needTok_mono]; exact needMsgs_mono role l _
theorem needS_pre {p : Pat} {role : Int} (h : (2 : Int) ∈ preOf p role) : needS p role = true := by unfold needS; rw [decide_eq_true h]; exact needMsgs_mono role _ _
/-- What two sides know of one another. -/
structure Keys2 (A : Ar) (k0 k1 : Ks) : Prop where
  rs0 : PubOf A k0.rs k1.s
  re0 : PubOf A k0.re k1.e
  rs1 : PubOf A k1.rs k0.s
  re1 : PubOf A k1.re k0.e
  pos : 0 < k0.s ∧ 0 < k0.e ∧ 0 < k0.rs ∧ 0 < k0.re ∧ 0 < k1.s ∧ 0 < k1.e ∧ 0 < k1.rs ∧ 0 < k1.re
  len : k0.psks.length = k1.psks.length
  p0 : ∀ x ∈ k0.psks, has A.l x = true
  p1 : ∀ x ∈ k1.psks, has A.l x = true
theorem Keys2.grow {A B : Ar} {c : Nat} {k0 k1 : Ks} (K : Keys2 A k0 k1) (g : Grow A B c) : Keys2 B k0 k1 := ⟨K.rs0.grow g, K.re0.grow g, K.rs1.grow g, K.re1.grow g, K.pos, K.len, fun x hx => g.has (K.p0 x hx), fun x hx => g.has (K.p1 x hx)⟩
/-- What is kept of the keys. -/
def hs0 (p : Pat) (role : Int) (k : Ks) (y : Sy) : Hs := ⟨0, 0, sel (needK p role).e k.e, sel (needK p role).rs k.rs, sel (needK p role).re k.re, y⟩
def toldK (p : Pat) (role : Int) (k : Ks) (b : Ar × Sy × Int) : Ar × Sy × Int :=
  let n := needK p role
  let q := toldL (modeP p) role (sel n.s k.s) (sel n.e k.e) (sel n.rs k.rs) (sel n.re k.re) 0 p.pre0 b
  let r := if q.2.2 ≠ 0 then q else toldL (modeP p) role (sel n.s k.s) (sel n.e k.e) (sel n.rs k.rs) (sel n.re k.re) 1 p.pre1 q
  if r.2.2 ≠ 0 then (r.1, Sy.zero, r.2.2) else r
/-- Start, where nothing is amiss but the psks' number. -/
theorem startC_eq {A : Ar} {p : Pat} {role pro : Int} {k : Ks} (hr : role = 0 ∨ role = 1) (hpro : has A.l pro = true) (hs : has A.l k.s = true) (he : has A.l k.e = true) (hrs : has A.l k.rs = true) (hre : has A.l k.re = true) (hp : ∀ x ∈ k.psks, has A.l x = true) (ps : 0 < k.s) (pe : 0 < k.e) (prs : 0 < k.rs) (pre : 0 < k.re) :
    startC A p role pro k = if (checkV p).2.2 ≠ 0 then (A, Sy.zero, (checkV p).2.2) else if (k.psks.length : Int) ≠ cntM p.msgs then (A, Sy.zero, 10) else toldK p role k (beginS A p.name pro) := by
  have hall : (k.psks.all fun x => has A.l x) = true := by rw [List.all_eq_true]; exact hp
  have e1 : enough (needK p role) ⟨decide (0 < k.s), decide (0 < k.e), decide (0 < k.rs), decide (0 < k.re), k.psks.length⟩ = decide ((k.psks.length : Int) = cntM p.msgs) := by
    unfold enough needK; simp [ps, pe, prs, pre]
  unfold startC
  rw [need_eq hr]
  by_cases hc : (checkV p).2.2 = 0
  · simp only [hc, ne_eq, not_true_eq_false, if_false]
    rw [if_neg (by rw [hpro, hs, he, hrs, hre, hall]; simp), e1]
    by_cases hq : (k.psks.length : Int) = cntM p.msgs
    · rw [decide_eq_true hq, if_neg (show ¬ (true = false) by decide), if_neg (show ¬ ((k.psks.length : Int) ≠ cntM p.msgs) by simpa using hq)]; rfl
    · rw [decide_eq_false hq, if_pos rfl, if_pos hq]
  · simp only [ne_eq, hc, not_false_eq_true, if_true]
theorem pub_there {B : Ar} {x y : Int} (hB : ArOk B) (h : PubOf B y x) : mk B ⟨2, 0, x, 0, 0⟩ = (B, y, 0) :=
  mk_there hB.wf (right_of (.inl rfl) rfl h.hx rfl rfl) h.hy h.nd
theorem told12 {l : List Int} (h : toldB l = true) : (∀ t ∈ l, t = 1 ∨ t = 2) ∧ l.length ≤ 2 := by
  simp only [toldB, Bool.or_eq_true, decide_eq_true_eq] at h
  rcases h with ((rfl | rfl) | rfl) | rfl <;> simp
theorem rightP_facts {p : Pat} (h : rightP p = true) : p.name.length ≤ 20 ∧ toldB p.pre0 = true ∧ toldB p.pre1 = true ∧ 1 ≤ p.msgs.length ∧ p.msgs.length ≤ 6 ∧ ∀ m ∈ p.msgs, wrongM m = false := by
  simp only [rightP, namedB, Bool.and_eq_true, decide_eq_true_eq, Bool.not_eq_true', List.any_eq_false] at h
  obtain ⟨⟨⟨⟨⟨h1, h2⟩, h3⟩, h4⟩, h5⟩, h6⟩ := h
  exact ⟨h1.2, h2, h3, h4, h5, fun m hm => by simpa using h6 m hm⟩
theorem PubOf.pre {A B : Ar} {y x : Int} (h : PubOf A y x) (hl : A.l <+: B.l) : PubOf B y x := ⟨has_pre hl h.hx, has_pre hl h.hy, by rw [nd_pre hl h.hy]; exact h.nd⟩
theorem has_first {A : Ar} (hA : ArOk A) : has A.l 0 = true := by
  have := (List.getElem?_eq_some_iff.1 hA.wf.head).1
  exact has_iff.2 ⟨by omega, by omega⟩
/-- The keys that were told, of both sides; what one makes of them is what the other makes. -/
theorem told_sync {A : Ar} {p : Pat} {k0 k1 : Ks} {s : Sy} (hA : ArOk A) (hr : rightP p = true) (K : Keys2 A k0 k1) (hs : SyOk A s 0) (room : A.l.length + 12 ≤ A.limit) :
    ∃ A' y, toldK p 0 k0 (A, s, 0) = (A', y, 0) ∧ toldK p 1 k1 (A, s, 0) = (A', y, 0) ∧ Grow A A' 12 ∧ SyOk A' y 0 ∧ y.c.has = (s.c.has || (modeP p && (decide (1 ∈ p.pre0) || decide (1 ∈ p.pre1)))) ∧ ∀ B, ArOk B → A'.l <+: B.l → toldK p 0 k0 (B, s, 0) = (B, y, 0) ∧ toldK p 1 k1 (B, s, 0) = (B, y, 0) := by
  obtain ⟨-, r0, r1, -⟩ := rightP_facts hr
  obtain ⟨m0, n0⟩ := told12 r0
  obtain ⟨m1, n1⟩ := told12 r1
  obtain ⟨A1, y1, a1, a2, a3, a4⟩ := told_all (md := modeP p) (who := 0) (q := fun t => if t = 1 then k1.re else k1.rs) p.pre0 hA hs (Int.le_refl 0) (fun t _ => by split; exact K.re1.hy; exact K.rs1.hy) (by omega)
  obtain ⟨A2, y2, b1, b2, b3, b4⟩ := told_all (md := modeP p) (who := 1) (q := fun t => if t = 1 then k0.re else k0.rs) p.pre1 a1.ok a2 (Int.le_refl 0) (fun t _ => by split; exact a1.has K.re0.hy; exact a1.has K.rs0.hy) (by have := a1.len; rw [a1.limit]; omega)
  have own0 : ∀ t ∈ p.pre0, ∀ B, ArOk B → A.l <+: B.l → publicC B 0 (sel (needK p 0).s k0.s) (sel (needK p 0).e k0.e) (sel (needK p 0).rs k0.rs) (sel (needK p 0).re k0.re) 0 t = (B, if t = 1 then k1.re else k1.rs, 0) := fun t ht B hB hl => by
    rcases m0 t ht with rfl | rfl
    · have : (needK p 0).e = true := by simp [needK, preOf, ht]
      simp [publicC, this, sel, pub_there hB (K.re1.pre hl)]
    · have : (needK p 0).s = true := needS_pre (by simpa [preOf] using ht)
      simp [publicC, this, sel, pub_there hB (K.rs1.pre hl)]
  have oth0 : ∀ t ∈ p.pre1, ∀ B, ArOk B → A1.l <+: B.l → publicC B 0 (sel (needK p 0).s k0.s) (sel (needK p 0).e k0.e) (sel (needK p 0).rs k0.rs) (sel (needK p 0).re k0.re) 1 t = (B, if t = 1 then k0.re else k0.rs, 0) := fun t ht B hB hl => by
    rcases m1 t ht with rfl | rfl
    · have : (needK p 0).re = true := by simp [needK, preOf, ht]
      simp [publicC, this, sel]
    · have : (needK p 0).rs = true := by simp [needK, preOf, ht]
      simp [publicC, this, sel]
  have oth1 : ∀ t ∈ p.pre0, ∀ B, ArOk B → A.l <+: B.l → publicC B 1 (sel (needK p 1).s k1.s) (sel (needK p 1).e k1.e) (sel (needK p 1).rs k1.rs) (sel (needK p 1).re k1.re) 0 t = (B, if t = 1 then k1.re else k1.rs, 0) := fun t ht B hB hl => by
    rcases m0 t ht with rfl | rfl
    · have : (needK p 1).re = true := by simp [needK, preOf, ht]
      simp [publicC, this, sel]
    · have : (needK p 1).rs = true := by simp [needK, preOf, ht]
      simp [publicC, this, sel]
  have own1 : ∀ t ∈ p.pre1, ∀ B, ArOk B → A1.l <+: B.l → publicC B 1 (sel (needK p 1).s k1.s) (sel (needK p 1).e k1.e) (sel (needK p 1).rs k1.rs) (sel (needK p 1).re k1.re) 1 t = (B, if t = 1 then k0.re else k0.rs, 0) := fun t ht B hB hl => by
    rcases m1 t ht with rfl | rfl
    · have : (needK p 1).e = true := by simp [needK, preOf, ht]
      simp [publicC, this, sel, pub_there hB (K.re0.pre (a1.pre.trans hl))]
    · have : (needK p 1).s = true := needS_pre (by simpa [preOf] using ht)
      simp [publicC, this, sel, pub_there hB (K.rs0.pre (a1.pre.trans hl))]
  obtain ⟨c1, c2⟩ := a4 0 _ _ _ _ own0
  obtain ⟨d1, d2⟩ := b4 0 _ _ _ _ oth0
  obtain ⟨e1, e2⟩ := a4 1 _ _ _ _ oth1
  obtain ⟨f1, f2⟩ := b4 1 _ _ _ _ own1
  refine ⟨A2, y2, ?_, ?_, (a1.trans b1).le (by omega), b2, ?_, fun B hB hl => ⟨?_, ?_⟩⟩
  · unfold toldK; simp only [c1, ne_eq, not_true_eq_false, if_false, d1]
  · unfold toldK; simp only [e1, ne_eq, not_true_eq_false, if_false, f1]
  · rw [b3, a3]
    cases s.c.has <;> cases modeP p <;> simp
  · have hl1 := b1.pre.trans hl
    unfold toldK; simp only [c2 B hB hl1, ne_eq, not_true_eq_false, if_false, d2 B hB hl]
  · have hl1 := b1.pre.trans hl
    unfold toldK; simp only [e2 B hB hl1, ne_eq, not_true_eq_false, if_false, f2 B hB hl]
end Go.Proofs.YtikimmgileffgaaGreatDoor
end
/- Two sides of a whole handshake: Start, and each round (layer 12). No program in sight. -/
section
namespace Go.Proofs.YtikimmgileffgaaGreatDoor
open Go.RowKit

/-- Why there is no handshake. -/
def whyC (p : Pat) (k : Ks) : Int := if (checkV p).2.2 ≠ 0 then (checkV p).2.2 else if (k.psks.length : Int) ≠ cntM p.msgs then 10 else 0
theorem Keys2.start0 {A : Ar} {p : Pat} {pro : Int} {k0 k1 : Ks} (K : Keys2 A k0 k1) (hpro : has A.l pro = true) : startC A p 0 pro k0 = if (checkV p).2.2 ≠ 0 then (A, Sy.zero, (checkV p).2.2) else if (k0.psks.length : Int) ≠ cntM p.msgs then (A, Sy.zero, 10) else toldK p 0 k0 (beginS A p.name pro) :=
  startC_eq (.inl rfl) hpro K.rs1.hx K.re1.hx K.rs0.hy K.re0.hy K.p0 K.pos.1 K.pos.2.1 K.pos.2.2.1 K.pos.2.2.2.1
theorem Keys2.start1 {A : Ar} {p : Pat} {pro : Int} {k0 k1 : Ks} (K : Keys2 A k0 k1) (hpro : has A.l pro = true) : startC A p 1 pro k1 = if (checkV p).2.2 ≠ 0 then (A, Sy.zero, (checkV p).2.2) else if (k1.psks.length : Int) ≠ cntM p.msgs then (A, Sy.zero, 10) else toldK p 1 k1 (beginS A p.name pro) :=
  startC_eq (.inr rfl) hpro K.rs0.hx K.re0.hx K.rs1.hy K.re1.hy K.p1 K.pos.2.2.2.2.1 K.pos.2.2.2.2.2.1 K.pos.2.2.2.2.2.2.1 K.pos.2.2.2.2.2.2.2
theorem Keys2.no {A : Ar} {p : Pat} {pro : Int} {k0 k1 : Ks} (K : Keys2 A k0 k1) (hpro : has A.l pro = true) (h : whyC p k0 ≠ 0) : startC A p 0 pro k0 = (A, Sy.zero, whyC p k0) ∧ startC A p 1 pro k1 = (A, Sy.zero, whyC p k0) := by
  rw [K.start0 hpro, K.start1 hpro, ← K.len]
  unfold whyC at h ⊢
  by_cases h1 : (checkV p).2.2 = 0
  · by_cases h2 : (k0.psks.length : Int) = cntM p.msgs
    · simp [h1, h2] at h
    · simp [h1, h2]
  · simp [h1]
theorem forbV_nn (f : Nat → Bool) (w : Nat) : 0 ≤ forbV f w := by unfold forbV; split <;> (try split) <;> decide
theorem tokV_nn (f : Nat → Bool) (w t : Nat) : 0 ≤ (tokV f w t).1 := by
  have := forbV_nn f w
  unfold tokV; split <;> (try split) <;> (try split) <;> simp <;> omega
theorem msgV_nn (w : Nat) : ∀ (l : List Int) (f : Nat → Bool), 0 ≤ (msgV w l f).1
  | [], f => by
    have := forbV_nn f w
    simp only [msgV]; split <;> omega
  | t :: l, f => by
    simp only [msgV]; split
    · exact tokV_nn _ _ _
    · exact msgV_nn w l _
theorem roundsV_nn : ∀ (l : List Msg) (k : Nat) (last : Int) (f : Nat → Bool), 0 ≤ (roundsV k last l f).1
  | [], k, last, f => by simp [roundsV]
  | m :: l, k, last, f => by
    simp only [roundsV]; split
    · simp
    · split
      · exact msgV_nn _ _ _
      · exact roundsV_nn l _ _ _
theorem endV_nn (p : Pat) (f : Nat → Bool) : 0 ≤ endV p f := by
  have := forbV_nn f 0
  have := forbV_nn f 1
  unfold endV; split <;> (try split) <;> (try split) <;> omega
theorem checkV_right {p : Pat} (h : (checkV p).2.2 = 0) : rightP p = true ∧ ∃ j f, roundsV 0 0 p.msgs (beginV p) = (0, j, f) ∧ endV p f = 0 := by
  unfold checkV at h
  split at h
  · simp at h
  · rename_i hr
    refine ⟨by simpa using hr, ?_⟩
    dsimp only at h
    split at h
    · simp at h
    · rename_i h0
      split at h
      · simp at h
      · rename_i h1
        have e0 : 0 ≤ (roundsV 0 0 p.msgs (beginV p)).1 := roundsV_nn _ _ _ _
        have e1 : 0 ≤ endV p (roundsV 0 0 p.msgs (beginV p)).2.2 := endV_nn _ _
        exact ⟨_, _, Prod.ext (by show (roundsV 0 0 p.msgs (beginV p)).1 = 0; omega) rfl, Int.le_antisymm (Int.not_lt.1 h1) e1⟩
/-- Both sides begin alike. -/
theorem start_sync {A : Ar} {p : Pat} {pro : Int} {k0 k1 : Ks} (hA : ArOk A) (K : Keys2 A k0 k1) (hpro : has A.l pro = true) (h : whyC p k0 = 0) (room : A.l.length + 53 ≤ A.limit) :
    rightP p = true ∧ (k0.psks.length : Int) = cntM p.msgs ∧ (∃ j f, roundsV 0 0 p.msgs (beginV p) = (0, j, f) ∧ endV p f = 0) ∧ ∃ A' y, startC A p 0 pro k0 = (A', y, 0) ∧ startC A' p 1 pro k1 = (A', y, 0) ∧ Grow A A' 53 ∧ Pair A' (beginV p) 0 1 (sel (needK p 0).s k0.s) (sel (needK p 1).s k1.s) (hs0 p 0 k0 y) (hs0 p 1 k1 y) 0 := by
  have hc : (checkV p).2.2 = 0 := by unfold whyC at h; split at h; exact h; rename_i h1; simpa using h1
  have hn : (k0.psks.length : Int) = cntM p.msgs := by
    unfold whyC at h; rw [if_neg (by simp [hc])] at h
    split at h
    · cases h
    · rename_i h1; simpa using h1
  obtain ⟨hr, hrd⟩ := checkV_right hc
  obtain ⟨hnm, -⟩ := rightP_facts hr
  obtain ⟨A1, s, a1, a2, a3, a4, a5⟩ := begin_all (name := p.name) hA (by omega) hpro (has_first hA) (by omega)
  obtain ⟨A2, y, b1, b2, b3, b4, b5, b6⟩ := told_sync a2.ok hr (K.grow a2) a3 (by have := a2.len; rw [a2.limit]; omega)
  have gr := (a2.trans b3).le (d := 53) (by omega)
  have K2 := K.grow gr
  refine ⟨hr, hn, hrd, A2, y, ?_, ?_, gr, ⟨rfl, rfl, rfl, b4, ?_, fun hi => ?_, fun hi => ?_, fun hi => ?_, fun hi => ?_⟩⟩
  · rw [K.start0 hpro, if_neg (by simp [hc]), if_neg (by simp [hn]), a1]; exact b1
  · rw [K2.start1 (gr.has hpro), if_neg (by simp [hc]), if_neg (by rw [← K.len]; simp [hn]), a5 A2 b3.ok b3.pre]; exact (b6 A2 b3.ok List.prefix_rfl).2
  · show y.c.has = _
    rw [b5, a4]; simp [beginV]
  · have hi : (1 : Int) ∈ p.pre0 := by simpa [beginV] using hi
    have e1 : (needK p 0).e = true := by simp [needK, preOf, hi]
    have e2 : (needK p 1).re = true := by simp [needK, preOf, hi]
    show PubOf A2 (sel _ _) (sel _ _)
    rw [e1, e2]; exact K2.re1
  · have hi : (2 : Int) ∈ p.pre0 := by simpa [beginV] using hi
    have e1 : (needK p 0).s = true := needS_pre (by simpa [preOf] using hi)
    have e2 : (needK p 1).rs = true := by simp [needK, preOf, hi]
    show PubOf A2 (sel _ _) (sel _ _)
    rw [e1, e2]; exact K2.rs1
  · have hi : (1 : Int) ∈ p.pre1 := by simpa [beginV] using hi
    have e1 : (needK p 1).e = true := by simp [needK, preOf, hi]
    have e2 : (needK p 0).re = true := by simp [needK, preOf, hi]
    show PubOf A2 (sel _ _) (sel _ _)
    rw [e1, e2]; exact K2.re0
  · have hi : (2 : Int) ∈ p.pre1 := by simpa [beginV] using hi
    have e1 : (needK p 1).s = true := needS_pre (by simpa [preOf] using hi)
    have e2 : (needK p 0).rs = true := by simp [needK, preOf, hi]
    show PubOf A2 (sel _ _) (sel _ _)
    rw [e1, e2]; exact K2.rs0
end Go.Proofs.YtikimmgileffgaaGreatDoor
end
/- Two sides of a whole handshake, round by round, to the end (layer 12). No program in sight. -/
section
namespace Go.Proofs.YtikimmgileffgaaGreatDoor
open Go.RowKit

/-- Ahead of the n-th message. -/
def Inv (p : Pat) (S0 S1 : Int) (psks : List Int) (n : Nat) (A : Ar) (h0 h1 : Hs) : Prop :=
  ∃ f last j fe, ArOk A ∧ Pair A f 0 1 S0 S1 h0 h1 (13 * n) ∧ h0.at_ = n ∧ 0 ≤ h0.nx ∧ h0.nx + cntM (p.msgs.drop n) ≤ psks.length ∧ (∀ x ∈ psks, has A.l x = true) ∧ has A.l S0 = true ∧ has A.l S1 = true ∧ f 14 = modeP p ∧ roundsV n last (p.msgs.drop n) f = (0, j, fe) ∧ endV p fe = 0 ∧ A.l.length + (50 * (p.msgs.drop n).length + 10) ≤ A.limit
theorem wrongM_facts {m : Msg} (h : wrongM m = false) : (m.frm = 0 ∨ m.frm = 1) ∧ m.t.length ≤ 12 ∧ ∀ t ∈ m.t, 1 ≤ t ∧ t ≤ 7 := by
  simp only [wrongM, Bool.or_eq_false_iff, decide_eq_false_iff_not, List.any_eq_false, noneT, Bool.or_eq_true, decide_eq_true_eq] at h
  obtain ⟨⟨⟨⟨h1, h2⟩, h3⟩, h4⟩, h5⟩ := h
  exact ⟨by omega, by omega, fun t ht => by have := h5 t ht; omega⟩
theorem rounds_step {n : Nat} {last j : Int} {m : Msg} {l : List Msg} {f fe : Nat → Bool} (h : roundsV n last (m :: l) f = (0, j, fe)) : ∃ f', msgV m.frm.toNat m.t f = (0, f') ∧ roundsV (n + 1) m.frm l f' = (0, j, fe) := by
  simp only [roundsV] at h
  split at h
  · simp at h
  · have h0 := msgV_nn m.frm.toNat m.t f
    split at h
    · rename_i h1; simp only [Prod.mk.injEq] at h; omega
    · exact ⟨_, Prod.ext (by show (msgV m.frm.toNat m.t f).1 = 0; omega) rfl, h⟩
theorem sends_at {p : Pat} {n : Nat} {m : Msg} (hm : p.msgs[n]? = some m) (role : Int) : sendsP p role n = (m.frm == role) := by
  have := idx_lt hm
  unfold sendsP
  rw [Int.toNat_natCast, getD_at hm, decide_eq_true (by omega)]; simp
theorem toks_at {p : Pat} {n : Nat} {m : Msg} (hm : p.msgs[n]? = some m) : toks p n = m.t := by unfold toks; rw [Int.toNat_natCast, getD_at hm]
theorem Inv.step {p : Pat} {S0 S1 e payload : Int} {psks : List Int} {n : Nat} {A : Ar} {h0 h1 : Hs} {m : Msg} (I : Inv p S0 S1 psks n A h0 h1) (hr : rightP p = true) (hm : p.msgs[n]? = some m) (he0 : e ≠ 0) (he : has A.l e = true) (hp : has A.l payload = true) :
    (m.frm = 0 → ∃ A' g0 g1 msg, writeC A 0 S0 psks p h0 e payload = (A', g0, msg, 0) ∧ readC A' 1 S1 psks p h1 msg = (A', g1, payload, 0) ∧ Grow A A' 50 ∧ Inv p S0 S1 psks (n + 1) A' g0 g1) ∧
    (m.frm = 1 → ∃ A' g0 g1 msg, writeC A 1 S1 psks p h1 e payload = (A', g1, msg, 0) ∧ readC A' 0 S0 psks p h0 msg = (A', g0, payload, 0) ∧ Grow A A' 50 ∧ Inv p S0 S1 psks (n + 1) A' g0 g1) := by
  obtain ⟨f, last, j, fe, hA, P, i1, i2, i3, i4, i5, i6, i7, i8, i9, i10⟩ := I
  obtain ⟨-, -, -, -, hlen, hw⟩ := rightP_facts hr
  obtain ⟨m1, m2, m3⟩ := wrongM_facts (hw m (List.mem_of_getElem? hm))
  have hn := idx_lt hm
  have hd : p.msgs.drop n = m :: p.msgs.drop (n + 1) := drop_at hm
  rw [hd] at i3 i8 i10
  simp only [cntM, List.length_cons] at i3 i10
  obtain ⟨f', v1, v2⟩ := rounds_step i8
  have ht := toks_at hm
  have hc := cntM_pos (p.msgs.drop (n + 1))
  refine ⟨fun h => ?_, fun h => ?_⟩
  · rw [h] at v1 v2
    obtain ⟨A', g0, g1, msg, a1, a2, a3, a4, a5, a6, a7⟩ := msg_sync (w := 0) (r := 1) (Sw := S0) (Sr := S1) (psks := psks) (p := p) (f' := f') (.inl ⟨rfl, rfl⟩) hA P (by omega) (by rw [i1, ht]; omega) (by rw [i1, sends_at hm, h]; rfl) (by rw [i1, sends_at hm, h]; rfl) (by rw [i1, ht]; exact m3) (by rw [i1, ht]; exact v1) i7 i2 (by rw [i1, ht]; omega) i4 he0 he hp i5 (by rw [i1, ht]; omega)
    rw [i1, ht] at a2 a3 a6
    have gr := a2.le (d := 50) (by omega)
    refine ⟨A', g0, g1, msg, a1, a7 A' a2.ok List.prefix_rfl, gr, f', 0, j, fe, a2.ok, ⟨a3.at_, a3.nx, a3.y, a3.ok.le (by omega), a3.key, a3.wE, a3.wS, a3.rE, a3.rS⟩, by rw [a5, i1]; omega, by have := cnt7_pos m.t; omega, by omega, fun x hx => gr.has (i4 x hx), gr.has i5, gr.has i6, a4, v2, i9, by have := gr.len; rw [gr.limit]; omega⟩
  · rw [h] at v1 v2
    have Q := P.sym
    have q1 : h1.at_ = n := by rw [P.at_, i1]
    have q2 : h1.nx = h0.nx := P.nx
    obtain ⟨A', g1, g0, msg, a1, a2, a3, a4, a5, a6, a7⟩ := msg_sync (w := 1) (r := 0) (Sw := S1) (Sr := S0) (psks := psks) (p := p) (f' := f') (.inr ⟨rfl, rfl⟩) hA Q (by omega) (by rw [q1, ht]; omega) (by rw [q1, sends_at hm, h]; rfl) (by rw [q1, sends_at hm, h]; rfl) (by rw [q1, ht]; exact m3) (by rw [q1, ht]; exact v1) i7 (by omega) (by rw [q1, ht]; omega) i4 he0 he hp i6 (by rw [q1, ht]; omega)
    rw [q1, ht] at a2 a3 a6
    have gr := a2.le (d := 50) (by omega)
    have b3 := a3.sym
    refine ⟨A', g0, g1, msg, a1, a7 A' a2.ok List.prefix_rfl, gr, f', 1, j, fe, a2.ok, ⟨b3.at_, b3.nx, b3.y, b3.ok.le (by omega), b3.key, b3.wE, b3.wS, b3.rE, b3.rS⟩, by rw [a3.at_, a5, q1]; omega, by have := cnt7_pos m.t; have := a3.nx; omega, by have := a3.nx; omega, fun x hx => gr.has (i4 x hx), gr.has i5, gr.has i6, a4, v2, i9, by have := gr.len; rw [gr.limit]; omega⟩
/-- What stands fast ahead of each message. -/
theorem Inv.facts {p : Pat} {S0 S1 : Int} {psks : List Int} {n : Nat} {A : Ar} {h0 h1 : Hs} (I : Inv p S0 S1 psks n A h0 h1) (hn : n ≤ 6) : ArOk A ∧ h0.at_ = n ∧ h1.at_ = n ∧ h1.y = h0.y ∧ h1.nx = h0.nx ∧ 0 ≤ h0.nx ∧ h0.nx + cntM (p.msgs.drop n) ≤ psks.length ∧ U64 h0.y.c.n := by
  obtain ⟨f, last, j, fe, hA, P, i1, i2, i3, -⟩ := I
  have := P.ok.n0
  have := P.ok.n1
  exact ⟨hA, i1, by rw [P.at_, i1], P.y, P.nx, i2, i3, by omega, by omega⟩
/-- At the end: both have a key; the one's cipher to send is the other one's to receive. -/
theorem Inv.done {p : Pat} {S0 S1 : Int} {psks : List Int} {n : Nat} {A : Ar} {h0 h1 : Hs} (I : Inv p S0 S1 psks n A h0 h1) (hn : p.msgs.length = n) :
    ∃ A' c1 c2, ciphersC A 0 h0.at_ p h0.y = (A', c1, c2, 0) ∧ ciphersC A' 1 h1.at_ p h1.y = (A', c2, c1, 0) ∧ Grow A A' 2 ∧ c1 ≠ c2 ∧ c1.has = true ∧ h0.y.c.has = true := by
  obtain ⟨f, last, j, fe, hA, P, i1, i2, i3, i4, i5, i6, i7, i8, i9, i10⟩ := I
  have hd : p.msgs.drop n = [] := by rw [← hn, List.drop_length]
  rw [hd] at i8 i10
  simp only [roundsV, Prod.mk.injEq] at i8
  obtain ⟨-, -, rfl⟩ := i8
  have h15 : f 15 = true := by
    unfold endV at i9
    split at i9
    · cases i9
    · rename_i h; simpa using h
  obtain ⟨A1, c, a1, a2, a3, a4, a5⟩ := kdf_all (n := 1) (by decide) hA P.ok.ck (has_first hA) (by omega)
  obtain ⟨A2, k, b1, b2, b3, b4, b5⟩ := kdf_all (n := 2) (by decide) a2.ok (a2.has P.ok.ck) (a2.has (has_first hA)) (a2.room (d := 1) (by omega))
  have hs : ∀ at_ : Int, at_ = n → ∀ role, ciphersC A role at_ p h0.y = if role = 1 then (A2, ⟨k, true, 0⟩, ⟨c, true, 0⟩, 0) else (A2, ⟨c, true, 0⟩, ⟨k, true, 0⟩, 0) := fun at_ ha role => by
    unfold ciphersC; rw [if_neg (by omega)]; simp [splitY, keys2, a1, b1]
  have hs2 : ∀ at_ : Int, at_ = n → ∀ role, ciphersC A2 role at_ p h0.y = if role = 1 then (A2, ⟨k, true, 0⟩, ⟨c, true, 0⟩, 0) else (A2, ⟨c, true, 0⟩, ⟨k, true, 0⟩, 0) := fun at_ ha role => by
    unfold ciphersC; rw [if_neg (by omega)]; simp [splitY, keys2, a5 A2 b2.ok b2.pre, b5 A2 b2.ok List.prefix_rfl]
  refine ⟨A2, ⟨c, true, 0⟩, ⟨k, true, 0⟩, by rw [hs _ i1]; rfl, by rw [P.y, hs2 _ (by rw [P.at_, i1])]; rfl, a2.trans b2, fun e => ?_, rfl, by rw [P.key, h15]⟩
  have e : c = k := congrArg Ci.key e
  rw [e] at a3 a4
  have := (nd_pre b2.pre a3).trans a4
  rw [b4] at this
  cases this
/-- Both are begun. -/
theorem Inv.start {A A' : Ar} {p : Pat} {k0 k1 : Ks} {y : Sy} {j : Int} {fe : Nat → Bool} (hr : rightP p = true) (K : Keys2 A k0 k1) (hn : (k0.psks.length : Int) = cntM p.msgs) (hv : roundsV 0 0 p.msgs (beginV p) = (0, j, fe)) (he : endV p fe = 0) (gr : Grow A A' 53) (P : Pair A' (beginV p) 0 1 (sel (needK p 0).s k0.s) (sel (needK p 1).s k1.s) (hs0 p 0 k0 y) (hs0 p 1 k1 y) 0) (room : A.l.length + 400 ≤ A.limit) :
    Inv p (sel (needK p 0).s k0.s) (sel (needK p 1).s k1.s) k0.psks 0 A' (hs0 p 0 k0 y) (hs0 p 1 k1 y) := by
  obtain ⟨-, -, -, -, hlen, hw⟩ := rightP_facts hr
  have hsel : ∀ b x, has A.l x = true → has A'.l (sel b x) = true := fun b x hx => by
    unfold sel; split
    · exact gr.has hx
    · exact has_first gr.ok
  refine ⟨beginV p, 0, j, fe, gr.ok, P, rfl, Int.le_refl _, ?_, fun x hx => gr.has (K.p0 x hx), hsel _ _ K.rs1.hx, hsel _ _ K.rs0.hx, ?_, hv, he, ?_⟩
  · rw [List.drop_zero, hn]; show (0 : Int) + _ ≤ _; omega
  · simp [beginV]
  · rw [List.drop_zero, gr.limit]; have := gr.len; omega
end Go.Proofs.YtikimmgileffgaaGreatDoor
end
