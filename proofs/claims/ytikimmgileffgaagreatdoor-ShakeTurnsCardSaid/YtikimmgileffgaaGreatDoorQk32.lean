/- Packed by packn.py: Sync8, Sync9. -/
import Derived.Test.YtikimmgileffgaaGreatDoorQk31
import Derived.Test.YtikimmgileffgaaGreatDoorQk26
/- What law 12 makes ahead of its handshakes: two sides that know one another (plain). -/
section
namespace Go.Proofs.YtikimmgileffgaaGreatDoor
open Go.RowKit

theorem name_right (l : List Nd) (n : Int) : right l ⟨1, n, 0, 0, 0⟩ = true := by simp [right, numberedP, partsOk, many, Nd.part]
theorem name_all1 {A : Ar} {n : Int} (hA : ArOk A) (h0 : 0 ≤ n) (h1 : n ≤ 100000) (room : A.l.length + 1 ≤ A.limit) :
    ∃ A' y, mk A ⟨1, n, 0, 0, 0⟩ = (A', y, 0) ∧ Grow A A' 1 ∧ has A'.l y = true ∧ nd A'.l y = ⟨1, n, 0, 0, 0⟩ ∧ ∀ B, ArOk B → A'.l <+: B.l → mk B ⟨1, n, 0, 0, 0⟩ = (B, y, 0) :=
  mk_all hA h0 (show n ≤ _ by omega) (name_right _ _) room
theorem secL_ok (b : Int) (hb : 0 ≤ b ∧ b ≤ 1000) : ∀ (ns : List Nat) {A : Ar} (l : List Int), ArOk A → (∀ n ∈ ns, n < 1000) → ArOk (secL b ns A l).1
  | [], A, l, hA, _ => hA
  | n :: ns, A, l, hA, hn => by
    have := hn n (List.mem_cons_self ..)
    have ok := (arOk_mk hA (x := ⟨1, b + n, 0, 0, 0⟩) (by show 0 ≤ b + (n : Int); omega) (by show b + (n : Int) ≤ _; omega)).1
    simp only [secL]; split
    · exact ok
    · exact secL_ok b hb ns _ ok (fun x hx => hn x (List.mem_cons_of_mem _ hx))
theorem arS1_ok : ArOk arS1 := secL_ok 200 (by decide) _ [] (secL_ok 100 (by decide) _ [] (arOk_new 2000) (by decide)) (by decide)
theorem arS1_len : arS1.l.length = 29 ∧ arS1.limit = 2000 := by constructor <;> kernel_rfl
theorem psk_all : ∀ (us : List Int) {A : Ar} (l : List Int), ArOk A → (∀ u ∈ us, 0 ≤ u) → A.l.length + us.length ≤ A.limit →
    ∃ A' ys, pskL us A l = (A', l ++ ys) ∧ Grow A A' us.length ∧ ys.length = us.length ∧ (∀ y ∈ ys, has A'.l y = true ∧ ∃ u, 1000 ≤ u ∧ nd A'.l y = ⟨1, u, 0, 0, 0⟩) ∧ ∀ B, ArOk B → A'.l <+: B.l → ∀ l, pskL us B l = (B, l ++ ys)
  | [], A, l, hA, _, _ => ⟨A, [], by simp [pskL], Grow.refl hA, rfl, by simp, fun B _ _ l => by simp [pskL]⟩
  | u :: us, A, l, hA, hu, room => by
    simp only [List.length_cons] at room ⊢
    have hm := tmod_le (hu u (List.mem_cons_self ..))
    obtain ⟨A1, y, a1, a2, a3, a4, a5⟩ := name_all1 (n := 1000 + u.tmod 1000) hA (by omega) (by omega) (by omega)
    obtain ⟨A2, ys, b1, b2, b3, b4, b5⟩ := psk_all us (l ++ [y]) a2.ok (fun x hx => hu x (List.mem_cons_of_mem _ hx)) (a2.room (d := us.length) (by omega))
    refine ⟨A2, y :: ys, by simp [pskL, a1, b1], (a2.trans b2).le (by omega), by simp [b3], fun z hz => ?_, fun B hB hl l => by simp [pskL, a5 B hB (b2.pre.trans hl), b5 B hB hl]⟩
    rcases List.mem_cons.1 hz with rfl | hz
    · exact ⟨b2.has a3, 1000 + u.tmod 1000, by omega, by rw [nd_pre b2.pre a3]; exact a4⟩
    · exact b4 z hz
def Two.ks0 (t : Two) : Ks := ⟨1, 2, t.rs0, t.re0, t.k0⟩
def Two.ks1 (t : Two) : Ks := ⟨15, 16, t.rs1, t.re1, t.k1⟩
theorem two_all {us : List Int} (hu : ∀ u ∈ us, 0 ≤ u) (hl : us.length ≤ 10) :
    Grow arS1 (twoC us).A 24 ∧ Keys2 (twoC us).A (twoC us).ks0 (twoC us).ks1 ∧ (twoC us).k1 = (twoC us).k0 ∧ (twoC us).k0.length = us.length ∧ ∀ y ∈ (twoC us).k0, has (twoC us).A.l y = true ∧ ∃ u, 1000 ≤ u ∧ nd (twoC us).A.l y = ⟨1, u, 0, 0, 0⟩ := by
  have hl0 := arS1_len.1
  have hm0 := arS1_len.2
  have h15 : has arS1.l 15 = true := has_iff.2 (by rw [hl0]; decide)
  have h16 : has arS1.l 16 = true := has_iff.2 (by rw [hl0]; decide)
  have h1 : has arS1.l 1 = true := has_iff.2 (by rw [hl0]; decide)
  have h2 : has arS1.l 2 = true := has_iff.2 (by rw [hl0]; decide)
  obtain ⟨A1, r0, a1, a2, a3, a4, -⟩ := pub_all arS1_ok h15 (by omega)
  obtain ⟨A2, e0, b1, b2, b3, b4, -⟩ := pub_all a2.ok (a2.has h16) (a2.room (d := 1) (by omega))
  have g2 := a2.trans b2
  obtain ⟨A3, ys, c1, c2, c3, c4, c5⟩ := psk_all us [] g2.ok hu (g2.room (d := us.length) (by omega))
  have g3 := g2.trans c2
  obtain ⟨A4, r1, d1, d2, d3, d4, -⟩ := pub_all g3.ok (g3.has h1) (g3.room (d := 1) (by omega))
  have g4 := g3.trans d2
  obtain ⟨A5, e1, f1, f2, f3, f4, -⟩ := pub_all g4.ok (g4.has h2) (g4.room (d := 1) (by omega))
  have g5 := g4.trans f2
  have hk := c5 A5 f2.ok (d2.pre.trans f2.pre) []
  simp only [List.nil_append] at c1 hk
  have ht : twoC us = ⟨A5, r0, e0, ys, r1, e1, ys⟩ := by unfold twoC; simp only [a1, b1, c1, d1, f1, hk]
  have c4' : ∀ y ∈ ys, has A5.l y = true ∧ ∃ u, 1000 ≤ u ∧ nd A5.l y = ⟨1, u, 0, 0, 0⟩ := fun y hy => by
    obtain ⟨q1, u, q2, q3⟩ := c4 y hy
    exact ⟨f2.has (d2.has q1), u, q2, by rw [nd_pre (d2.pre.trans f2.pre) q1]; exact q3⟩
  rw [ht]
  have k2 : PubOf A1 r0 15 := ⟨a2.has h15, a3, a4⟩
  have k3 : PubOf A2 e0 16 := ⟨g2.has h16, b3, b4⟩
  have k4 : PubOf A4 r1 1 := ⟨g4.has h1, d3, d4⟩
  have k5 : PubOf A5 e1 2 := ⟨g5.has h2, f3, f4⟩
  have pos : ∀ {A : Ar} {y x : Int}, ArOk A → PubOf A y x → 0 < y := fun {A y x} hA h => by
    have h0 := (has_iff.1 h.hy).1
    rcases Int.lt_or_eq_of_le h0 with h1 | h1
    · exact h1
    · have h2 := h.nd
      have h3 := getElem?_of_has h.hy
      rw [← h1] at h2 h3
      rw [show (0 : Int).toNat = 0 from rfl, hA.wf.head, h2] at h3
      simp [Nd.zero] at h3
  refine ⟨g5.le (by omega), ⟨k2.pre (b2.pre.trans (c2.pre.trans (d2.pre.trans f2.pre))), k3.pre (c2.pre.trans (d2.pre.trans f2.pre)), k4.pre f2.pre, k5, ⟨show (0 : Int) < 1 by decide, show (0 : Int) < 2 by decide, pos a2.ok k2, pos b2.ok k3, show (0 : Int) < 15 by decide, show (0 : Int) < 16 by decide, pos d2.ok k4, pos f2.ok k5⟩, rfl, fun x hx => (c4' x hx).1, fun x hx => (c4' x hx).1⟩, rfl, c3, c4'⟩
end Go.Proofs.YtikimmgileffgaaGreatDoor
end
/- Two sides of a handshake that have other hashes: as long as there is no key all is read, with one nothing is opened (layer 12). No program in sight. -/
section
namespace Go.Proofs.YtikimmgileffgaaGreatDoor
open Go.RowKit

/-- As Pair, but the hashes are other ones. -/
structure Apart (A : Ar) (f : Nat → Bool) (w r : Nat) (Sw Sr : Int) (h g : Hs) (k : Int) : Prop where
  at_ : g.at_ = h.at_
  nx : g.nx = h.nx
  ne : g.y.h ≠ h.y.h
  ok : SyOk A h.y k
  okg : SyOk A g.y k
  key : h.y.c.has = f 15
  keyg : g.y.c.has = f 15
  wE : f (3 * w + 1) = true → PubOf A g.RE h.E
  wS : f (3 * w + 2) = true → PubOf A g.RS Sw
  rE : f (3 * r + 1) = true → PubOf A h.RE g.E
  rS : f (3 * r + 2) = true → PubOf A h.RS Sr
theorem Apart.sym {A : Ar} {f : Nat → Bool} {w r : Nat} {Sw Sr : Int} {h g : Hs} {k : Int} (P : Apart A f w r Sw Sr h g k) : Apart A f r w Sr Sw g h k :=
  ⟨P.at_.symm, P.nx.symm, P.ne.symm, P.okg, P.ok, P.keyg, P.key, P.rE, P.rS, P.wE, P.wS⟩
theorem Apart.grow {A B : Ar} {c : Nat} {f : Nat → Bool} {w r : Nat} {Sw Sr : Int} {h g : Hs} {k : Int} (P : Apart A f w r Sw Sr h g k) (gr : Grow A B c) : Apart B f w r Sw Sr h g k :=
  ⟨P.at_, P.nx, P.ne, P.ok.grow gr, P.okg.grow gr, P.key, P.keyg, fun e => (P.wE e).grow gr, fun e => (P.wS e).grow gr, fun e => (P.rE e).grow gr, fun e => (P.rS e).grow gr⟩
/-- What is mixed so often into a hash. -/
def Hashed (A : Ar) (a : Int) : Nat → Int → Prop
  | 0, p => p = a
  | n + 1, p => ∃ b x, Hashed A a n b ∧ has A.l b = true ∧ has A.l p = true ∧ nd A.l p = ⟨5, 0, b, x, 0⟩
theorem Hashed.grow {A B : Ar} {c : Nat} {a : Int} (g : Grow A B c) : ∀ {n : Nat} {p : Int}, Hashed A a n p → Hashed B a n p
  | 0, _, h => h
  | _ + 1, _, ⟨b, x, h1, h2, h3, h4⟩ => ⟨b, x, Hashed.grow g h1, g.has h2, g.has h3, by rw [nd_pre g.pre h3]; exact h4⟩
theorem Hashed.ne {A : Ar} {a b : Int} (hab : b ≠ a) : ∀ {n : Nat} {p q : Int}, Hashed A a n p → Hashed A b n q → q ≠ p
  | 0, _, _, h1, h2 => by rw [show _ = a from h1, show _ = b from h2]; exact hab
  | _ + 1, p, q, ⟨c, x, h1, _, _, h4⟩, ⟨d, y, k1, _, _, k4⟩ => fun e => by
    subst e
    rw [h4] at k4
    injection k4 with _ _ h5
    exact Hashed.ne hab h1 k1 h5.symm
/-- What one side needs of its state, to go on; v tells of both, r is the other one. -/
structure Wr (A : Ar) (f : Nat → Bool) (w r : Nat) (h : Hs) (k : Int) : Prop where
  ok : SyOk A h.y k
  key : h.y.c.has = f 15
  wE : f (3 * w + 1) = true → has A.l h.E = true
  rE : f (3 * r + 1) = true → ∃ x, PubOf A h.RE x
  rS : f (3 * r + 2) = true → ∃ x, PubOf A h.RS x
theorem Wr.grow {A B : Ar} {c : Nat} {f : Nat → Bool} {w r : Nat} {h : Hs} {k : Int} (W : Wr A f w r h k) (g : Grow A B c) : Wr B f w r h k :=
  ⟨W.ok.grow g, W.key, fun e => g.has (W.wE e), fun e => (W.rE e).imp fun _ h => h.grow g, fun e => (W.rS e).imp fun _ h => h.grow g⟩
theorem Wr.le {A : Ar} {f : Nat → Bool} {w r : Nat} {h : Hs} {k m : Int} (W : Wr A f w r h k) (hm : k ≤ m) : Wr A f w r h m := ⟨W.ok.le hm, W.key, W.wE, W.rE, W.rS⟩
theorem Apart.wr {A : Ar} {f : Nat → Bool} {w r : Nat} {Sw Sr : Int} {h g : Hs} {k : Int} (P : Apart A f w r Sw Sr h g k) : Wr A f w r h k := ⟨P.ok, P.key, fun e => (P.wE e).hx, fun e => ⟨_, P.rE e⟩, fun e => ⟨_, P.rS e⟩⟩
theorem Pair.wr {A : Ar} {f : Nat → Bool} {w r : Nat} {Sw Sr : Int} {h g : Hs} {k : Int} (P : Pair A f w r Sw Sr h g k) : Wr A f w r h k := ⟨P.ok, P.key, fun e => (P.wE e).hx, fun e => ⟨_, P.rE e⟩, fun e => ⟨_, P.rS e⟩⟩
theorem mixBoth_h {A : Ar} {s : Sy} {x : Int} (hA : ArOk A) (hc : has A.l s.ck = true) (hh : has A.l s.h = true) (hx : has A.l x = true) (room : A.l.length + 4 ≤ A.limit) :
    ∃ A' c h' k z, mixBothS A s x = (A', ⟨c, h', ⟨k, true, 0⟩⟩, 0) ∧ Grow A A' 4 ∧ has A'.l c = true ∧ has A'.l h' = true ∧ has A'.l k = true ∧ has A'.l z = true ∧ nd A'.l z = ⟨6, 2, s.ck, x, 0⟩ ∧ nd A'.l h' = ⟨5, 0, s.h, z, 0⟩ := by
  obtain ⟨A1, c, a1, a2, a3, a4, a5⟩ := kdf_all (n := 1) (by decide) hA hc hx (by omega)
  obtain ⟨A2, t, b1, b2, b3, b4, b5⟩ := kdf_all (n := 2) (by decide) a2.ok (a2.has hc) (a2.has hx) (by have := a2.room (d := 3) (by omega); omega)
  have g2 := a2.trans b2
  obtain ⟨A3, k, c1, c2, c3, c4, c5⟩ := kdf_all (n := 3) (by decide) g2.ok (g2.has hc) (g2.has hx) (by have := g2.room (d := 2) (by omega); omega)
  have g3 := g2.trans c2
  obtain ⟨A4, h', d1, d2, d3, d4, d5⟩ := mixHash_all (s := ⟨c, s.h, ⟨k, true, 0⟩⟩) (x := t) g3.ok (g3.has hh) (c2.has b3) (g3.room (d := 1) (by omega))
  exact ⟨A4, c, h', k, t, by simp [mixBothS, keys3, a1, b1, c1, d1], g3.trans d2, d2.has (c2.has (b2.has a3)), d3, d2.has c3, d2.has (c2.has b3), by rw [nd_pre (c2.pre.trans d2.pre) b3]; exact b4, d4⟩
/-- A token that is no key, of one side. -/
theorem mixW {A : Ar} {f f' : Nat → Bool} {w r v : Nat} {S t k : Int} {h : Hs} {psks : List Int} (hwr : (w = 0 ∧ r = 1) ∨ (w = 1 ∧ r = 0)) (hA : ArOk A) (W : Wr A f w r h k) (hk : 0 ≤ k) (ht : 3 ≤ t ∧ t ≤ 7) (htok : tokV f v t.toNat = (0, f')) (hS : has A.l S = true)
    (hpsk : t = 7 → has A.l (psks.getD h.nx.toNat 0) = true) (room : A.l.length + 4 ≤ A.limit) :
    ∃ A' y, mixC A w S psks h t = (A', { h with nx := h.nx + (if t = 7 then 1 else 0), y := y }, 0) ∧ Grow A A' 4 ∧ SyOk A' y 0 ∧ y.c.has = true ∧ Wr A' f' w r { h with nx := h.nx + (if t = 7 then 1 else 0), y := y } k ∧ f' 15 = true ∧ (∀ i, i < 6 → f' i = f i) ∧ (t ≠ 7 → y.h = h.y.h) ∧
      (t = 7 → ∃ z, has A'.l z = true ∧ nd A'.l z = ⟨6, 2, h.y.ck, psks.getD h.nx.toNat 0, 0⟩ ∧ nd A'.l y.h = ⟨5, 0, h.y.h, z, 0⟩) := by
  obtain ⟨hdh, rfl⟩ := tok_dh (by omega) htok
  have hlow : ∀ i, i < 6 → putV (putV f (6 + t.toNat) true) 15 true i = f i := fun i hi => by unfold putV; rw [if_neg (by omega), if_neg (by omega)]
  have h15 : putV (putV f (6 + t.toNat) true) 15 true 15 = true := by unfold putV; rw [if_pos rfl]
  have wr' : ∀ {A' : Ar} {c : Nat} {y' : Sy} {n : Int}, Grow A A' c → SyOk A' y' 0 → y'.c.has = true → Wr A' (putV (putV f (6 + t.toNat) true) 15 true) w r { h with nx := n, y := y' } k := fun {A' c y' n} gr hok hh =>
    ⟨hok.le hk, by rw [hh, h15], fun e => gr.has (W.wE (by rwa [hlow _ (by omega)] at e)), fun e => (W.rE (by rwa [hlow _ (by omega)] at e)).imp fun _ h => h.grow gr, fun e => (W.rS (by rwa [hlow _ (by omega)] at e)).imp fun _ h => h.grow gr⟩
  by_cases h7 : t = 7
  · obtain ⟨A', c, h', q, z, a1, a2, a3, a4, a5, a6, a7, a8⟩ := mixBoth_h hA W.ok.ck W.ok.h (hpsk h7) room
    have hok : SyOk A' ⟨c, h', ⟨q, true, 0⟩⟩ 0 := ⟨a3, a4, fun _ => a5, Int.le_refl _, Int.le_refl _⟩
    exact ⟨A', ⟨c, h', ⟨q, true, 0⟩⟩, by simp only [mixC, if_pos h7, a1]; rfl, a2, hok, rfl, wr' a2 hok rfl, h15, hlow, fun h => absurd h7 h, fun _ => ⟨z, a6, a7, a8⟩⟩
  · obtain ⟨f1, f2⟩ := hdh (by omega)
    obtain ⟨own, x, hx⟩ : has A.l (pOwn w S h.E t) = true ∧ ∃ x, PubOf A (pOther w h.RS h.RE t) x := by
      have ht4 : t = 3 ∨ t = 4 ∨ t = 5 ∨ t = 6 := by omega
      rcases hwr with ⟨rfl, rfl⟩ | ⟨rfl, rfl⟩ <;> rcases ht4 with rfl | rfl | rfl | rfl
      all_goals
        simp [pA, pB] at f1 f2
        refine ⟨?_, ?_⟩
        · simp only [pOwn]; first | exact hS | exact W.wE f1 | exact W.wE f2
        · simp only [pOther]; first | exact W.rE f1 | exact W.rE f2 | exact W.rS f1 | exact W.rS f2
    obtain ⟨A1, d, a1, a2, a3, -, -⟩ := share_all hA own hx.hy hx.nd hx.hx (by omega)
    obtain ⟨A', c, q, b1, b2, b3, b4, -, -, -⟩ := mixKey_all (s := h.y) (x := d) a2.ok (a2.has W.ok.ck) a3 (by have := a2.room (d := 3) (by omega); omega)
    have gr := (a2.trans b2).le (d := 4) (by omega)
    have hok : SyOk A' ⟨c, h.y.h, ⟨q, true, 0⟩⟩ 0 := ⟨b3, gr.has W.ok.h, fun _ => b4, Int.le_refl _, Int.le_refl _⟩
    exact ⟨A', ⟨c, h.y.h, ⟨q, true, 0⟩⟩, by simp only [mixC, if_neg h7, a1, b1]; simp, gr, hok, rfl, wr' gr hok rfl, h15, hlow, fun _ => rfl, fun h => absurd h h7⟩
/-- Both sides mix such a token; their hashes stay other ones. -/
theorem mix_ap {A : Ar} {f f' : Nat → Bool} {w r : Nat} {Sw Sr t k : Int} {h : Hs} {pw pr : List Int} (hwr : (w = 0 ∧ r = 1) ∨ (w = 1 ∧ r = 0)) (hA : ArOk A) (W : Wr A f w r h k) (hk : 0 ≤ k) (ht : 3 ≤ t ∧ t ≤ 7) (htok : tokV f w t.toNat = (0, f')) (hS : has A.l Sw = true)
    (hpsk : t = 7 → has A.l (pw.getD h.nx.toNat 0) = true) (room : A.l.length + 4 ≤ A.limit) :
    ∃ A' h', mixC A w Sw pw h t = (A', h', 0) ∧ Grow A A' 4 ∧ Wr A' f' w r h' k ∧ h'.nx = h.nx + (if t = 7 then 1 else 0) ∧ h'.at_ = h.at_ ∧
      ∀ B c g, Grow A' B c → Apart B f w r Sw Sr h g k → has B.l Sr = true → (t = 7 → has B.l (pr.getD g.nx.toNat 0) = true) → B.l.length + 4 ≤ B.limit → ∃ B' g', mixC B r Sr pr g t = (B', g', 0) ∧ Grow B B' 4 ∧ Apart B' f' w r Sw Sr h' g' k := by
  obtain ⟨A', y, a1, a2, a3, a4, a5, a6, a7, a8, a9⟩ := mixW hwr hA W hk ht htok hS hpsk room
  refine ⟨A', _, a1, a2, a5, rfl, rfl, fun B c g gB P hSr hpr roomB => ?_⟩
  obtain ⟨B', z, b1, b2, b3, b4, b5, b6, b7, b8, b9⟩ := mixW (w := r) (r := w) (v := w) (by omega) gB.ok P.sym.wr hk ht htok hSr hpr roomB
  have gAB := gB.trans b2
  refine ⟨B', _, b1, b2, ⟨P.at_, by show g.nx + _ = h.nx + _; rw [P.nx], ?_, (a3.grow gAB).le hk, b3.le hk, by rw [a6]; exact a4, by rw [a6]; exact b4, fun e => ?_, fun e => ?_, fun e => ?_, fun e => ?_⟩⟩
  · show z.h ≠ y.h
    by_cases h7 : t = 7
    · obtain ⟨u, u1, u2, u3⟩ := a9 h7
      obtain ⟨v, v1, v2, v3⟩ := b9 h7
      intro e
      rw [e, nd_pre gAB.pre a3.h, u3] at v3
      injection v3 with _ _ h1
      exact P.ne h1.symm
    · rw [a8 h7, b8 h7]; exact P.ne
  all_goals rw [a7 _ (by omega)] at e
  · exact (P.wE e).grow b2
  · exact (P.wS e).grow b2
  · exact (P.rE e).grow b2
  · exact (P.rS e).grow b2
/-- Other psks are mixed: from now on the hashes are other ones. -/
theorem mix_pa {A : Ar} {f f' : Nat → Bool} {w r : Nat} {Sw Sr k : Int} {h g : Hs} {pw pr : List Int} (hwr : (w = 0 ∧ r = 1) ∨ (w = 1 ∧ r = 0)) (hA : ArOk A) (P : Pair A f w r Sw Sr h g k) (hk : 0 ≤ k) (htok : tokV f w 7 = (0, f')) (hS : has A.l Sw = true) (hSr : has A.l Sr = true)
    (hpw : has A.l (pw.getD h.nx.toNat 0) = true) (hpr : has A.l (pr.getD h.nx.toNat 0) = true) (hne : pw.getD h.nx.toNat 0 ≠ pr.getD h.nx.toNat 0) (room : A.l.length + 4 ≤ A.limit) :
    ∃ A' h', mixC A w Sw pw h 7 = (A', h', 0) ∧ Grow A A' 4 ∧ Wr A' f' w r h' k ∧ h'.nx = h.nx + 1 ∧ h'.at_ = h.at_ ∧
      ∀ B c, Grow A' B c → B.l.length + 4 ≤ B.limit → ∃ B' g', mixC B r Sr pr g 7 = (B', g', 0) ∧ Grow B B' 4 ∧ Apart B' f' w r Sw Sr h' g' k := by
  obtain ⟨A', y, a1, a2, a3, a4, a5, a6, a7, a8, a9⟩ := mixW (t := 7) hwr hA P.wr hk (by decide) htok hS (fun _ => hpw) room
  refine ⟨A', _, a1, a2, a5, rfl, rfl, fun B c gB roomB => ?_⟩
  have gA := a2.trans gB
  have PB := P.grow gA
  obtain ⟨B', z, b1, b2, b3, b4, b5, b6, b7, b8, b9⟩ := mixW (t := 7) (w := r) (r := w) (v := w) (psks := pr) (by omega) gB.ok PB.sym.wr hk (by decide) htok (gA.has hSr) (fun _ => by rw [P.nx]; exact gA.has hpr) roomB
  have gAB := gB.trans b2
  refine ⟨B', _, b1, b2, ⟨P.at_, by show g.nx + _ = h.nx + _; rw [P.nx], ?_, (a3.grow gAB).le hk, b3.le hk, by rw [a6]; exact a4, by rw [a6]; exact b4, fun e => ?_, fun e => ?_, fun e => ?_, fun e => ?_⟩⟩
  · show z.h ≠ y.h
    obtain ⟨u, u1, u2, u3⟩ := a9 rfl
    obtain ⟨v, v1, v2, v3⟩ := b9 rfl
    intro e
    rw [e, nd_pre gAB.pre a3.h, u3] at v3
    injection v3 with _ _ _ h2
    rw [← h2, nd_pre gAB.pre u1, u2] at v2
    injection v2 with _ _ _ h3
    rw [P.nx] at h3
    exact hne h3
  all_goals rw [a7 _ (by omega)] at e
  · exact (PB.wE e).grow b2
  · exact (PB.wS e).grow b2
  · exact (PB.rE e).grow b2
  · exact (PB.rS e).grow b2
theorem open_h {A : Ar} {s : Sy} {x k : Int} (md : Bool) (hA : ArOk A) (hs : SyOk A s k) (hk : 0 ≤ k) (hx : has A.l x = true) (room : A.l.length + 3 ≤ A.limit) :
    ∃ A' y, openY A s md x true = (A', y, 0) ∧ Grow A A' 3 ∧ SyOk A' y k ∧ y.c.has = (s.c.has || md) ∧ nd A'.l y.h = ⟨5, 0, s.h, x, 0⟩ := by
  obtain ⟨A1, h1, a1, a2, a3, a4, a5⟩ := mixHash_all hA hs.h hx (by omega)
  cases md with
  | false =>
    exact ⟨A1, ⟨s.ck, h1, s.c⟩, by simp [openY, a1], a2.le (by omega), ⟨a2.has hs.ck, a3, fun e => a2.has (hs.key e), hs.n0, hs.n1⟩, by simp, a4⟩
  | true =>
    obtain ⟨A2, c, q, b1, b2, b3, b4, b5, b6, b7⟩ := mixKey_all (s := ⟨s.ck, h1, s.c⟩) (x := x) a2.ok (a2.has hs.ck) (a2.has hx) (a2.room (d := 2) (by omega))
    exact ⟨A2, ⟨c, h1, ⟨q, true, 0⟩⟩, by simp [openY, a1, b1], a2.trans b2, ⟨b3, b2.has a3, fun _ => b4, Int.le_refl _, hk⟩, by simp, by show nd A2.l h1 = _; rw [nd_pre b2.pre a3]; exact a4⟩
theorem mayC_ok {A : Ar} {s : Sy} {x k : Int} (hs : SyOk A s k) (hk : k < 1000) (hx : has A.l x = true) : mayC A.l s.c [s.h, x] = 0 := by
  have hn1 := hs.n1
  rw [mayC_two, if_neg (by
    rw [hs.h, hx]
    rintro (h | ⟨h, h2⟩)
    · cases h
    · rw [hs.key h] at h2; cases h2), if_neg (by rintro ⟨_, h⟩; omega)]
theorem seal_h {A : Ar} {s : Sy} {p k : Int} (hA : ArOk A) (hs : SyOk A s k) (hk : k < 1000) (hp : has A.l p = true) (room : A.l.length + 2 ≤ A.limit) :
    ∃ A' y part, sealS A s p = (A', y, part, 0) ∧ Grow A A' 2 ∧ SyOk A' y (k + 1) ∧ y.c.has = s.c.has ∧ has A'.l part = true ∧ (s.c.has = false → part = p) ∧ (s.c.has = true → nd A'.l part = ⟨7, s.c.n, s.c.key, s.h, p⟩) ∧ nd A'.l y.h = ⟨5, 0, s.h, part, 0⟩ := by
  have hn0 := hs.n0
  have hn1 := hs.n1
  have may := mayC_ok hs hk hp
  cases hh : s.c.has with
  | false =>
    obtain ⟨A', h', h1, h2, h3, h4, h5⟩ := mixHash_all (s := ⟨s.ck, s.h, s.c⟩) (x := p) hA hs.h hp (by omega)
    exact ⟨A', ⟨s.ck, h', s.c⟩, p, by simp [sealS, sealC, may, hh, doneS, h1], h2.le (by omega), ⟨h2.has hs.ck, h3, fun e => h2.has (hs.key e), hn0, by show s.c.n ≤ k + 1; omega⟩, hh, h2.has hp, fun _ => rfl, (by intro e; cases e), h4⟩
  | true =>
    obtain ⟨A1, q, a1, a2, a3, a4, a5⟩ := mk_all (n := ⟨7, s.c.n, s.c.key, s.h, p⟩) hA hn0 (show s.c.n ≤ _ by omega) (right_of (.inr (.inr (.inr (.inl rfl)))) rfl (hs.key hh) hs.h hp) (by omega)
    obtain ⟨A', h', h1, h2, h3, h4, h5⟩ := mixHash_all (s := ⟨s.ck, s.h, laterC s.c⟩) (x := q) a2.ok (a2.has hs.h) a3 (a2.room (d := 1) (by omega))
    have g := a2.trans h2
    exact ⟨A', ⟨s.ck, h', laterC s.c⟩, q, by simp [sealS, sealC, may, hh, a1, doneS, h1], g, ⟨g.has hs.ck, h3, fun e => g.has (hs.key hh), by show 0 ≤ s.c.n + 1; omega, by show s.c.n + 1 ≤ k + 1; omega⟩, hh, h2.has a3, (by intro e; cases e), fun _ => by rw [nd_pre h2.pre a3]; exact a4, h4⟩
theorem openS_ap {A : Ar} {s : Sy} {part k : Int} (hA : ArOk A) (hs : SyOk A s k) (hk : k < 1000) (hp : has A.l part = true) (hh : s.c.has = false) (room : A.l.length + 1 ≤ A.limit) :
    ∃ A' h', openS A s part = (A', ⟨s.ck, h', s.c⟩, part, 0) ∧ Grow A A' 1 ∧ has A'.l h' = true ∧ nd A'.l h' = ⟨5, 0, s.h, part, 0⟩ := by
  have may := mayC_ok hs hk hp
  obtain ⟨A', h', h1, h2, h3, h4, -⟩ := mixHash_all (s := ⟨s.ck, s.h, s.c⟩) (x := part) hA hs.h hp room
  exact ⟨A', h', by simp [openS, openC, may, hh, doneS, h1], h2, h3, h4⟩
theorem openS_no {A : Ar} {s : Sy} {part k n q hw p : Int} (hs : SyOk A s k) (hk : k < 1000) (hp : has A.l part = true) (hh : s.c.has = true) (hn : nd A.l part = ⟨7, n, q, hw, p⟩) (hne : s.h ≠ hw) : openS A s part = (A, Sy.zero, 0, 7) := by
  have may := mayC_ok hs hk hp
  have hg : getNd A.l part = ⟨7, n, q, hw, p⟩ := by rw [getNd_of_has hp, hn]
  have : ¬ hw = s.h := fun e => hne e.symm
  simp [openS, openC, may, hh, hg, this]
/-- A token that is a key: it is sent; and received as long as there is no key to open by. -/
theorem send_ap {A : Ar} {f f' : Nat → Bool} {w r : Nat} {Sw Sr t k e : Int} {h : Hs} (hwr : (w = 0 ∧ r = 1) ∨ (w = 1 ∧ r = 0)) (hA : ArOk A) (W : Wr A f w r h k) (hk : 0 ≤ k ∧ k < 999) (ht : t = 1 ∨ t = 2) (htok : tokV f w t.toNat = (0, f'))
    (he : has A.l e = true) (he0 : e ≠ 0) (hS : has A.l Sw = true) (room : A.l.length + 4 ≤ A.limit) :
    ∃ A' h' part, sendC A w Sw (f 14) (frE h e t) t = (A', h', part, 0) ∧ Grow A A' 4 ∧ Wr A' f' w r h' (k + 1) ∧ has A'.l part = true ∧ h'.nx = h.nx ∧ h'.at_ = h.at_ ∧
      ∀ B c g, Grow A' B c → Apart B f w r Sw Sr h g k → B.l.length + 4 ≤ B.limit → ∃ B', Grow B B' 4 ∧ ((∃ g', receiveC B (f 14) g t part = (B', g', 0) ∧ Apart B' f' w r Sw Sr h' g' (k + 1)) ∨ receiveC B (f 14) g t part = (B', Hs.zero, 7)) := by
  obtain ⟨hf, rfl⟩ := tok_key (by omega) htok
  have hlow : ∀ i, i < 6 → i ≠ 3 * w + t.toNat → putV (putV f (3 * w + t.toNat) true) 15 (f 15 || (decide (t.toNat = 1) && f 14)) i = f i := fun i hi h2 => by unfold putV; rw [if_neg (by omega), if_neg h2]
  have h15 : putV (putV f (3 * w + t.toNat) true) 15 (f 15 || (decide (t.toNat = 1) && f 14)) 15 = (f 15 || (decide (t.toNat = 1) && f 14)) := by unfold putV; rw [if_pos rfl]
  rcases ht with rfl | rfl
  · obtain ⟨A1, y, a1, a2, a3, a4, -⟩ := pub_all hA he (by omega)
    obtain ⟨A2, q, b1, b2, b3, b4, b5⟩ := open_h (f 14) a2.ok (W.ok.grow a2) hk.1 a3 (a2.room (d := 3) (by omega))
    have gr := a2.trans b2
    have hp : publicC A w Sw e h.RS h.RE w 1 = (A1, y, 0) := by simp [publicC, a1]
    refine ⟨A2, { h with E := e, y := q }, y, by simp [sendC, frE, he0, hp, b1], gr, ⟨b3.le (by omega), by rw [h15]; show q.c.has = _; rw [b4, W.key]; simp, fun _ => gr.has he, fun hi => ?_, fun hi => ?_⟩, b2.has a3, rfl, rfl, fun B c g gB P roomB => ?_⟩
    · rw [hlow _ (by omega) (by simp only [Int.toNat_one]; omega)] at hi; exact (W.rE hi).imp fun _ h => h.grow gr
    · rw [hlow _ (by omega) (by simp only [Int.toNat_one]; omega)] at hi; exact (W.rS hi).imp fun _ h => h.grow gr
    · obtain ⟨B', u, c1, c2, c3, c4, c5⟩ := open_h (f 14) gB.ok P.okg hk.1 (gB.has (b2.has a3)) (by omega)
      have gAB := gB.trans c2
      refine ⟨B', c2.le (by omega), .inl ⟨{ g with RE := y, y := u }, by simp [receiveC, c1], ⟨P.at_, P.nx, ?_, (b3.grow gAB).le (by omega), c3.le (by omega), by rw [h15]; show q.c.has = _; rw [b4, W.key]; simp, by rw [h15]; show u.c.has = _; rw [c4, P.keyg]; simp, fun _ => ⟨gAB.has (gr.has he), gAB.has (b2.has a3), by rw [nd_pre (b2.pre.trans gAB.pre) a3]; exact a4⟩, fun hi => ?_, fun hi => ?_, fun hi => ?_⟩⟩⟩
      · show u.h ≠ q.h
        intro e
        rw [e, nd_pre gAB.pre b3.h, b5] at c5
        injection c5 with _ _ h1
        exact P.ne h1.symm
      · rw [hlow _ (by omega) (by simp only [Int.toNat_one]; omega)] at hi; exact (P.wS hi).grow c2
      · rw [hlow _ (by omega) (by simp only [Int.toNat_one]; omega)] at hi; exact (P.rE hi).grow c2
      · rw [hlow _ (by omega) (by simp only [Int.toNat_one]; omega)] at hi; exact (P.rS hi).grow c2
  · obtain ⟨A1, y, a1, a2, a3, a4, -⟩ := pub_all hA hS (by omega)
    obtain ⟨A2, q, part, b1, b2, b3, b4, b5, b6, b7, b8⟩ := seal_h a2.ok (W.ok.grow a2) (by omega) a3 (by have := a2.room (d := 3) (by omega); omega)
    have gr := (a2.trans b2).le (d := 4) (by omega)
    have h2 : (2 : Int).toNat = 2 := rfl
    have hp : publicC A w Sw h.E h.RS h.RE w 2 = (A1, y, 0) := by simp [publicC, a1]
    refine ⟨A2, { h with y := q }, part, by simp [sendC, frE, hp, sealedC, b1], gr, ⟨b3, by rw [h15]; show q.c.has = _; rw [b4, W.key]; simp, fun hi => ?_, fun hi => ?_, fun hi => ?_⟩, b5, rfl, rfl, fun B c g gB P roomB => ?_⟩
    · rw [hlow _ (by omega) (by omega)] at hi; exact gr.has (W.wE hi)
    · rw [hlow _ (by omega) (by omega)] at hi; exact (W.rE hi).imp fun _ h => h.grow gr
    · rw [hlow _ (by omega) (by omega)] at hi; exact (W.rS hi).imp fun _ h => h.grow gr
    · rcases Bool.eq_false_or_eq_true (f 15) with hh | hh
      · refine ⟨B, (Grow.refl gB.ok).le (by omega), .inr ?_⟩
        have ho := openS_no (n := h.y.c.n) (q := h.y.c.key) (hw := h.y.h) (p := y) P.okg (by omega) (gB.has b5) (P.keyg.trans hh) (by rw [nd_pre gB.pre b5]; exact b7 (W.key.trans hh)) P.ne
        simp [receiveC, openedC, ho]
      · have hpy := b6 (W.key.trans hh)
        subst hpy
        obtain ⟨B', h', c1, c2, c3, c4⟩ := openS_ap gB.ok P.okg (by omega) (gB.has b5) (P.keyg.trans hh) (by omega)
        have gAB := gB.trans c2
        have okg := P.okg.grow c2
        refine ⟨B', c2.le (by omega), .inl ⟨{ g with RS := part, y := ⟨g.y.ck, h', g.y.c⟩ }, by simp [receiveC, openedC, c1], ⟨P.at_, P.nx, ?_, b3.grow gAB, ⟨okg.ck, c3, okg.key, okg.n0, by have := okg.n1; show g.y.c.n ≤ k + 1; omega⟩, by rw [h15]; show q.c.has = _; rw [b4, W.key]; simp, by rw [h15]; show g.y.c.has = _; rw [P.keyg]; simp, fun hi => ?_, fun _ => ⟨gAB.has (gr.has hS), gAB.has b5, by rw [nd_pre (b2.pre.trans gAB.pre) a3]; exact a4⟩, fun hi => ?_, fun hi => ?_⟩⟩⟩
        · show h' ≠ q.h
          intro e
          rw [e, nd_pre gAB.pre b3.h, b8] at c4
          injection c4 with _ _ h1
          exact P.ne h1.symm
        · rw [hlow _ (by omega) (by omega)] at hi; exact (P.wE hi).grow c2
        · rw [hlow _ (by omega) (by omega)] at hi; exact (P.rE hi).grow c2
        · rw [hlow _ (by omega) (by omega)] at hi; exact (P.rS hi).grow c2
theorem f15_up {f f' : Nat → Bool} {w t : Nat} (ht : t ≤ 7) (h : tokV f w t = (0, f')) (h15 : f 15 = true) : f' 15 = true := by
  by_cases h2 : t ≤ 2
  · rw [(tok_key h2 h).2]; unfold putV; rw [if_pos rfl, h15]; rfl
  · rw [(tok_dh (by omega) h).2]; unfold putV; rw [if_pos rfl]
theorem msgV_cons {w : Nat} {t : Int} {l : List Int} {f f' : Nat → Bool} (hv : msgV w (t :: l) f = (0, f')) : ∃ f1, tokV f w t.toNat = (0, f1) ∧ msgV w l f1 = (0, f') := by
  simp only [msgV] at hv
  have h1 := tokV_nn f w t.toNat
  split at hv
  · rename_i h2; rw [hv] at h2; simp at h2
  · exact ⟨_, Prod.ext (by show (tokV f w t.toNat).1 = 0; omega) rfl, hv⟩
/-- The tokens of a message: all are sent; the hashes stay apart, or a part is not opened. -/
theorem toks_ap {w r : Nat} {Sw Sr e : Int} {pw pr : List Int} {md : Bool} (hwr : (w = 0 ∧ r = 1) ∨ (w = 1 ∧ r = 0)) (he0 : e ≠ 0) (hpl : pw.length = pr.length) : ∀ (l : List Int) {A : Ar} {f f' : Nat → Bool} {h : Hs} {k : Int} (msg : List Int), ArOk A → Wr A f w r h k → 0 ≤ k → k + l.length < 999 → (∀ t ∈ l, 1 ≤ t ∧ t ≤ 7) → msgV w l f = (0, f') → f 14 = md →
    0 ≤ h.nx → h.nx + cnt7 l ≤ pw.length → (∀ x ∈ pw, has A.l x = true) → (∀ x ∈ pr, has A.l x = true) → has A.l e = true → has A.l Sw = true → has A.l Sr = true → A.l.length + 4 * l.length ≤ A.limit →
    ∃ A' h' parts, writeL w Sw e pw md l A h msg = (A', h', msg ++ parts, 0) ∧ Grow A A' (4 * l.length) ∧ Wr A' f' w r h' (k + l.length) ∧ f' 14 = md ∧ (f 15 = true → f' 15 = true) ∧ h'.at_ = h.at_ ∧ h'.nx = h.nx + cnt7 l ∧ (∀ x ∈ parts, has A'.l x = true) ∧ (parts.length : Int) + 1 = partsC l ∧
      ∀ B c g, Grow A' B c → Apart B f w r Sw Sr h g k → B.l.length + 4 * l.length ≤ B.limit → ∀ pre post, ∃ B', Grow B B' (4 * l.length) ∧ ((∃ g', readL r Sr pr md (pre ++ parts ++ post) l B g pre.length = (B', g', pre.length + parts.length, 0) ∧ Apart B' f' w r Sw Sr h' g' (k + l.length)) ∨ readL r Sr pr md (pre ++ parts ++ post) l B g pre.length = (B', Hs.zero, 0, 7))
  | [], A, f, f', h, k, msg, hA, W, hk, hk2, hl, hv, hm, h0, hn, hp, hp', he, hS, hSr, room => by
    have hf : f' = f := by simp only [msgV, Prod.mk.injEq] at hv; exact hv.2.symm
    subst hf
    exact ⟨A, h, [], by simp [writeL], (Grow.refl hA).le (by omega), by simpa using W, hm, id, rfl, by simp [cnt7], by simp, rfl, fun B c g gB P _ pre post => ⟨B, (Grow.refl gB.ok).le (by omega), .inl ⟨g, by simp [readL], by simpa using P⟩⟩⟩
  | t :: l, A, f, f', h, k, msg, hA, W, hk, hk2, hl, hv, hm, h0, hn, hp, hp', he, hS, hSr, room => by
    have ht := hl t (List.mem_cons_self ..)
    have hl' : ∀ t ∈ l, 1 ≤ t ∧ t ≤ 7 := fun x hx => hl x (List.mem_cons_of_mem _ hx)
    simp only [List.length_cons] at hk2 room ⊢
    have hw1 : w ≤ 1 := by omega
    have hpos := cnt7_pos l
    obtain ⟨f1, ht1, ht2⟩ := msgV_cons hv
    have hm1 : f1 14 = md := by rw [tok_mode hw1 (by omega) ht1, hm]
    have hup := f15_up (by omega) ht1
    by_cases h2 : 2 < t
    · have hpsk : ∀ {q : List Int} {B : Ar} {n : Int}, n = h.nx → q.length = pw.length → (∀ x ∈ q, has B.l x = true) → t = 7 → has B.l (q.getD n.toNat 0) = true := fun {q B n} e1 e2 hq h7 => by
        subst e1
        simp only [cnt7, if_pos h7] at hn
        have hi : h.nx.toNat < q.length := by omega
        rw [getD_at (List.getElem?_eq_getElem hi)]
        exact hq _ (List.getElem_mem hi)
      obtain ⟨A1, h1, a1, a2, a3, s2, s1, a4⟩ := mix_ap (Sw := Sw) (Sr := Sr) (pr := pr) hwr hA W hk ⟨by omega, ht.2⟩ ht1 hS (hpsk rfl rfl hp) (by omega)
      obtain ⟨A2, h2', parts, b1, b2, b3, b4, bu, b5, b6, b7, b8, b9⟩ := toks_ap (Sw := Sw) (Sr := Sr) (pw := pw) (pr := pr) hwr he0 hpl l msg a2.ok a3 hk (by omega) hl' ht2 hm1 (by rw [s2]; split <;> omega) (by rw [s2]; simp only [cnt7] at hn; omega) (fun x hx => a2.has (hp x hx)) (fun x hx => a2.has (hp' x hx)) (a2.has he) (a2.has hS) (a2.has hSr) (a2.room (d := 4 * l.length) (by omega))
      refine ⟨A2, h2', parts, ?_, (a2.trans b2).le (by omega), b3.le (by omega), b4, fun h => bu (hup h), b5.trans s1, by rw [b6, s2]; simp only [cnt7]; omega, b7, by rw [b8]; simp only [partsC]; rw [if_neg (by omega)], fun B c g gB P roomB pre post => ?_⟩
      · simp only [writeL, if_pos h2, if_neg (show ¬ t = 1 by omega), a1, ne_eq, not_true_eq_false, if_false]; exact b1
      · have g1B := b2.trans gB
        obtain ⟨B1, g1, c1, c2, c3⟩ := a4 B _ g g1B P (g1B.has (a2.has hSr)) (hpsk P.nx hpl.symm (fun x hx => g1B.has (a2.has (hp' x hx)))) (by omega)
        obtain ⟨B2, d1, d2⟩ := b9 B1 _ g1 (gB.trans c2) c3 (c2.room (d := 4 * l.length) (by omega)) pre post
        refine ⟨B2, (c2.trans d1).le (by omega), ?_⟩
        simp only [readL, if_pos h2, c1, ne_eq, not_true_eq_false, if_false]
        rcases d2 with ⟨g2, d2, d3⟩ | d2
        · exact .inl ⟨g2, d2, d3.at_, d3.nx, d3.ne, d3.ok.le (by omega), d3.okg.le (by omega), d3.key, d3.keyg, d3.wE, d3.wS, d3.rE, d3.rS⟩
        · exact .inr d2
    · have h7 : ¬ t = 7 := by omega
      simp only [cnt7, if_neg h7] at hn ⊢
      obtain ⟨A1, h1, part, a1, a2, a3, a4, s2, s1, a5⟩ := send_ap (e := e) (Sw := Sw) (Sr := Sr) hwr hA W ⟨hk, by omega⟩ (by omega) ht1 he he0 hS (by omega)
      rw [hm] at a1 a5
      obtain ⟨A2, h2', parts, b1, b2, b3, b4, bu, b5, b6, b7, b8, b9⟩ := toks_ap (Sw := Sw) (Sr := Sr) (pw := pw) (pr := pr) hwr he0 hpl l (msg ++ [part]) a2.ok a3 (by omega) (by omega) hl' ht2 hm1 (by rw [s2]; exact h0) (by rw [s2]; omega) (fun x hx => a2.has (hp x hx)) (fun x hx => a2.has (hp' x hx)) (a2.has he) (a2.has hS) (a2.has hSr) (a2.room (d := 4 * l.length) (by omega))
      refine ⟨A2, h2', part :: parts, ?_, (a2.trans b2).le (by omega), b3.le (by omega), b4, fun h => bu (hup h), b5.trans s1, by rw [b6, s2]; omega, ?_, by simp only [List.length_cons, partsC]; rw [if_pos (by omega)]; omega, fun B c g gB P roomB pre post => ?_⟩
      · have : (if t = 1 then { h with E := e } else h) = frE h e t := rfl
        simp only [writeL, if_neg h2, this, a1, ne_eq, not_true_eq_false, if_false]
        rw [b1]; simp
      · intro x hx
        rcases List.mem_cons.1 hx with rfl | hx
        · exact b2.has a4
        · exact b7 x hx
      · have hg : (pre ++ part :: parts ++ post).getD pre.length 0 = part := by simp [List.getD_eq_getElem?_getD]
        obtain ⟨B1, c1, c2⟩ := a5 B _ g (b2.trans gB) P (by omega)
        rcases c2 with ⟨g1, c2, c3⟩ | c2
        · obtain ⟨B2, d1, d2⟩ := b9 B1 _ g1 (gB.trans c1) c3 (c1.room (d := 4 * l.length) (by omega)) (pre ++ [part]) post
          refine ⟨B2, (c1.trans d1).le (by omega), ?_⟩
          simp only [readL, if_neg h2, hg, c2, ne_eq, not_true_eq_false, if_false]
          simp only [List.length_append, List.length_cons, List.length_nil, List.append_assoc, List.cons_append, List.nil_append] at d2 ⊢
          rcases d2 with ⟨g2, d2, d3⟩ | d2
          · exact .inl ⟨g2, by rw [d2]; simp; omega, d3.at_, d3.nx, d3.ne, d3.ok.le (by omega), d3.okg.le (by omega), d3.key, d3.keyg, d3.wE, d3.wS, d3.rE, d3.rS⟩
          · exact .inr d2
        · refine ⟨B1, c1.le (by omega), .inr ?_⟩
          simp [readL, if_neg h2, c2]
theorem mixC_psks {A : Ar} {role S t : Int} {h : Hs} (p q : List Int) (h7 : t ≠ 7) : mixC A role S p h t = mixC A role S q h t := by simp [mixC, h7]
/-- Two sides that have another first psk: in step till there. -/
theorem toks_pa {w r : Nat} {Sw Sr e : Int} {pw pr : List Int} {md : Bool} (hwr : (w = 0 ∧ r = 1) ∨ (w = 1 ∧ r = 0)) (he0 : e ≠ 0) (hpl : pw.length = pr.length) (hne : pw.getD 0 0 ≠ pr.getD 0 0) : ∀ (l : List Int) {A : Ar} {f f' : Nat → Bool} {h g : Hs} {k : Int} (msg : List Int), ArOk A → Pair A f w r Sw Sr h g k → 0 ≤ k → k + l.length < 999 → (∀ t ∈ l, 1 ≤ t ∧ t ≤ 7) → msgV w l f = (0, f') → f 14 = md →
    h.nx = 0 → h.nx + cnt7 l ≤ pw.length → (∀ x ∈ pw, has A.l x = true) → (∀ x ∈ pr, has A.l x = true) → has A.l e = true → has A.l Sw = true → has A.l Sr = true → A.l.length + 4 * l.length ≤ A.limit →
    ∃ A' h' parts, writeL w Sw e pw md l A h msg = (A', h', msg ++ parts, 0) ∧ Grow A A' (4 * l.length) ∧ Wr A' f' w r h' (k + l.length) ∧ f' 14 = md ∧ h'.at_ = h.at_ ∧ h'.nx = h.nx + cnt7 l ∧ (∀ x ∈ parts, has A'.l x = true) ∧ (parts.length : Int) + 1 = partsC l ∧
      ∀ B c, Grow A' B c → B.l.length + 4 * l.length ≤ B.limit → ∀ pre post, ∃ B', Grow B B' (4 * l.length) ∧ ((∃ g', readL r Sr pr md (pre ++ parts ++ post) l B g pre.length = (B', g', pre.length + parts.length, 0) ∧ ((Pair B' f' w r Sw Sr h' g' (k + l.length) ∧ cnt7 l = 0) ∨ (Apart B' f' w r Sw Sr h' g' (k + l.length) ∧ f' 15 = true))) ∨ readL r Sr pr md (pre ++ parts ++ post) l B g pre.length = (B', Hs.zero, 0, 7))
  | [], A, f, f', h, g, k, msg, hA, P, hk, hk2, hl, hv, hm, h0, hn, hp, hp', he, hS, hSr, room => by
    have hf : f' = f := by simp only [msgV, Prod.mk.injEq] at hv; exact hv.2.symm
    subst hf
    exact ⟨A, h, [], by simp [writeL], (Grow.refl hA).le (by omega), by simpa using P.wr, hm, rfl, by simp [cnt7], by simp, rfl, fun B c gB _ pre post => ⟨B, (Grow.refl gB.ok).le (by omega), .inl ⟨g, by simp [readL], .inl ⟨by simpa using P.grow gB, rfl⟩⟩⟩⟩
  | t :: l, A, f, f', h, g, k, msg, hA, P, hk, hk2, hl, hv, hm, h0, hn, hp, hp', he, hS, hSr, room => by
    have ht := hl t (List.mem_cons_self ..)
    have hl' : ∀ t ∈ l, 1 ≤ t ∧ t ≤ 7 := fun x hx => hl x (List.mem_cons_of_mem _ hx)
    simp only [List.length_cons] at hk2 room ⊢
    have hw1 : w ≤ 1 := by omega
    have hpos := cnt7_pos l
    obtain ⟨f1, ht1, ht2⟩ := msgV_cons hv
    have hm1 : f1 14 = md := by rw [tok_mode hw1 (by omega) ht1, hm]
    by_cases h2 : 2 < t
    · by_cases h7 : t = 7
      · subst h7
        simp only [cnt7, if_true] at hn
        have hpsk : ∀ {q : List Int}, q.length = pw.length → (∀ x ∈ q, has A.l x = true) → has A.l (q.getD h.nx.toNat 0) = true := fun {q} e2 hq => by
          have hi : h.nx.toNat < q.length := by omega
          rw [getD_at (List.getElem?_eq_getElem hi)]
          exact hq _ (List.getElem_mem hi)
        obtain ⟨A1, h1, a1, a2, a3, s2, s1, a4⟩ := mix_pa (pw := pw) (pr := pr) hwr hA P hk ht1 hS hSr (hpsk rfl hp) (hpsk hpl.symm hp') (by rw [h0]; exact hne) (by omega)
        have h15 : f1 15 = true := by rw [(tok_dh (by decide) ht1).2]; unfold putV; rw [if_pos rfl]
        obtain ⟨A2, h2', parts, b1, b2, b3, b4, bu, b5, b6, b7, b8, b9⟩ := toks_ap (Sw := Sw) (Sr := Sr) (pw := pw) (pr := pr) hwr he0 hpl l msg a2.ok a3 hk (by omega) hl' ht2 hm1 (by omega) (by omega) (fun x hx => a2.has (hp x hx)) (fun x hx => a2.has (hp' x hx)) (a2.has he) (a2.has hS) (a2.has hSr) (a2.room (d := 4 * l.length) (by omega))
        refine ⟨A2, h2', parts, ?_, (a2.trans b2).le (by omega), b3.le (by omega), b4, b5.trans s1, by rw [b6, s2]; simp only [cnt7, if_true]; omega, b7, by rw [b8]; simp only [partsC]; rw [if_neg (by omega)], fun B c gB roomB pre post => ?_⟩
        · simp only [writeL, if_pos h2, if_neg (show ¬ (7 : Int) = 1 by omega), a1, ne_eq, not_true_eq_false, if_false]; exact b1
        · obtain ⟨B1, g1, c1, c2, c3⟩ := a4 B _ (b2.trans gB) (by omega)
          obtain ⟨B2, d1, d2⟩ := b9 B1 _ g1 (gB.trans c2) c3 (c2.room (d := 4 * l.length) (by omega)) pre post
          refine ⟨B2, (c2.trans d1).le (by omega), ?_⟩
          simp only [readL, if_pos h2, c1, ne_eq, not_true_eq_false, if_false]
          rcases d2 with ⟨g2, d2, d3⟩ | d2
          · exact .inl ⟨g2, d2, .inr ⟨⟨d3.at_, d3.nx, d3.ne, d3.ok.le (by omega), d3.okg.le (by omega), d3.key, d3.keyg, d3.wE, d3.wS, d3.rE, d3.rS⟩, bu h15⟩⟩
          · exact .inr d2
      · simp only [cnt7, if_neg h7] at hn ⊢
        obtain ⟨A1, h1, g1, a1, a2, a3, a4⟩ := mix_sync (psks := pw) hwr hA P hk ⟨by omega, ht.2⟩ ht1 (fun h => absurd h h7) (by omega)
        obtain ⟨s1, s2, -, -, -⟩ := mixC_st a1
        rw [if_neg h7] at s2
        obtain ⟨A2, h2', parts, b1, b2, b3, b4, b5, b6, b7, b8, b9⟩ := toks_pa (Sw := Sw) (Sr := Sr) (pw := pw) (pr := pr) hwr he0 hpl hne l msg a2.ok a3 hk (by omega) hl' ht2 hm1 (by omega) (by omega) (fun x hx => a2.has (hp x hx)) (fun x hx => a2.has (hp' x hx)) (a2.has he) (a2.has hS) (a2.has hSr) (a2.room (d := 4 * l.length) (by omega))
        refine ⟨A2, h2', parts, ?_, (a2.trans b2).le (by omega), b3.le (by omega), b4, b5.trans s1, by rw [b6, s2]; omega, b7, by rw [b8]; simp only [partsC]; rw [if_neg (by omega)], fun B c gB roomB pre post => ?_⟩
        · simp only [writeL, if_pos h2, if_neg (show ¬ t = 1 by omega), a1, ne_eq, not_true_eq_false, if_false]; exact b1
        · have hr := a4 B gB.ok ((b2.trans gB).pre)
          rw [mixC_psks pw pr h7] at hr
          obtain ⟨B2, d1, d2⟩ := b9 B _ gB (by omega) pre post
          refine ⟨B2, d1.le (by omega), ?_⟩
          simp only [readL, if_pos h2, hr, ne_eq, not_true_eq_false, if_false]
          rcases d2 with ⟨g2, d2, d3⟩ | d2
          · refine .inl ⟨g2, d2, ?_⟩
            rcases d3 with ⟨d3, d4⟩ | ⟨d3, d4⟩
            · exact .inl ⟨⟨d3.at_, d3.nx, d3.y, d3.ok.le (by omega), d3.key, d3.wE, d3.wS, d3.rE, d3.rS⟩, by omega⟩
            · exact .inr ⟨⟨d3.at_, d3.nx, d3.ne, d3.ok.le (by omega), d3.okg.le (by omega), d3.key, d3.keyg, d3.wE, d3.wS, d3.rE, d3.rS⟩, d4⟩
          · exact .inr d2
    · have h7 : ¬ t = 7 := by omega
      simp only [cnt7, if_neg h7] at hn ⊢
      obtain ⟨A1, h1, g1, part, a1, a2, a3, a4, a5⟩ := send_sync (e := e) hwr hA P ⟨hk, by omega⟩ (by omega) ht1 he he0 hS (by omega)
      rw [hm] at a1 a5
      obtain ⟨s1, s2, -, -, -⟩ := sendC_st a1
      have s1 : h1.at_ = h.at_ := by rw [s1]; unfold frE; split <;> rfl
      have s2 : h1.nx = h.nx := by rw [s2]; unfold frE; split <;> rfl
      obtain ⟨A2, h2', parts, b1, b2, b3, b4, b5, b6, b7, b8, b9⟩ := toks_pa (Sw := Sw) (Sr := Sr) (pw := pw) (pr := pr) hwr he0 hpl hne l (msg ++ [part]) a2.ok a3 (by omega) (by omega) hl' ht2 hm1 (by rw [s2]; exact h0) (by rw [s2]; omega) (fun x hx => a2.has (hp x hx)) (fun x hx => a2.has (hp' x hx)) (a2.has he) (a2.has hS) (a2.has hSr) (a2.room (d := 4 * l.length) (by omega))
      refine ⟨A2, h2', part :: parts, ?_, (a2.trans b2).le (by omega), b3.le (by omega), b4, b5.trans s1, by rw [b6, s2]; omega, ?_, by simp only [List.length_cons, partsC]; rw [if_pos (by omega)]; omega, fun B c gB roomB pre post => ?_⟩
      · have : (if t = 1 then { h with E := e } else h) = frE h e t := rfl
        simp only [writeL, if_neg h2, this, a1, ne_eq, not_true_eq_false, if_false]
        rw [b1]; simp
      · intro x hx
        rcases List.mem_cons.1 hx with rfl | hx
        · exact b2.has a4
        · exact b7 x hx
      · have hg : (pre ++ part :: parts ++ post).getD pre.length 0 = part := by simp [List.getD_eq_getElem?_getD]
        have hr := a5 B gB.ok ((b2.trans gB).pre)
        obtain ⟨B2, d1, d2⟩ := b9 B _ gB (by omega) (pre ++ [part]) post
        refine ⟨B2, d1.le (by omega), ?_⟩
        simp only [readL, if_neg h2, hg, hr, ne_eq, not_true_eq_false, if_false]
        simp only [List.length_append, List.length_cons, List.length_nil, List.append_assoc, List.cons_append, List.nil_append] at d2 ⊢
        rcases d2 with ⟨g2, d2, d3⟩ | d2
        · refine .inl ⟨g2, by rw [d2]; simp; omega, ?_⟩
          rcases d3 with ⟨d3, d4⟩ | ⟨d3, d4⟩
          · exact .inl ⟨⟨d3.at_, d3.nx, d3.y, d3.ok.le (by omega), d3.key, d3.wE, d3.wS, d3.rE, d3.rS⟩, by omega⟩
          · exact .inr ⟨⟨d3.at_, d3.nx, d3.ne, d3.ok.le (by omega), d3.okg.le (by omega), d3.key, d3.keyg, d3.wE, d3.wS, d3.rE, d3.rS⟩, d4⟩
        · exact .inr d2
end Go.Proofs.YtikimmgileffgaaGreatDoor
end
