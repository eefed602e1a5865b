/- Packed by packn.py: Sync10, Sync11. -/
import Derived.Test.YtikimmgileffgaaGreatDoorQk32
/- Two sides that have another prologue, or another psk: whole messages, and the beginning (layer 12). No program in sight. -/
section
namespace Go.Proofs.YtikimmgileffgaaGreatDoor
open Go.RowKit

theorem writeC_ok {A A1 A2 : Ar} {w : Nat} {Sw e payload part : Int} {psks parts : List Int} {p : Pat} {h h1 : Hs} {y : Sy} (hs : sendsP p w h.at_ = true) (he : has A.l e = true) (hpay : has A.l payload = true) (a1 : writeL w Sw e psks (modeP p) (toks p h.at_) A h [] = (A1, h1, parts, 0)) (b1 : sealS A1 h1.y payload = (A2, y, part, 0)) :
    writeC A w Sw psks p h e payload = (A2, { h1 with y := y, at_ := h1.at_ + 1 }, parts ++ [part], 0) := by
  simp [writeC, hs, he, hpay, a1, sealedC, b1]
theorem readC_eq {A : Ar} {r : Nat} {Sr : Int} {psks msg : List Int} {p : Pat} {g : Hs} (hat : ¬ (p.msgs.length : Int) ≤ g.at_) (hr : sendsP p r g.at_ = false) (hall : ∀ x ∈ msg, has A.l x = true) (hlen : (msg.length : Int) = partsC (toks p g.at_)) :
    readC A r Sr psks p g msg =
      let r := readL r Sr psks (modeP p) msg (toks p g.at_) A g 0
      if r.2.2.2 ≠ 0 then (r.1, Hs.zero, 0, r.2.2.2) else
      let q := openedC r.1 r.2.1 (msg.getD r.2.2.1 0)
      if q.2.2.2 ≠ 0 then (q.1, Hs.zero, 0, q.2.2.2) else (q.1, { q.2.1 with at_ := q.2.1.at_ + 1 }, q.2.2.1, 0) := by
  have h1 : (msg.all fun x => has A.l x) = true := List.all_eq_true.2 hall
  unfold readC
  rw [if_neg (by rw [hr]; simp [hat]), if_neg (by rw [h1]; decide), if_neg (by simp [hlen])]
theorem sends_lt {p : Pat} {w : Int} {n : Int} (hs : sendsP p w n = true) : ¬ (p.msgs.length : Int) ≤ n := by
  obtain ⟨q, m, e1, e2, -⟩ := sendsP_facts hs
  have := idx_lt e2
  omega
/-- A message between two sides whose hashes are other ones. -/
theorem msg_ap {A : Ar} {f f' : Nat → Bool} {w r : Nat} {Sw Sr e payload : Int} {pw pr : List Int} {p : Pat} {h g : Hs} {k : Int} (hwr : (w = 0 ∧ r = 1) ∨ (w = 1 ∧ r = 0)) (hA : ArOk A) (P : Apart A f w r Sw Sr h g k) (hk : 0 ≤ k) (hk2 : k + (toks p h.at_).length + 1 < 999)
    (hs : sendsP p w h.at_ = true) (hr : sendsP p r h.at_ = false) (hl : ∀ t ∈ toks p h.at_, 1 ≤ t ∧ t ≤ 7) (hv : msgV w (toks p h.at_) f = (0, f')) (hm : f 14 = modeP p) (h0 : 0 ≤ h.nx) (hn : h.nx + cnt7 (toks p h.at_) ≤ pw.length) (hpl : pw.length = pr.length) (hp : ∀ x ∈ pw, has A.l x = true) (hp' : ∀ x ∈ pr, has A.l x = true)
    (he0 : e ≠ 0) (he : has A.l e = true) (hpay : has A.l payload = true) (hS : has A.l Sw = true) (hSr : has A.l Sr = true) (room : A.l.length + (8 * (toks p h.at_).length + 4) ≤ A.limit) :
    ∃ A' h' msg B', writeC A w Sw pw p h e payload = (A', h', msg, 0) ∧ Grow A A' (4 * (toks p h.at_).length + 2) ∧ Grow A' B' (4 * (toks p h.at_).length + 2) ∧ f' 14 = modeP p ∧ h'.at_ = h.at_ + 1 ∧ h'.nx = h.nx + cnt7 (toks p h.at_) ∧
      ((∃ g', readC A' r Sr pr p g msg = (B', g', payload, 0) ∧ Apart B' f' w r Sw Sr h' g' (k + (toks p h.at_).length + 1) ∧ f' 15 = false) ∨ readC A' r Sr pr p g msg = (B', Hs.zero, 0, 7)) := by
  obtain ⟨A1, h1, parts, a1, a2, a3, a4, -, a5, a6, a7, a8, a9⟩ := toks_ap (Sw := Sw) (Sr := Sr) (pw := pw) (pr := pr) hwr he0 hpl (toks p h.at_) [] hA P.wr hk (by omega) hl hv hm h0 hn hp hp' he hS hSr (by omega)
  simp only [List.nil_append] at a1
  obtain ⟨A2, y, part, b1, b2, b3, b4, b5, b6, b7, b8⟩ := seal_h a2.ok a3.ok (by omega) (a2.has hpay) (by have := a2.len; rw [a2.limit]; omega)
  have hlen : ((parts ++ [part]).length : Int) = partsC (toks p g.at_) := by rw [P.at_, ← a8]; simp
  have hall : ∀ x ∈ parts ++ [part], has A2.l x = true := fun x hx => by
    rcases List.mem_append.1 hx with hx | hx
    · exact b2.has (a7 x hx)
    · rw [List.mem_singleton.1 hx]; exact b5
  have hg : (parts ++ [part]).getD parts.length 0 = part := by simp [List.getD_eq_getElem?_getD]
  have heq := readC_eq (A := A2) (Sr := Sr) (psks := pr) (msg := parts ++ [part]) (by rw [P.at_]; exact sends_lt hs) (by rw [P.at_]; exact hr) hall hlen
  rw [P.at_] at heq
  obtain ⟨B1, c1, c2⟩ := a9 A2 _ g b2 (P.grow (a2.trans b2)) (by have := (a2.trans b2).len; rw [(a2.trans b2).limit]; omega) [] [part]
  simp only [List.nil_append, List.length_nil, Nat.zero_add] at c2
  rcases c2 with ⟨g1, c2, c3⟩ | c2
  · rw [c2] at heq
    simp only [ne_eq, not_true_eq_false, if_false, hg] at heq
    cases h15 : f' 15 with
    | true =>
      have ho := openS_no (s := g1.y) (n := h1.y.c.n) (q := h1.y.c.key) (hw := h1.y.h) (p := payload) c3.okg (by omega) (c1.has b5) (c3.keyg.trans h15) (by rw [nd_pre c1.pre b5]; exact b7 (a3.key.trans h15)) c3.ne
      exact ⟨A2, _, _, B1, writeC_ok hs he hpay a1 b1, a2.trans b2, c1.le (by omega), a4, by show h1.at_ + 1 = _; rw [a5], a6, .inr (by rw [heq]; simp [openedC, ho])⟩
    | false =>
      have hpy := b6 (a3.key.trans h15)
      subst hpy
      obtain ⟨B2, h', d1, d2, d3, d4⟩ := openS_ap c1.ok c3.okg (by omega) (c1.has b5) (c3.keyg.trans h15) (by have := (a2.trans (b2.trans c1)).len; rw [(a2.trans (b2.trans c1)).limit]; omega)
      have g12 := c1.trans d2
      have okg := c3.okg.grow d2
      refine ⟨A2, _, _, B2, writeC_ok hs he hpay a1 b1, a2.trans b2, g12.le (by omega), a4, by show h1.at_ + 1 = _; rw [a5], a6, .inl ⟨{ g1 with y := ⟨g1.y.ck, h', g1.y.c⟩, at_ := g1.at_ + 1 }, by rw [heq]; simp [openedC, d1], ⟨?_, c3.nx, ?_, b3.grow g12, ⟨okg.ck, d3, okg.key, okg.n0, by have := okg.n1; show g1.y.c.n ≤ _; omega⟩, ?_, c3.keyg, fun e => (c3.wE e).grow d2, fun e => (c3.wS e).grow d2, fun e => (c3.rE e).grow d2, fun e => (c3.rS e).grow d2⟩, rfl⟩⟩
      · show g1.at_ + 1 = h1.at_ + 1
        rw [c3.at_]
      · show h' ≠ y.h
        intro e
        rw [e, nd_pre g12.pre b3.h, b8] at d4
        injection d4 with _ _ q1
        exact c3.ne q1.symm
      · show y.c.has = _
        rw [b4, a3.key]
  · rw [c2] at heq
    exact ⟨A2, _, _, B1, writeC_ok hs he hpay a1 b1, a2.trans b2, c1.le (by omega), a4, by show h1.at_ + 1 = _; rw [a5], a6, .inr (by rw [heq]; simp)⟩
/-- A message between two sides in step that have another first psk. -/
theorem msg_pa {A : Ar} {f f' : Nat → Bool} {w r : Nat} {Sw Sr e payload : Int} {pw pr : List Int} {p : Pat} {h g : Hs} {k : Int} (hwr : (w = 0 ∧ r = 1) ∨ (w = 1 ∧ r = 0)) (hA : ArOk A) (P : Pair A f w r Sw Sr h g k) (hk : 0 ≤ k) (hk2 : k + (toks p h.at_).length + 1 < 999)
    (hs : sendsP p w h.at_ = true) (hr : sendsP p r h.at_ = false) (hl : ∀ t ∈ toks p h.at_, 1 ≤ t ∧ t ≤ 7) (hv : msgV w (toks p h.at_) f = (0, f')) (hm : f 14 = modeP p) (h0 : h.nx = 0) (hn : h.nx + cnt7 (toks p h.at_) ≤ pw.length) (hpl : pw.length = pr.length) (hne : pw.getD 0 0 ≠ pr.getD 0 0) (hp : ∀ x ∈ pw, has A.l x = true) (hp' : ∀ x ∈ pr, has A.l x = true)
    (he0 : e ≠ 0) (he : has A.l e = true) (hpay : has A.l payload = true) (hS : has A.l Sw = true) (hSr : has A.l Sr = true) (room : A.l.length + (8 * (toks p h.at_).length + 4) ≤ A.limit) :
    ∃ A' h' msg B', writeC A w Sw pw p h e payload = (A', h', msg, 0) ∧ Grow A A' (4 * (toks p h.at_).length + 2) ∧ Grow A' B' (4 * (toks p h.at_).length + 2) ∧ f' 14 = modeP p ∧ h'.at_ = h.at_ + 1 ∧ h'.nx = h.nx + cnt7 (toks p h.at_) ∧
      ((∃ g', readC A' r Sr pr p g msg = (B', g', payload, 0) ∧ Pair B' f' w r Sw Sr h' g' (k + (toks p h.at_).length + 1) ∧ cnt7 (toks p h.at_) = 0) ∨ readC A' r Sr pr p g msg = (B', Hs.zero, 0, 7)) := by
  obtain ⟨A1, h1, parts, a1, a2, a3, a4, a5, a6, a7, a8, a9⟩ := toks_pa (Sw := Sw) (Sr := Sr) (pw := pw) (pr := pr) hwr he0 hpl hne (toks p h.at_) [] hA P hk (by omega) hl hv hm h0 hn hp hp' he hS hSr (by omega)
  simp only [List.nil_append] at a1
  obtain ⟨A2, y, part, b1, b2, b3, b4, b5, b6, b7, b8⟩ := seal_all a2.ok a3.ok (by omega) (a2.has hpay) (by have := a2.len; rw [a2.limit]; omega)
  have hlen : ((parts ++ [part]).length : Int) = partsC (toks p g.at_) := by rw [P.at_, ← a8]; simp
  have hall : ∀ x ∈ parts ++ [part], has A2.l x = true := fun x hx => by
    rcases List.mem_append.1 hx with hx | hx
    · exact b2.has (a7 x hx)
    · rw [List.mem_singleton.1 hx]; exact b5
  have hg : (parts ++ [part]).getD parts.length 0 = part := by simp [List.getD_eq_getElem?_getD]
  have heq := readC_eq (A := A2) (Sr := Sr) (psks := pr) (msg := parts ++ [part]) (by rw [P.at_]; exact sends_lt hs) (by rw [P.at_]; exact hr) hall hlen
  rw [P.at_] at heq
  obtain ⟨B1, c1, c2⟩ := a9 A2 _ b2 (by have := (a2.trans b2).len; rw [(a2.trans b2).limit]; omega) [] [part]
  simp only [List.nil_append, List.length_nil, Nat.zero_add] at c2
  rcases c2 with ⟨g1, c2, c3⟩ | c2
  · rw [c2] at heq
    simp only [ne_eq, not_true_eq_false, if_false, hg] at heq
    rcases c3 with ⟨c3, h7⟩ | ⟨c3, h15⟩
    · have ho := (b8 B1 c1.ok c1.pre).2
      refine ⟨A2, _, _, B1, writeC_ok hs he hpay a1 b1, a2.trans b2, c1.le (by omega), a4, by show h1.at_ + 1 = _; rw [a5], a6, .inl ⟨{ g1 with y := y, at_ := g1.at_ + 1 }, by rw [heq]; simp [openedC, c3.y, ho], ⟨?_, c3.nx, rfl, b3.grow c1, ?_, c3.wE, c3.wS, c3.rE, c3.rS⟩, h7⟩⟩
      · show g1.at_ + 1 = h1.at_ + 1
        rw [c3.at_]
      · show y.c.has = _
        rw [b4, a3.key]
    · have ho := openS_no (s := g1.y) (n := h1.y.c.n) (q := h1.y.c.key) (hw := h1.y.h) (p := payload) c3.okg (by omega) (c1.has b5) (c3.keyg.trans h15) (by rw [nd_pre c1.pre b5]; exact b7 (a3.key.trans h15)) c3.ne
      exact ⟨A2, _, _, B1, writeC_ok hs he hpay a1 b1, a2.trans b2, c1.le (by omega), a4, by show h1.at_ + 1 = _; rw [a5], a6, .inr (by rw [heq]; simp [openedC, ho])⟩
  · rw [c2] at heq
    exact ⟨A2, _, _, B1, writeC_ok hs he hpay a1 b1, a2.trans b2, c1.le (by omega), a4, by show h1.at_ + 1 = _; rw [a5], a6, .inr (by rw [heq]; simp)⟩
/-- Ahead of the n-th message, of two sides that will not come to the end; pw, pr are their psks. -/
def InvO (p : Pat) (S0 S1 : Int) (q0 q1 : List Int) (n : Nat) (A : Ar) (h0 h1 : Hs) : Prop :=
  ∃ f last j fe, ArOk A ∧ ((Pair A f 0 1 S0 S1 h0 h1 (13 * n) ∧ h0.nx = 0 ∧ q0.getD 0 0 ≠ q1.getD 0 0 ∧ 1 ≤ q0.length) ∨ (Apart A f 0 1 S0 S1 h0 h1 (13 * n) ∧ (f 15 = true → n = 0))) ∧ h0.at_ = n ∧ 0 ≤ h0.nx ∧ h0.nx + cntM (p.msgs.drop n) = q0.length ∧ q0.length = q1.length ∧ (∀ x ∈ q0, has A.l x = true) ∧ (∀ x ∈ q1, has A.l x = true) ∧ has A.l S0 = true ∧ has A.l S1 = true ∧ f 14 = modeP p ∧ roundsV n last (p.msgs.drop n) f = (0, j, fe) ∧ endV p fe = 0 ∧ A.l.length + (100 * (p.msgs.drop n).length + 10) ≤ A.limit
theorem InvO.done {p : Pat} {S0 S1 : Int} {q0 q1 : List Int} {n : Nat} {A : Ar} {h0 h1 : Hs} (I : InvO p S0 S1 q0 q1 n A h0 h1) (hr : rightP p = true) (hn : p.msgs.length = n) : False := by
  obtain ⟨f, last, j, fe, hA, P, i1, i2, i3, i4, i5, i6, i7, i8, i9, i10, i11, i12⟩ := I
  have hd : p.msgs.drop n = [] := by rw [← hn, List.drop_length]
  rw [hd] at i3 i10
  simp only [roundsV, Prod.mk.injEq] at i10
  obtain ⟨-, -, rfl⟩ := i10
  rcases P with ⟨-, h1, -, h2⟩ | ⟨-, h1⟩
  · simp only [cntM] at i3; omega
  · unfold endV at i11
    split at i11
    · cases i11
    · rename_i h
      obtain ⟨-, -, -, q1, -⟩ := rightP_facts hr
      have := h1 (by simpa using h)
      omega
theorem InvO.facts {p : Pat} {S0 S1 : Int} {q0 q1 : List Int} {n : Nat} {A : Ar} {h0 h1 : Hs} (I : InvO p S0 S1 q0 q1 n A h0 h1) (hn : n ≤ 6) : ArOk A ∧ h0.at_ = n ∧ h1.at_ = n ∧ h1.nx = h0.nx ∧ 0 ≤ h0.nx ∧ h0.nx + cntM (p.msgs.drop n) ≤ q0.length ∧ U64 h0.y.c.n ∧ U64 h1.y.c.n := by
  obtain ⟨f, last, j, fe, hA, P, i1, i2, i3, -⟩ := I
  have key : ∀ {y : Sy}, SyOk A y (13 * n) → U64 y.c.n := fun h => by
    have := h.n0
    have := h.n1
    constructor <;> omega
  rcases P with ⟨P, -⟩ | ⟨P, -⟩
  · exact ⟨hA, i1, by rw [P.at_, i1], P.nx, i2, by omega, key P.ok, by rw [P.y]; exact key P.ok⟩
  · exact ⟨hA, i1, by rw [P.at_, i1], P.nx, i2, by omega, key P.ok, key P.okg⟩
theorem InvO.step {p : Pat} {S0 S1 e payload : Int} {q0 q1 : List Int} {n : Nat} {A : Ar} {h0 h1 : Hs} {m : Msg} (I : InvO p S0 S1 q0 q1 n A h0 h1) (hr : rightP p = true) (hm : p.msgs[n]? = some m) (he0 : e ≠ 0) (he : has A.l e = true) (hp : has A.l payload = true) :
    (m.frm = 0 → ∃ A' B' g0 msg g1 x no, writeC A 0 S0 q0 p h0 e payload = (A', g0, msg, 0) ∧ readC A' 1 S1 q1 p h1 msg = (B', g1, x, no) ∧ Grow A B' 100 ∧ ((no = 7 ∧ x = 0) ∨ (no = 0 ∧ InvO p S0 S1 q0 q1 (n + 1) B' g0 g1))) ∧
    (m.frm = 1 → ∃ A' B' g0 msg g1 x no, writeC A 1 S1 q1 p h1 e payload = (A', g1, msg, 0) ∧ readC A' 0 S0 q0 p h0 msg = (B', g0, x, no) ∧ Grow A B' 100 ∧ ((no = 7 ∧ x = 0) ∨ (no = 0 ∧ InvO p S0 S1 q0 q1 (n + 1) B' g0 g1))) := by
  obtain ⟨f, last, j, fe, hA, P, i1, i2, i3, i4, i5, i6, i7, i8, i9, i10, i11, i12⟩ := I
  obtain ⟨-, -, -, -, hlen, hw⟩ := rightP_facts hr
  obtain ⟨m1, m2, m3⟩ := wrongM_facts (hw m (List.mem_of_getElem? hm))
  have hn := idx_lt hm
  have hd : p.msgs.drop n = m :: p.msgs.drop (n + 1) := drop_at hm
  rw [hd] at i3 i10 i12
  simp only [cntM, List.length_cons] at i3 i12
  obtain ⟨f', v1, v2⟩ := rounds_step i10
  have ht := toks_at hm
  have hc := cntM_pos (p.msgs.drop (n + 1))
  have h7 := cnt7_pos m.t
  refine ⟨fun h => ?_, fun h => ?_⟩
  · rw [h] at v1 v2
    have s1 : sendsP p (0 : Nat) h0.at_ = true := by rw [i1, sends_at hm, h]; rfl
    have s2 : sendsP p (1 : Nat) h0.at_ = false := by rw [i1, sends_at hm, h]; rfl
    rcases P with ⟨P, p1, p2, p3⟩ | ⟨P, p1⟩
    · obtain ⟨A', h', msg, B', a1, a2, a3, a4, a5, a6, a7⟩ := msg_pa (w := 0) (r := 1) (Sw := S0) (Sr := S1) (pw := q0) (pr := q1) (p := p) (f' := f') (.inl ⟨rfl, rfl⟩) hA P (by omega) (by rw [i1, ht]; omega) s1 s2 (by rw [i1, ht]; exact m3) (by rw [i1, ht]; exact v1) i9 p1 (by rw [i1, ht]; omega) i4 p2 i5 i6 he0 he hp i7 i8 (by rw [i1, ht]; omega)
      rw [i1, ht] at a2 a3 a6 a7
      have gr := (a2.trans a3).le (d := 100) (by omega)
      rcases a7 with ⟨g', a7, a8, a9⟩ | a7
      · exact ⟨A', B', h', msg, g', payload, 0, a1, a7, gr, .inr ⟨rfl, f', 0, j, fe, gr.ok, .inl ⟨⟨a8.at_, a8.nx, a8.y, a8.ok.le (by omega), a8.key, a8.wE, a8.wS, a8.rE, a8.rS⟩, by omega, p2, p3⟩, by rw [a5, i1]; omega, by omega, by omega, i4, fun x hx => gr.has (i5 x hx), fun x hx => gr.has (i6 x hx), gr.has i7, gr.has i8, a4, v2, i11, by have := gr.len; rw [gr.limit]; omega⟩⟩
      · exact ⟨A', B', h', msg, Hs.zero, 0, 7, a1, a7, gr, .inl ⟨rfl, rfl⟩⟩
    · obtain ⟨A', h', msg, B', a1, a2, a3, a4, a5, a6, a7⟩ := msg_ap (w := 0) (r := 1) (Sw := S0) (Sr := S1) (pw := q0) (pr := q1) (p := p) (f' := f') (.inl ⟨rfl, rfl⟩) hA P (by omega) (by rw [i1, ht]; omega) s1 s2 (by rw [i1, ht]; exact m3) (by rw [i1, ht]; exact v1) i9 i2 (by rw [i1, ht]; omega) i4 i5 i6 he0 he hp i7 i8 (by rw [i1, ht]; omega)
      rw [i1, ht] at a2 a3 a6 a7
      have gr := (a2.trans a3).le (d := 100) (by omega)
      rcases a7 with ⟨g', a7, a8, a9⟩ | a7
      · exact ⟨A', B', h', msg, g', payload, 0, a1, a7, gr, .inr ⟨rfl, f', 0, j, fe, gr.ok, .inr ⟨⟨a8.at_, a8.nx, a8.ne, a8.ok.le (by omega), a8.okg.le (by omega), a8.key, a8.keyg, a8.wE, a8.wS, a8.rE, a8.rS⟩, fun e => by rw [a9] at e; cases e⟩, by rw [a5, i1]; omega, by omega, by omega, i4, fun x hx => gr.has (i5 x hx), fun x hx => gr.has (i6 x hx), gr.has i7, gr.has i8, a4, v2, i11, by have := gr.len; rw [gr.limit]; omega⟩⟩
      · exact ⟨A', B', h', msg, Hs.zero, 0, 7, a1, a7, gr, .inl ⟨rfl, rfl⟩⟩
  · rw [h] at v1 v2
    rcases P with ⟨P, p1, p2, p3⟩ | ⟨P, p1⟩
    · have Q := P.sym
      have e1 : h1.at_ = n := by rw [P.at_, i1]
      have e2 : h1.nx = h0.nx := P.nx
      have s1 : sendsP p (1 : Nat) h1.at_ = true := by rw [e1, sends_at hm, h]; rfl
      have s2 : sendsP p (0 : Nat) h1.at_ = false := by rw [e1, sends_at hm, h]; rfl
      obtain ⟨A', h', msg, B', a1, a2, a3, a4, a5, a6, a7⟩ := msg_pa (w := 1) (r := 0) (Sw := S1) (Sr := S0) (pw := q1) (pr := q0) (p := p) (f' := f') (.inr ⟨rfl, rfl⟩) hA Q (by omega) (by rw [e1, ht]; omega) s1 s2 (by rw [e1, ht]; exact m3) (by rw [e1, ht]; exact v1) i9 (by omega) (by rw [e1, ht]; omega) i4.symm (Ne.symm p2) i6 i5 he0 he hp i8 i7 (by rw [e1, ht]; omega)
      rw [e1, ht] at a2 a3 a6 a7
      have gr := (a2.trans a3).le (d := 100) (by omega)
      rcases a7 with ⟨g', a7, a8, a9⟩ | a7
      · have b8 := a8.sym
        have e3 : g'.nx = h'.nx := a8.nx
        exact ⟨A', B', g', msg, h', payload, 0, a1, a7, gr, .inr ⟨rfl, f', 1, j, fe, gr.ok, .inl ⟨⟨b8.at_, b8.nx, b8.y, b8.ok.le (by omega), b8.key, b8.wE, b8.wS, b8.rE, b8.rS⟩, by omega, p2, p3⟩, by rw [a8.at_, a5, e1]; omega, by omega, by omega, i4, fun x hx => gr.has (i5 x hx), fun x hx => gr.has (i6 x hx), gr.has i7, gr.has i8, a4, v2, i11, by have := gr.len; rw [gr.limit]; omega⟩⟩
      · exact ⟨A', B', Hs.zero, msg, h', 0, 7, a1, a7, gr, .inl ⟨rfl, rfl⟩⟩
    · have Q := P.sym
      have e1 : h1.at_ = n := by rw [P.at_, i1]
      have e2 : h1.nx = h0.nx := P.nx
      have s1 : sendsP p (1 : Nat) h1.at_ = true := by rw [e1, sends_at hm, h]; rfl
      have s2 : sendsP p (0 : Nat) h1.at_ = false := by rw [e1, sends_at hm, h]; rfl
      obtain ⟨A', h', msg, B', a1, a2, a3, a4, a5, a6, a7⟩ := msg_ap (w := 1) (r := 0) (Sw := S1) (Sr := S0) (pw := q1) (pr := q0) (p := p) (f' := f') (.inr ⟨rfl, rfl⟩) hA Q (by omega) (by rw [e1, ht]; omega) s1 s2 (by rw [e1, ht]; exact m3) (by rw [e1, ht]; exact v1) i9 (by omega) (by rw [e1, ht]; omega) i4.symm i6 i5 he0 he hp i8 i7 (by rw [e1, ht]; omega)
      rw [e1, ht] at a2 a3 a6 a7
      have gr := (a2.trans a3).le (d := 100) (by omega)
      rcases a7 with ⟨g', a7, a8, a9⟩ | a7
      · have b8 := a8.sym
        have e3 : g'.nx = h'.nx := a8.nx
        exact ⟨A', B', g', msg, h', payload, 0, a1, a7, gr, .inr ⟨rfl, f', 1, j, fe, gr.ok, .inr ⟨⟨b8.at_, b8.nx, b8.ne, b8.ok.le (by omega), b8.okg.le (by omega), b8.key, b8.keyg, b8.wE, b8.wS, b8.rE, b8.rS⟩, fun e => by rw [a9] at e; cases e⟩, by rw [a8.at_, a5, e1]; omega, by omega, by omega, i4, fun x hx => gr.has (i5 x hx), fun x hx => gr.has (i6 x hx), gr.has i7, gr.has i8, a4, v2, i11, by have := gr.len; rw [gr.limit]; omega⟩⟩
      · exact ⟨A', B', Hs.zero, msg, h', 0, 7, a1, a7, gr, .inl ⟨rfl, rfl⟩⟩
end Go.Proofs.YtikimmgileffgaaGreatDoor
end
/- Two sides with another prologue, or another psk: the beginning (layer 12). No program in sight. -/
section
namespace Go.Proofs.YtikimmgileffgaaGreatDoor
open Go.RowKit

theorem Hashed.trans {A : Ar} {a b : Int} {m : Nat} (h : Hashed A a m b) : ∀ {n : Nat} {p : Int}, Hashed A b n p → Hashed A a (m + n) p
  | 0, p, k => by rw [show p = b from k]; exact h
  | n + 1, p, ⟨c, x, k1, k2, k3, k4⟩ => ⟨c, x, Hashed.trans h k1, k2, k3, k4⟩
theorem openK_h {A : Ar} {s : Sy} {x k : Int} (md eph : Bool) (hA : ArOk A) (hs : SyOk A s k) (hk : 0 ≤ k) (hx : has A.l x = true) (room : A.l.length + 3 ≤ A.limit) :
    ∃ A' y, openY A s md x eph = (A', y, 0) ∧ Grow A A' 3 ∧ SyOk A' y k ∧ y.c.has = (s.c.has || (eph && md)) ∧ nd A'.l y.h = ⟨5, 0, s.h, x, 0⟩ := by
  have key : ∀ C : Ar, openY C s md x eph = openY C s (eph && md) x true := fun C => by cases eph <;> cases md <;> simp [openY]
  obtain ⟨A', y, h1, h2, h3, h4, h5⟩ := open_h (eph && md) hA hs hk hx room
  exact ⟨A', y, by rw [key, h1], h2, h3, h4, h5⟩
theorem told_h {md : Bool} {who role kS kE kRS kRE : Int} {q : Int → Int} : ∀ (l : List Int) {A : Ar} {s : Sy} {k : Int}, ArOk A → SyOk A s k → 0 ≤ k → (∀ t ∈ l, has A.l (q t) = true) → (∀ t ∈ l, ∀ B, ArOk B → A.l <+: B.l → publicC B role kS kE kRS kRE who t = (B, q t, 0)) → A.l.length + 3 * l.length ≤ A.limit →
    ∃ A' y, toldL md role kS kE kRS kRE who l (A, s, 0) = (A', y, 0) ∧ Grow A A' (3 * l.length) ∧ SyOk A' y k ∧ y.c.has = (s.c.has || (decide (1 ∈ l) && md)) ∧ Hashed A' s.h l.length y.h
  | [], A, s, k, hA, hs, hk, hq, hp, room => ⟨A, s, rfl, (Grow.refl hA).le (by omega), hs, by simp, rfl⟩
  | t :: l, A, s, k, hA, hs, hk, hq, hp, room => by
    simp only [List.length_cons] at room ⊢
    obtain ⟨A1, y1, a1, a2, a3, a4, a5⟩ := openK_h md (decide (t = 1)) hA hs hk (hq t (List.mem_cons_self ..)) (by omega)
    obtain ⟨A2, y2, b1, b2, b3, b4, b5⟩ := told_h (md := md) (who := who) (q := q) l a2.ok a3 hk (fun x hx => a2.has (hq x (List.mem_cons_of_mem _ hx))) (fun x hx B hB hl => hp x (List.mem_cons_of_mem _ hx) B hB (a2.pre.trans hl)) (a2.room (d := 3 * l.length) (by omega))
    refine ⟨A2, y2, ?_, (a2.trans b2).le (by omega), b3, ?_, ?_⟩
    · simp only [toldL, ne_eq, not_true_eq_false, if_false, toldY, hp t (List.mem_cons_self ..) A hA List.prefix_rfl, a1]; exact b1
    · rw [b4, a4]
      cases s.c.has <;> cases md <;> simp [eq_comm (a := (1 : Int))]
    · have h1 : Hashed A2 s.h 1 y1.h := ⟨s.h, _, rfl, (a2.trans b2).has hs.h, b2.has a3.h, by rw [nd_pre b2.pre a3.h]; exact a5⟩
      rw [Nat.add_comm l.length 1]
      exact h1.trans b5
/-- The keys that were told, as both sides have them. -/
theorem pubs2 {A : Ar} {p : Pat} {k0 k1 : Ks} (hr : rightP p = true) (K : Keys2 A k0 k1) :
    ((∀ t ∈ p.pre0, ∀ B, ArOk B → A.l <+: B.l → publicC B 0 (sel (needK p 0).s k0.s) (sel (needK p 0).e k0.e) (sel (needK p 0).rs k0.rs) (sel (needK p 0).re k0.re) 0 t = (B, if t = 1 then k1.re else k1.rs, 0)) ∧
    (∀ t ∈ p.pre1, ∀ B, ArOk B → A.l <+: B.l → publicC B 0 (sel (needK p 0).s k0.s) (sel (needK p 0).e k0.e) (sel (needK p 0).rs k0.rs) (sel (needK p 0).re k0.re) 1 t = (B, if t = 1 then k0.re else k0.rs, 0))) ∧
    (∀ t ∈ p.pre0, ∀ B, ArOk B → A.l <+: B.l → publicC B 1 (sel (needK p 1).s k1.s) (sel (needK p 1).e k1.e) (sel (needK p 1).rs k1.rs) (sel (needK p 1).re k1.re) 0 t = (B, if t = 1 then k1.re else k1.rs, 0)) ∧
    (∀ t ∈ p.pre1, ∀ B, ArOk B → A.l <+: B.l → publicC B 1 (sel (needK p 1).s k1.s) (sel (needK p 1).e k1.e) (sel (needK p 1).rs k1.rs) (sel (needK p 1).re k1.re) 1 t = (B, if t = 1 then k0.re else k0.rs, 0)) := by
  obtain ⟨-, r0, r1, -⟩ := rightP_facts hr
  obtain ⟨m0, n0⟩ := told12 r0
  obtain ⟨m1, n1⟩ := told12 r1
  refine ⟨⟨fun t ht B hB hl => ?_, fun t ht B hB hl => ?_⟩, fun t ht B hB hl => ?_, fun t ht B hB hl => ?_⟩
  · rcases m0 t ht with rfl | rfl
    · have : (needK p 0).e = true := by simp [needK, preOf, ht]
      simp [publicC, this, sel, pub_there hB (K.re1.pre hl)]
    · have : (needK p 0).s = true := needS_pre (by simpa [preOf] using ht)
      simp [publicC, this, sel, pub_there hB (K.rs1.pre hl)]
  · rcases m1 t ht with rfl | rfl
    · have : (needK p 0).re = true := by simp [needK, preOf, ht]
      simp [publicC, this, sel]
    · have : (needK p 0).rs = true := by simp [needK, preOf, ht]
      simp [publicC, this, sel]
  · rcases m0 t ht with rfl | rfl
    · have : (needK p 1).re = true := by simp [needK, preOf, ht]
      simp [publicC, this, sel]
    · have : (needK p 1).rs = true := by simp [needK, preOf, ht]
      simp [publicC, this, sel]
  · rcases m1 t ht with rfl | rfl
    · have : (needK p 1).e = true := by simp [needK, preOf, ht]
      simp [publicC, this, sel, pub_there hB (K.re0.pre hl)]
    · have : (needK p 1).s = true := needS_pre (by simpa [preOf] using ht)
      simp [publicC, this, sel, pub_there hB (K.rs0.pre hl)]
theorem toldK_h {A : Ar} {p : Pat} {k0 k1 k : Ks} {s : Sy} {role : Int} (hA : ArOk A) (hr : rightP p = true) (K : Keys2 A k0 k1) (hs : SyOk A s 0) (hk : (role = 0 ∧ k = k0) ∨ (role = 1 ∧ k = k1)) (room : A.l.length + 12 ≤ A.limit) :
    ∃ A' y, toldK p role k (A, s, 0) = (A', y, 0) ∧ Grow A A' 12 ∧ SyOk A' y 0 ∧ y.c.has = (s.c.has || (modeP p && (decide (1 ∈ p.pre0) || decide (1 ∈ p.pre1)))) ∧ Hashed A' s.h (p.pre0.length + p.pre1.length) y.h := by
  obtain ⟨-, r0, r1, -⟩ := rightP_facts hr
  obtain ⟨m0, n0⟩ := told12 r0
  obtain ⟨m1, n1⟩ := told12 r1
  obtain ⟨p0, p1⟩ : (∀ t ∈ p.pre0, ∀ B, ArOk B → A.l <+: B.l → publicC B role (sel (needK p role).s k.s) (sel (needK p role).e k.e) (sel (needK p role).rs k.rs) (sel (needK p role).re k.re) 0 t = (B, if t = 1 then k1.re else k1.rs, 0)) ∧
    (∀ t ∈ p.pre1, ∀ B, ArOk B → A.l <+: B.l → publicC B role (sel (needK p role).s k.s) (sel (needK p role).e k.e) (sel (needK p role).rs k.rs) (sel (needK p role).re k.re) 1 t = (B, if t = 1 then k0.re else k0.rs, 0)) := by
    rcases hk with ⟨rfl, rfl⟩ | ⟨rfl, rfl⟩
    · exact (pubs2 hr K).1
    · exact (pubs2 hr K).2
  obtain ⟨A1, y1, a1, a2, a3, a4, a5⟩ := told_h (md := modeP p) (who := 0) (q := fun t => if t = 1 then k1.re else k1.rs) p.pre0 hA hs (Int.le_refl 0) (fun t _ => by split; exact K.re1.hy; exact K.rs1.hy) p0 (by omega)
  obtain ⟨A2, y2, b1, b2, b3, b4, b5⟩ := told_h (md := modeP p) (who := 1) (q := fun t => if t = 1 then k0.re else k0.rs) p.pre1 a2.ok a3 (Int.le_refl 0) (fun t _ => by split; exact a2.has K.re0.hy; exact a2.has K.rs0.hy) (fun t ht B hB hl => p1 t ht B hB (a2.pre.trans hl)) (by have := a2.len; rw [a2.limit]; omega)
  refine ⟨A2, y2, ?_, (a2.trans b2).le (by omega), b3, ?_, (a5.grow b2).trans b5⟩
  · unfold toldK; simp only [a1, ne_eq, not_true_eq_false, if_false, b1]
  · rw [b4, a4]
    cases s.c.has <;> cases modeP p <;> simp
theorem begin_h {A : Ar} {name : List UInt8} {pro : Int} (hA : ArOk A) (hn : name.length ≤ 100) (hp : has A.l pro = true) (h0 : has A.l 0 = true) (room : A.l.length + (2 * name.length + 1) ≤ A.limit) :
    ∃ A' y t, beginS A name pro = (A', y, 0) ∧ Grow A A' (2 * name.length + 1) ∧ SyOk A' y 0 ∧ y.c.has = false ∧ nd A'.l y.h = ⟨5, 0, t, pro, 0⟩ := by
  obtain ⟨A1, t, a1, a2, a3, a4⟩ := name_all name (t := 0) hA h0 (by omega)
  obtain ⟨A2, h', b1, b2, b3, b4, b5⟩ := mixHash_all (s := ⟨t, t, Ci.zero⟩) (x := pro) a2.ok a3 (a2.has hp) (a2.room (d := 1) (by omega))
  refine ⟨A2, ⟨t, h', Ci.zero⟩, t, ?_, a2.trans b2, ⟨b2.has a3, b3, (fun e => by cases e), Int.le_refl _, Int.le_refl _⟩, rfl, b4⟩
  unfold beginS; rw [if_neg (by rw [hp]; simp; omega)]; simp [a1, b1]
theorem whyC_zero {p : Pat} {k : Ks} (h : whyC p k = 0) : (checkV p).2.2 = 0 ∧ (k.psks.length : Int) = cntM p.msgs := by
  unfold whyC at h
  split at h
  · rename_i h1; exact absurd h h1
  · rename_i h1
    split at h
    · cases h
    · rename_i h2; exact ⟨by simpa using h1, by simpa using h2⟩
/-- Both begin, with another prologue. -/
theorem start_ap {A : Ar} {p : Pat} {pro0 pro1 : Int} {k0 k1 : Ks} (hA : ArOk A) (K : Keys2 A k0 k1) (hpro : has A.l pro0 = true) (hpro1 : has A.l pro1 = true) (hne : pro1 ≠ pro0) (h : whyC p k0 = 0) (room : A.l.length + 106 ≤ A.limit) :
    ∃ A1 A' y z, startC A p 0 pro0 k0 = (A1, y, 0) ∧ startC A1 p 1 pro1 k1 = (A', z, 0) ∧ Grow A A1 53 ∧ Grow A1 A' 53 ∧ Apart A' (beginV p) 0 1 (sel (needK p 0).s k0.s) (sel (needK p 1).s k1.s) (hs0 p 0 k0 y) (hs0 p 1 k1 z) 0 := by
  obtain ⟨hc, hn⟩ := whyC_zero h
  obtain ⟨hr, hrd⟩ := checkV_right hc
  obtain ⟨hnm, -⟩ := rightP_facts hr
  obtain ⟨A1, s, t, a1, a2, a3, a4, a5⟩ := begin_h (name := p.name) hA (by omega) hpro (has_first hA) (by omega)
  obtain ⟨A2, y, b1, b2, b3, b4, b5⟩ := toldK_h (role := 0) a2.ok hr (K.grow a2) a3 (.inl ⟨rfl, rfl⟩) (by have := a2.len; rw [a2.limit]; omega)
  have gr := (a2.trans b2).le (d := 53) (by omega)
  have K2 := K.grow gr
  obtain ⟨A3, s', t', c1, c2, c3, c4, c5⟩ := begin_h (name := p.name) gr.ok (by omega) (gr.has hpro1) (has_first gr.ok) (by have := gr.len; rw [gr.limit]; omega)
  obtain ⟨A4, z, d1, d2, d3, d4, d5⟩ := toldK_h (role := 1) c2.ok hr (K2.grow c2) c3 (.inr ⟨rfl, rfl⟩) (by have := (gr.trans c2).len; rw [(gr.trans c2).limit]; omega)
  have gr2 := (c2.trans d2).le (d := 53) (by omega)
  have K4 := K2.grow gr2
  refine ⟨A2, A4, y, z, ?_, ?_, gr, gr2, ⟨rfl, rfl, ?_, b3.grow gr2, d3, ?_, ?_, fun hi => ?_, fun hi => ?_, fun hi => ?_, fun hi => ?_⟩⟩
  · rw [K.start0 hpro, if_neg (by simp [hc]), if_neg (by simp [hn]), a1]; exact b1
  · rw [K2.start1 (gr.has hpro1), if_neg (by simp [hc]), if_neg (by rw [← K.len]; simp [hn]), c1]; exact d1
  · show z.h ≠ y.h
    refine Hashed.ne (A := A4) (a := s.h) (b := s'.h) ?_ (b5.grow gr2) d5
    intro e
    have h1 := nd_pre d2.pre c3.h
    have h2 := nd_pre (b2.pre.trans gr2.pre) a3.h
    rw [c5, e, h2, a5] at h1
    injection h1 with _ _ _ h3
    exact hne h3.symm
  · show y.c.has = _
    rw [b4, a4]; simp [beginV]
  · show z.c.has = _
    rw [d4, c4]; simp [beginV]
  · have hi : (1 : Int) ∈ p.pre0 := by simpa [beginV] using hi
    have e1 : (needK p 0).e = true := by simp [needK, preOf, hi]
    have e2 : (needK p 1).re = true := by simp [needK, preOf, hi]
    show PubOf A4 (sel _ _) (sel _ _)
    rw [e1, e2]; exact K4.re1
  · have hi : (2 : Int) ∈ p.pre0 := by simpa [beginV] using hi
    have e1 : (needK p 0).s = true := needS_pre (by simpa [preOf] using hi)
    have e2 : (needK p 1).rs = true := by simp [needK, preOf, hi]
    show PubOf A4 (sel _ _) (sel _ _)
    rw [e1, e2]; exact K4.rs1
  · have hi : (1 : Int) ∈ p.pre1 := by simpa [beginV] using hi
    have e1 : (needK p 1).e = true := by simp [needK, preOf, hi]
    have e2 : (needK p 0).re = true := by simp [needK, preOf, hi]
    show PubOf A4 (sel _ _) (sel _ _)
    rw [e1, e2]; exact K4.re0
  · have hi : (2 : Int) ∈ p.pre1 := by simpa [beginV] using hi
    have e1 : (needK p 1).s = true := needS_pre (by simpa [preOf] using hi)
    have e2 : (needK p 0).rs = true := by simp [needK, preOf, hi]
    show PubOf A4 (sel _ _) (sel _ _)
    rw [e1, e2]; exact K4.rs0
theorem sel_has {A : Ar} (hA : ArOk A) (b : Bool) {x : Int} (hx : has A.l x = true) : has A.l (sel b x) = true := by
  unfold sel; split
  · exact hx
  · exact has_first hA
/-- The invariant, where prologues are other ones. -/
theorem InvO.pro {A A' : Ar} {p : Pat} {k0 k1 : Ks} {y z : Sy} {c : Nat} (K : Keys2 A k0 k1) (h : whyC p k0 = 0) (hpe : k1.psks = k0.psks) (gr : Grow A A' c) (P : Apart A' (beginV p) 0 1 (sel (needK p 0).s k0.s) (sel (needK p 1).s k1.s) (hs0 p 0 k0 y) (hs0 p 1 k1 z) 0) (room : A.l.length + (c + 610) ≤ A.limit) :
    rightP p = true ∧ InvO p (sel (needK p 0).s k0.s) (sel (needK p 1).s k1.s) k0.psks k1.psks 0 A' (hs0 p 0 k0 y) (hs0 p 1 k1 z) := by
  obtain ⟨hc, hn⟩ := whyC_zero h
  obtain ⟨hr, j, fe, hv, he⟩ := checkV_right hc
  obtain ⟨-, -, -, -, hlen, hw⟩ := rightP_facts hr
  refine ⟨hr, beginV p, 0, j, fe, gr.ok, .inr ⟨P, fun _ => rfl⟩, rfl, Int.le_refl _, ?_, by rw [hpe], fun x hx => gr.has (K.p0 x hx), fun x hx => gr.has (K.p1 x hx), sel_has gr.ok _ (gr.has K.rs1.hx), sel_has gr.ok _ (gr.has K.rs0.hx), by simp [beginV], hv, he, ?_⟩
  · rw [List.drop_zero, ← hn]; show (0 : Int) + _ = _; omega
  · rw [List.drop_zero, gr.limit]; have := gr.len; omega
/-- The invariant, where the first psks are other ones. -/
theorem InvO.psk {A A' : Ar} {p : Pat} {k0 k1 : Ks} {y : Sy} {c : Nat} (K : Keys2 A k0 k1) (h : whyC p k0 = 0) (hne : k0.psks.getD 0 0 ≠ k1.psks.getD 0 0) (hl : 1 ≤ k0.psks.length) (gr : Grow A A' c) (P : Pair A' (beginV p) 0 1 (sel (needK p 0).s k0.s) (sel (needK p 1).s k1.s) (hs0 p 0 k0 y) (hs0 p 1 k1 y) 0) (room : A.l.length + (c + 610) ≤ A.limit) :
    rightP p = true ∧ InvO p (sel (needK p 0).s k0.s) (sel (needK p 1).s k1.s) k0.psks k1.psks 0 A' (hs0 p 0 k0 y) (hs0 p 1 k1 y) := by
  obtain ⟨hc, hn⟩ := whyC_zero h
  obtain ⟨hr, j, fe, hv, he⟩ := checkV_right hc
  obtain ⟨-, -, -, -, hlen, hw⟩ := rightP_facts hr
  refine ⟨hr, beginV p, 0, j, fe, gr.ok, .inl ⟨P, rfl, hne, hl⟩, rfl, Int.le_refl _, ?_, K.len, fun x hx => gr.has (K.p0 x hx), fun x hx => gr.has (K.p1 x hx), sel_has gr.ok _ (gr.has K.rs1.hx), sel_has gr.ok _ (gr.has K.rs0.hx), by simp [beginV], hv, he, ?_⟩
  · rw [List.drop_zero, ← hn]; show (0 : Int) + _ = _; omega
  · rw [List.drop_zero, gr.limit]; have := gr.len; omega
end Go.Proofs.YtikimmgileffgaaGreatDoor
end
