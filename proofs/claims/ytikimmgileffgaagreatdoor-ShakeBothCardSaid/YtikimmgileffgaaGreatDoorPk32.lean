/- Packed for this claim by packm.py: Sync10, Sync11, L12b, SB. -/
import Derived.Test.YtikimmgileffgaaGreatDoorPk31
import Derived.Test.YtikimmgileffgaaGreatDoorPk28
import Derived.Test.YtikimmgileffgaaGreatDoorPk22
import Derived.Test.YtikimmgileffgaaGreatDoorPk03
/- Two sides that have another prologue, or another psk: whole messages, and the beginning (layer 12). No program in sight. -/
section
namespace Go.Proofs.YtikimmgileffgaaGreatDoor
open Go.RowKit

theorem writeC_ok {A A1 A2 : Ar} {w : Nat} {Sw e payload part : Int} {psks parts : List Int} {p : Pat} {h h1 : Hs} {y : Sy} (hs : sendsP p w h.at_ = true) (he : has A.l e = true) (hpay : has A.l payload = true) (a1 : writeL w Sw e psks (modeP p) (toks p h.at_) A h [] = (A1, h1, parts, 0)) (b1 : sealS A1 h1.y payload = (A2, y, part, 0)) :
    writeC A w Sw psks p h e payload = (A2, { h1 with y := y, at_ := h1.at_ + 1 }, parts ++ [part], 0) := by
  simp [writeC, hs, he, hpay, a1, sealedC, b1]
theorem readC_eq {A : Ar} {r : Nat} {Sr : Int} {psks msg : List Int} {p : Pat} {g : Hs} (hat : ¬ (p.msgs.length : Int) ≤ g.at_) (hr : sendsP p r g.at_ = false) (hall : ∀ x ∈ msg, has A.l x = true) (hlen : (msg.length : Int) = partsC (toks p g.at_)) :
    readC A r Sr psks p g msg =
      let r := readL r Sr psks (modeP p) msg (toks p g.at_) A g 0
      if r.2.2.2 ≠ 0 then (r.1, Hs.zero, 0, r.2.2.2) else
      let q := openedC r.1 r.2.1 (msg.getD r.2.2.1 0)
      if q.2.2.2 ≠ 0 then (q.1, Hs.zero, 0, q.2.2.2) else (q.1, { q.2.1 with at_ := q.2.1.at_ + 1 }, q.2.2.1, 0) := by
  have h1 : (msg.all fun x => has A.l x) = true := List.all_eq_true.2 hall
  unfold readC
  rw [if_neg (by rw [hr]; simp [hat]), if_neg (by rw [h1]; decide), if_neg (by simp [hlen])]
theorem sends_lt {p : Pat} {w : Int} {n : Int} (hs : sendsP p w n = true) : ¬ (p.msgs.length : Int) ≤ n := by
  obtain ⟨q, m, e1, e2, -⟩ := sendsP_facts hs
  have := idx_lt e2
  omega
/-- A message between two sides whose hashes are other ones. -/
theorem msg_ap {A : Ar} {f f' : Nat → Bool} {w r : Nat} {Sw Sr e payload : Int} {pw pr : List Int} {p : Pat} {h g : Hs} {k : Int} (hwr : (w = 0 ∧ r = 1) ∨ (w = 1 ∧ r = 0)) (hA : ArOk A) (P : Apart A f w r Sw Sr h g k) (hk : 0 ≤ k) (hk2 : k + (toks p h.at_).length + 1 < 999)
    (hs : sendsP p w h.at_ = true) (hr : sendsP p r h.at_ = false) (hl : ∀ t ∈ toks p h.at_, 1 ≤ t ∧ t ≤ 7) (hv : msgV w (toks p h.at_) f = (0, f')) (hm : f 14 = modeP p) (h0 : 0 ≤ h.nx) (hn : h.nx + cnt7 (toks p h.at_) ≤ pw.length) (hpl : pw.length = pr.length) (hp : ∀ x ∈ pw, has A.l x = true) (hp' : ∀ x ∈ pr, has A.l x = true)
    (he0 : e ≠ 0) (he : has A.l e = true) (hpay : has A.l payload = true) (hS : has A.l Sw = true) (hSr : has A.l Sr = true) (room : A.l.length + (8 * (toks p h.at_).length + 4) ≤ A.limit) :
    ∃ A' h' msg B', writeC A w Sw pw p h e payload = (A', h', msg, 0) ∧ Grow A A' (4 * (toks p h.at_).length + 2) ∧ Grow A' B' (4 * (toks p h.at_).length + 2) ∧ f' 14 = modeP p ∧ h'.at_ = h.at_ + 1 ∧ h'.nx = h.nx + cnt7 (toks p h.at_) ∧
      ((∃ g', readC A' r Sr pr p g msg = (B', g', payload, 0) ∧ Apart B' f' w r Sw Sr h' g' (k + (toks p h.at_).length + 1) ∧ f' 15 = false) ∨ readC A' r Sr pr p g msg = (B', Hs.zero, 0, 7)) := by
  obtain ⟨A1, h1, parts, a1, a2, a3, a4, -, a5, a6, a7, a8, a9⟩ := toks_ap (Sw := Sw) (Sr := Sr) (pw := pw) (pr := pr) hwr he0 hpl (toks p h.at_) [] hA P.wr hk (by omega) hl hv hm h0 hn hp hp' he hS hSr (by omega)
  simp only [List.nil_append] at a1
  obtain ⟨A2, y, part, b1, b2, b3, b4, b5, b6, b7, b8⟩ := seal_h a2.ok a3.ok (by omega) (a2.has hpay) (by have := a2.len; rw [a2.limit]; omega)
  have hlen : ((parts ++ [part]).length : Int) = partsC (toks p g.at_) := by rw [P.at_, ← a8]; simp
  have hall : ∀ x ∈ parts ++ [part], has A2.l x = true := fun x hx => by
    rcases List.mem_append.1 hx with hx | hx
    · exact b2.has (a7 x hx)
    · rw [List.mem_singleton.1 hx]; exact b5
  have hg : (parts ++ [part]).getD parts.length 0 = part := by simp [List.getD_eq_getElem?_getD]
  have heq := readC_eq (A := A2) (Sr := Sr) (psks := pr) (msg := parts ++ [part]) (by rw [P.at_]; exact sends_lt hs) (by rw [P.at_]; exact hr) hall hlen
  rw [P.at_] at heq
  obtain ⟨B1, c1, c2⟩ := a9 A2 _ g b2 (P.grow (a2.trans b2)) (by have := (a2.trans b2).len; rw [(a2.trans b2).limit]; omega) [] [part]
  simp only [List.nil_append, List.length_nil, Nat.zero_add] at c2
  rcases c2 with ⟨g1, c2, c3⟩ | c2
  · rw [c2] at heq
    simp only [ne_eq, not_true_eq_false, if_false, hg] at heq
    cases h15 : f' 15 with
    | true =>
      have ho := openS_no (s := g1.y) (n := h1.y.c.n) (q := h1.y.c.key) (hw := h1.y.h) (p := payload) c3.okg (by omega) (c1.has b5) (c3.keyg.trans h15) (by rw [nd_pre c1.pre b5]; exact b7 (a3.key.trans h15)) c3.ne
      exact ⟨A2, _, _, B1, writeC_ok hs he hpay a1 b1, a2.trans b2, c1.le (by omega), a4, by show h1.at_ + 1 = _; rw [a5], a6, .inr (by rw [heq]; simp [openedC, ho])⟩
    | false =>
      have hpy := b6 (a3.key.trans h15)
      subst hpy
      obtain ⟨B2, h', d1, d2, d3, d4⟩ := openS_ap c1.ok c3.okg (by omega) (c1.has b5) (c3.keyg.trans h15) (by have := (a2.trans (b2.trans c1)).len; rw [(a2.trans (b2.trans c1)).limit]; omega)
      have g12 := c1.trans d2
      have okg := c3.okg.grow d2
      refine ⟨A2, _, _, B2, writeC_ok hs he hpay a1 b1, a2.trans b2, g12.le (by omega), a4, by show h1.at_ + 1 = _; rw [a5], a6, .inl ⟨{ g1 with y := ⟨g1.y.ck, h', g1.y.c⟩, at_ := g1.at_ + 1 }, by rw [heq]; simp [openedC, d1], ⟨?_, c3.nx, ?_, b3.grow g12, ⟨okg.ck, d3, okg.key, okg.n0, by have := okg.n1; show g1.y.c.n ≤ _; omega⟩, ?_, c3.keyg, fun e => (c3.wE e).grow d2, fun e => (c3.wS e).grow d2, fun e => (c3.rE e).grow d2, fun e => (c3.rS e).grow d2⟩, rfl⟩⟩
      · show g1.at_ + 1 = h1.at_ + 1
        rw [c3.at_]
      · show h' ≠ y.h
        intro e
        rw [e, nd_pre g12.pre b3.h, b8] at d4
        injection d4 with _ _ q1
        exact c3.ne q1.symm
      · show y.c.has = _
        rw [b4, a3.key]
  · rw [c2] at heq
    exact ⟨A2, _, _, B1, writeC_ok hs he hpay a1 b1, a2.trans b2, c1.le (by omega), a4, by show h1.at_ + 1 = _; rw [a5], a6, .inr (by rw [heq]; simp)⟩
/-- A message between two sides in step that have another first psk. -/
theorem msg_pa {A : Ar} {f f' : Nat → Bool} {w r : Nat} {Sw Sr e payload : Int} {pw pr : List Int} {p : Pat} {h g : Hs} {k : Int} (hwr : (w = 0 ∧ r = 1) ∨ (w = 1 ∧ r = 0)) (hA : ArOk A) (P : Pair A f w r Sw Sr h g k) (hk : 0 ≤ k) (hk2 : k + (toks p h.at_).length + 1 < 999)
    (hs : sendsP p w h.at_ = true) (hr : sendsP p r h.at_ = false) (hl : ∀ t ∈ toks p h.at_, 1 ≤ t ∧ t ≤ 7) (hv : msgV w (toks p h.at_) f = (0, f')) (hm : f 14 = modeP p) (h0 : h.nx = 0) (hn : h.nx + cnt7 (toks p h.at_) ≤ pw.length) (hpl : pw.length = pr.length) (hne : pw.getD 0 0 ≠ pr.getD 0 0) (hp : ∀ x ∈ pw, has A.l x = true) (hp' : ∀ x ∈ pr, has A.l x = true)
    (he0 : e ≠ 0) (he : has A.l e = true) (hpay : has A.l payload = true) (hS : has A.l Sw = true) (hSr : has A.l Sr = true) (room : A.l.length + (8 * (toks p h.at_).length + 4) ≤ A.limit) :
    ∃ A' h' msg B', writeC A w Sw pw p h e payload = (A', h', msg, 0) ∧ Grow A A' (4 * (toks p h.at_).length + 2) ∧ Grow A' B' (4 * (toks p h.at_).length + 2) ∧ f' 14 = modeP p ∧ h'.at_ = h.at_ + 1 ∧ h'.nx = h.nx + cnt7 (toks p h.at_) ∧
      ((∃ g', readC A' r Sr pr p g msg = (B', g', payload, 0) ∧ Pair B' f' w r Sw Sr h' g' (k + (toks p h.at_).length + 1) ∧ cnt7 (toks p h.at_) = 0) ∨ readC A' r Sr pr p g msg = (B', Hs.zero, 0, 7)) := by
  obtain ⟨A1, h1, parts, a1, a2, a3, a4, a5, a6, a7, a8, a9⟩ := toks_pa (Sw := Sw) (Sr := Sr) (pw := pw) (pr := pr) hwr he0 hpl hne (toks p h.at_) [] hA P hk (by omega) hl hv hm h0 hn hp hp' he hS hSr (by omega)
  simp only [List.nil_append] at a1
  obtain ⟨A2, y, part, b1, b2, b3, b4, b5, b6, b7, b8⟩ := seal_all a2.ok a3.ok (by omega) (a2.has hpay) (by have := a2.len; rw [a2.limit]; omega)
  have hlen : ((parts ++ [part]).length : Int) = partsC (toks p g.at_) := by rw [P.at_, ← a8]; simp
  have hall : ∀ x ∈ parts ++ [part], has A2.l x = true := fun x hx => by
    rcases List.mem_append.1 hx with hx | hx
    · exact b2.has (a7 x hx)
    · rw [List.mem_singleton.1 hx]; exact b5
  have hg : (parts ++ [part]).getD parts.length 0 = part := by simp [List.getD_eq_getElem?_getD]
  have heq := readC_eq (A := A2) (Sr := Sr) (psks := pr) (msg := parts ++ [part]) (by rw [P.at_]; exact sends_lt hs) (by rw [P.at_]; exact hr) hall hlen
  rw [P.at_] at heq
  obtain ⟨B1, c1, c2⟩ := a9 A2 _ b2 (by have := (a2.trans b2).len; rw [(a2.trans b2).limit]; omega) [] [part]
  simp only [List.nil_append, List.length_nil, Nat.zero_add] at c2
  rcases c2 with ⟨g1, c2, c3⟩ | c2
  · rw [c2] at heq
    simp only [ne_eq, not_true_eq_false, if_false, hg] at heq
    rcases c3 with ⟨c3, h7⟩ | ⟨c3, h15⟩
    · have ho := (b8 B1 c1.ok c1.pre).2
      refine ⟨A2, _, _, B1, writeC_ok hs he hpay a1 b1, a2.trans b2, c1.le (by omega), a4, by show h1.at_ + 1 = _; rw [a5], a6, .inl ⟨{ g1 with y := y, at_ := g1.at_ + 1 }, by rw [heq]; simp [openedC, c3.y, ho], ⟨?_, c3.nx, rfl, b3.grow c1, ?_, c3.wE, c3.wS, c3.rE, c3.rS⟩, h7⟩⟩
      · show g1.at_ + 1 = h1.at_ + 1
        rw [c3.at_]
      · show y.c.has = _
        rw [b4, a3.key]
    · have ho := openS_no (s := g1.y) (n := h1.y.c.n) (q := h1.y.c.key) (hw := h1.y.h) (p := payload) c3.okg (by omega) (c1.has b5) (c3.keyg.trans h15) (by rw [nd_pre c1.pre b5]; exact b7 (a3.key.trans h15)) c3.ne
      exact ⟨A2, _, _, B1, writeC_ok hs he hpay a1 b1, a2.trans b2, c1.le (by omega), a4, by show h1.at_ + 1 = _; rw [a5], a6, .inr (by rw [heq]; simp [openedC, ho])⟩
  · rw [c2] at heq
    exact ⟨A2, _, _, B1, writeC_ok hs he hpay a1 b1, a2.trans b2, c1.le (by omega), a4, by show h1.at_ + 1 = _; rw [a5], a6, .inr (by rw [heq]; simp)⟩
/-- Ahead of the n-th message, of two sides that will not come to the end; pw, pr are their psks. -/
def InvO (p : Pat) (S0 S1 : Int) (q0 q1 : List Int) (n : Nat) (A : Ar) (h0 h1 : Hs) : Prop :=
  ∃ f last j fe, ArOk A ∧ ((Pair A f 0 1 S0 S1 h0 h1 (13 * n) ∧ h0.nx = 0 ∧ q0.getD 0 0 ≠ q1.getD 0 0 ∧ 1 ≤ q0.length) ∨ (Apart A f 0 1 S0 S1 h0 h1 (13 * n) ∧ (f 15 = true → n = 0))) ∧ h0.at_ = n ∧ 0 ≤ h0.nx ∧ h0.nx + cntM (p.msgs.drop n) = q0.length ∧ q0.length = q1.length ∧ (∀ x ∈ q0, has A.l x = true) ∧ (∀ x ∈ q1, has A.l x = true) ∧ has A.l S0 = true ∧ has A.l S1 = true ∧ f 14 = modeP p ∧ roundsV n last (p.msgs.drop n) f = (0, j, fe) ∧ endV p fe = 0 ∧ A.l.length + (100 * (p.msgs.drop n).length + 10) ≤ A.limit
theorem InvO.done {p : Pat} {S0 S1 : Int} {q0 q1 : List Int} {n : Nat} {A : Ar} {h0 h1 : Hs} (I : InvO p S0 S1 q0 q1 n A h0 h1) (hr : rightP p = true) (hn : p.msgs.length = n) : False := by
  obtain ⟨f, last, j, fe, hA, P, i1, i2, i3, i4, i5, i6, i7, i8, i9, i10, i11, i12⟩ := I
  have hd : p.msgs.drop n = [] := by rw [← hn, List.drop_length]
  rw [hd] at i3 i10
  simp only [roundsV, Prod.mk.injEq] at i10
  obtain ⟨-, -, rfl⟩ := i10
  rcases P with ⟨-, h1, -, h2⟩ | ⟨-, h1⟩
  · simp only [cntM] at i3; omega
  · unfold endV at i11
    split at i11
    · cases i11
    · rename_i h
      obtain ⟨-, -, -, q1, -⟩ := rightP_facts hr
      have := h1 (by simpa using h)
      omega
theorem InvO.facts {p : Pat} {S0 S1 : Int} {q0 q1 : List Int} {n : Nat} {A : Ar} {h0 h1 : Hs} (I : InvO p S0 S1 q0 q1 n A h0 h1) (hn : n ≤ 6) : ArOk A ∧ h0.at_ = n ∧ h1.at_ = n ∧ h1.nx = h0.nx ∧ 0 ≤ h0.nx ∧ h0.nx + cntM (p.msgs.drop n) ≤ q0.length ∧ U64 h0.y.c.n ∧ U64 h1.y.c.n := by
  obtain ⟨f, last, j, fe, hA, P, i1, i2, i3, -⟩ := I
  have key : ∀ {y : Sy}, SyOk A y (13 * n) → U64 y.c.n := fun h => by
    have := h.n0
    have := h.n1
    constructor <;> omega
  rcases P with ⟨P, -⟩ | ⟨P, -⟩
  · exact ⟨hA, i1, by rw [P.at_, i1], P.nx, i2, by omega, key P.ok, by rw [P.y]; exact key P.ok⟩
  · exact ⟨hA, i1, by rw [P.at_, i1], P.nx, i2, by omega, key P.ok, key P.okg⟩
theorem InvO.step {p : Pat} {S0 S1 e payload : Int} {q0 q1 : List Int} {n : Nat} {A : Ar} {h0 h1 : Hs} {m : Msg} (I : InvO p S0 S1 q0 q1 n A h0 h1) (hr : rightP p = true) (hm : p.msgs[n]? = some m) (he0 : e ≠ 0) (he : has A.l e = true) (hp : has A.l payload = true) :
    (m.frm = 0 → ∃ A' B' g0 msg g1 x no, writeC A 0 S0 q0 p h0 e payload = (A', g0, msg, 0) ∧ readC A' 1 S1 q1 p h1 msg = (B', g1, x, no) ∧ Grow A B' 100 ∧ ((no = 7 ∧ x = 0) ∨ (no = 0 ∧ InvO p S0 S1 q0 q1 (n + 1) B' g0 g1))) ∧
    (m.frm = 1 → ∃ A' B' g0 msg g1 x no, writeC A 1 S1 q1 p h1 e payload = (A', g1, msg, 0) ∧ readC A' 0 S0 q0 p h0 msg = (B', g0, x, no) ∧ Grow A B' 100 ∧ ((no = 7 ∧ x = 0) ∨ (no = 0 ∧ InvO p S0 S1 q0 q1 (n + 1) B' g0 g1))) := by
  obtain ⟨f, last, j, fe, hA, P, i1, i2, i3, i4, i5, i6, i7, i8, i9, i10, i11, i12⟩ := I
  obtain ⟨-, -, -, -, hlen, hw⟩ := rightP_facts hr
  obtain ⟨m1, m2, m3⟩ := wrongM_facts (hw m (List.mem_of_getElem? hm))
  have hn := idx_lt hm
  have hd : p.msgs.drop n = m :: p.msgs.drop (n + 1) := drop_at hm
  rw [hd] at i3 i10 i12
  simp only [cntM, List.length_cons] at i3 i12
  obtain ⟨f', v1, v2⟩ := rounds_step i10
  have ht := toks_at hm
  have hc := cntM_pos (p.msgs.drop (n + 1))
  have h7 := cnt7_pos m.t
  refine ⟨fun h => ?_, fun h => ?_⟩
  · rw [h] at v1 v2
    have s1 : sendsP p (0 : Nat) h0.at_ = true := by rw [i1, sends_at hm, h]; rfl
    have s2 : sendsP p (1 : Nat) h0.at_ = false := by rw [i1, sends_at hm, h]; rfl
    rcases P with ⟨P, p1, p2, p3⟩ | ⟨P, p1⟩
    · obtain ⟨A', h', msg, B', a1, a2, a3, a4, a5, a6, a7⟩ := msg_pa (w := 0) (r := 1) (Sw := S0) (Sr := S1) (pw := q0) (pr := q1) (p := p) (f' := f') (.inl ⟨rfl, rfl⟩) hA P (by omega) (by rw [i1, ht]; omega) s1 s2 (by rw [i1, ht]; exact m3) (by rw [i1, ht]; exact v1) i9 p1 (by rw [i1, ht]; omega) i4 p2 i5 i6 he0 he hp i7 i8 (by rw [i1, ht]; omega)
      rw [i1, ht] at a2 a3 a6 a7
      have gr := (a2.trans a3).le (d := 100) (by omega)
      rcases a7 with ⟨g', a7, a8, a9⟩ | a7
      · exact ⟨A', B', h', msg, g', payload, 0, a1, a7, gr, .inr ⟨rfl, f', 0, j, fe, gr.ok, .inl ⟨⟨a8.at_, a8.nx, a8.y, a8.ok.le (by omega), a8.key, a8.wE, a8.wS, a8.rE, a8.rS⟩, by omega, p2, p3⟩, by rw [a5, i1]; omega, by omega, by omega, i4, fun x hx => gr.has (i5 x hx), fun x hx => gr.has (i6 x hx), gr.has i7, gr.has i8, a4, v2, i11, by have := gr.len; rw [gr.limit]; omega⟩⟩
      · exact ⟨A', B', h', msg, Hs.zero, 0, 7, a1, a7, gr, .inl ⟨rfl, rfl⟩⟩
    · obtain ⟨A', h', msg, B', a1, a2, a3, a4, a5, a6, a7⟩ := msg_ap (w := 0) (r := 1) (Sw := S0) (Sr := S1) (pw := q0) (pr := q1) (p := p) (f' := f') (.inl ⟨rfl, rfl⟩) hA P (by omega) (by rw [i1, ht]; omega) s1 s2 (by rw [i1, ht]; exact m3) (by rw [i1, ht]; exact v1) i9 i2 (by rw [i1, ht]; omega) i4 i5 i6 he0 he hp i7 i8 (by rw [i1, ht]; omega)
      rw [i1, ht] at a2 a3 a6 a7
      have gr := (a2.trans a3).le (d := 100) (by omega)
      rcases a7 with ⟨g', a7, a8, a9⟩ | a7
      · exact ⟨A', B', h', msg, g', payload, 0, a1, a7, gr, .inr ⟨rfl, f', 0, j, fe, gr.ok, .inr ⟨⟨a8.at_, a8.nx, a8.ne, a8.ok.le (by omega), a8.okg.le (by omega), a8.key, a8.keyg, a8.wE, a8.wS, a8.rE, a8.rS⟩, fun e => by rw [a9] at e; cases e⟩, by rw [a5, i1]; omega, by omega, by omega, i4, fun x hx => gr.has (i5 x hx), fun x hx => gr.has (i6 x hx), gr.has i7, gr.has i8, a4, v2, i11, by have := gr.len; rw [gr.limit]; omega⟩⟩
      · exact ⟨A', B', h', msg, Hs.zero, 0, 7, a1, a7, gr, .inl ⟨rfl, rfl⟩⟩
  · rw [h] at v1 v2
    rcases P with ⟨P, p1, p2, p3⟩ | ⟨P, p1⟩
    · have Q := P.sym
      have e1 : h1.at_ = n := by rw [P.at_, i1]
      have e2 : h1.nx = h0.nx := P.nx
      have s1 : sendsP p (1 : Nat) h1.at_ = true := by rw [e1, sends_at hm, h]; rfl
      have s2 : sendsP p (0 : Nat) h1.at_ = false := by rw [e1, sends_at hm, h]; rfl
      obtain ⟨A', h', msg, B', a1, a2, a3, a4, a5, a6, a7⟩ := msg_pa (w := 1) (r := 0) (Sw := S1) (Sr := S0) (pw := q1) (pr := q0) (p := p) (f' := f') (.inr ⟨rfl, rfl⟩) hA Q (by omega) (by rw [e1, ht]; omega) s1 s2 (by rw [e1, ht]; exact m3) (by rw [e1, ht]; exact v1) i9 (by omega) (by rw [e1, ht]; omega) i4.symm (Ne.symm p2) i6 i5 he0 he hp i8 i7 (by rw [e1, ht]; omega)
      rw [e1, ht] at a2 a3 a6 a7
      have gr := (a2.trans a3).le (d := 100) (by omega)
      rcases a7 with ⟨g', a7, a8, a9⟩ | a7
      · have b8 := a8.sym
        have e3 : g'.nx = h'.nx := a8.nx
        exact ⟨A', B', g', msg, h', payload, 0, a1, a7, gr, .inr ⟨rfl, f', 1, j, fe, gr.ok, .inl ⟨⟨b8.at_, b8.nx, b8.y, b8.ok.le (by omega), b8.key, b8.wE, b8.wS, b8.rE, b8.rS⟩, by omega, p2, p3⟩, by rw [a8.at_, a5, e1]; omega, by omega, by omega, i4, fun x hx => gr.has (i5 x hx), fun x hx => gr.has (i6 x hx), gr.has i7, gr.has i8, a4, v2, i11, by have := gr.len; rw [gr.limit]; omega⟩⟩
      · exact ⟨A', B', Hs.zero, msg, h', 0, 7, a1, a7, gr, .inl ⟨rfl, rfl⟩⟩
    · have Q := P.sym
      have e1 : h1.at_ = n := by rw [P.at_, i1]
      have e2 : h1.nx = h0.nx := P.nx
      have s1 : sendsP p (1 : Nat) h1.at_ = true := by rw [e1, sends_at hm, h]; rfl
      have s2 : sendsP p (0 : Nat) h1.at_ = false := by rw [e1, sends_at hm, h]; rfl
      obtain ⟨A', h', msg, B', a1, a2, a3, a4, a5, a6, a7⟩ := msg_ap (w := 1) (r := 0) (Sw := S1) (Sr := S0) (pw := q1) (pr := q0) (p := p) (f' := f') (.inr ⟨rfl, rfl⟩) hA Q (by omega) (by rw [e1, ht]; omega) s1 s2 (by rw [e1, ht]; exact m3) (by rw [e1, ht]; exact v1) i9 (by omega) (by rw [e1, ht]; omega) i4.symm i6 i5 he0 he hp i8 i7 (by rw [e1, ht]; omega)
      rw [e1, ht] at a2 a3 a6 a7
      have gr := (a2.trans a3).le (d := 100) (by omega)
      rcases a7 with ⟨g', a7, a8, a9⟩ | a7
      · have b8 := a8.sym
        have e3 : g'.nx = h'.nx := a8.nx
        exact ⟨A', B', g', msg, h', payload, 0, a1, a7, gr, .inr ⟨rfl, f', 1, j, fe, gr.ok, .inr ⟨⟨b8.at_, b8.nx, b8.ne, b8.ok.le (by omega), b8.okg.le (by omega), b8.key, b8.keyg, b8.wE, b8.wS, b8.rE, b8.rS⟩, fun e => by rw [a9] at e; cases e⟩, by rw [a8.at_, a5, e1]; omega, by omega, by omega, i4, fun x hx => gr.has (i5 x hx), fun x hx => gr.has (i6 x hx), gr.has i7, gr.has i8, a4, v2, i11, by have := gr.len; rw [gr.limit]; omega⟩⟩
      · exact ⟨A', B', Hs.zero, msg, h', 0, 7, a1, a7, gr, .inl ⟨rfl, rfl⟩⟩
end Go.Proofs.YtikimmgileffgaaGreatDoor
end
/- Two sides with another prologue, or another psk: the beginning (layer 12). No program in sight. -/
section
namespace Go.Proofs.YtikimmgileffgaaGreatDoor
open Go.RowKit

theorem Hashed.trans {A : Ar} {a b : Int} {m : Nat} (h : Hashed A a m b) : ∀ {n : Nat} {p : Int}, Hashed A b n p → Hashed A a (m + n) p
  | 0, p, k => by rw [show p = b from k]; exact h
  | n + 1, p, ⟨c, x, k1, k2, k3, k4⟩ => ⟨c, x, Hashed.trans h k1, k2, k3, k4⟩
theorem whyC_zero {p : Pat} {k : Ks} (h : whyC p k = 0) : (checkV p).2.2 = 0 ∧ (k.psks.length : Int) = cntM p.msgs := by
  unfold whyC at h
  split at h
  · rename_i h1; exact absurd h h1
  · rename_i h1
    split at h
    · cases h
    · rename_i h2; exact ⟨by simpa using h1, by simpa using h2⟩
theorem sel_has {A : Ar} (hA : ArOk A) (b : Bool) {x : Int} (hx : has A.l x = true) : has A.l (sel b x) = true := by
  unfold sel; split
  · exact hx
  · exact has_first hA
/-- The invariant, where prologues are other ones. -/
theorem InvO.pro {A A' : Ar} {p : Pat} {k0 k1 : Ks} {y z : Sy} {c : Nat} (K : Keys2 A k0 k1) (h : whyC p k0 = 0) (hpe : k1.psks = k0.psks) (gr : Grow A A' c) (P : Apart A' (beginV p) 0 1 (sel (needK p 0).s k0.s) (sel (needK p 1).s k1.s) (hs0 p 0 k0 y) (hs0 p 1 k1 z) 0) (room : A.l.length + (c + 610) ≤ A.limit) :
    rightP p = true ∧ InvO p (sel (needK p 0).s k0.s) (sel (needK p 1).s k1.s) k0.psks k1.psks 0 A' (hs0 p 0 k0 y) (hs0 p 1 k1 z) := by
  obtain ⟨hc, hn⟩ := whyC_zero h
  obtain ⟨hr, j, fe, hv, he⟩ := checkV_right hc
  obtain ⟨-, -, -, -, hlen, hw⟩ := rightP_facts hr
  refine ⟨hr, beginV p, 0, j, fe, gr.ok, .inr ⟨P, fun _ => rfl⟩, rfl, Int.le_refl _, ?_, by rw [hpe], fun x hx => gr.has (K.p0 x hx), fun x hx => gr.has (K.p1 x hx), sel_has gr.ok _ (gr.has K.rs1.hx), sel_has gr.ok _ (gr.has K.rs0.hx), by simp [beginV], hv, he, ?_⟩
  · rw [List.drop_zero, ← hn]; show (0 : Int) + _ = _; omega
  · rw [List.drop_zero, gr.limit]; have := gr.len; omega
end Go.Proofs.YtikimmgileffgaaGreatDoor
end
/- What the walks of law 12 call. -/
section
namespace Go.Proofs.YtikimmgileffgaaGreatDoor
open Go.RowKit

theorem arenasY {w0 w : World} {M : List Thing} {a0 a1 am uB : Option Addr} {c0 c1 cm ud : Nat} {p : Pat} {us : List Int} {lim ams chg : Int} {t : Two} (O : Own w0 w M) (hp : PatIn w0 (Old w0) (pvx a0 c0 a1 c1 am cm p) p) (hfit : PatFits p) (hfew : fewP p = true) (hul : us.length ≤ 10) (hU : Holds w0 uB (u64V us)) (hus : ∀ u ∈ us, U64 u) (ht : twoC us = t) :
    Calls Tryz.prog 19 #[.agg #[.string (strO p.name), .slice a0 p.pre0.length c0, .slice a1 p.pre1.length c1, .slice am p.msgs.length cm, .slice uB us.length ud, .int .i64 lim, .int .u8 ams, .int .u8 chg]] w fun e' w' => ∃ r g0 d0 g1 d1 B0 e0 B1 e1 nB m nd, e' = .returned (twoV t r g0 d0 g1 d1 B0 e0 B1 e1 nB m nd) ∧ Own w0 w' (twoT t r g0 d0 g1 d1 B0 e0 B1 e1 ++ M) :=
  (arenasE (hp.below O.below) hfit hfew (hU.below O.below) hus).mono fun e' w' h => by
    rcases h with ⟨_, _, r, g0, d0, g1, d1, B0, e0, B1, e1, nB, m, nd, h1, h2⟩ | ⟨h | h, _⟩
    · subst ht; exact ⟨r, g0, d0, g1, d1, B0, e0, B1, e1, nB, m, nd, h1, O.joined h2⟩
    · cases h
    · omega
theorem arenasN {w0 w : World} {M : List Thing} {a0 a1 am uB : Option Addr} {c0 c1 cm ud : Nat} {p : Pat} {us : List Int} {lim ams chg : Int} (O : Own w0 w M) (hp : PatIn w0 (Old w0) (pvx a0 c0 a1 c1 am cm p) p) (hfit : PatFits p) (hno : ¬ (fewP p = true ∧ us.length ≤ 10)) (hU : Holds w0 uB (u64V us)) (hus : ∀ u ∈ us, U64 u) :
    Calls Tryz.prog 19 #[.agg #[.string (strO p.name), .slice a0 p.pre0.length c0, .slice a1 p.pre1.length c1, .slice am p.msgs.length cm, .slice uB us.length ud, .int .i64 lim, .int .u8 ams, .int .u8 chg]] w fun e' w' => e' = .returned noTwo ∧ Own w0 w' M :=
  (arenasE (hp.below O.below) hfit rfl (hU.below O.below) hus).mono fun e' w' h => by
    rcases h with ⟨h1, h2, _⟩ | ⟨_, h1, h2⟩
    · exact absurd ⟨h1, h2⟩ hno
    · exact ⟨h1, O.call h2⟩
/-- Start, where there is a handshake. -/
theorem startX {w0 w : World} {M : List Thing} {r : Nat} {A A' : Ar} {q0 q1 qm B : Option Addr} {d0 d1 dm dB : Nat} {p : Pat} {psks : List Int} {role prologue kS kE kRS kRE S E RS RE : Int} {y' : Sy} (hrole : role = 0 ∨ role = 1) (O : Own w0 w M) (i : Nat) (hi : M[i]? = some (arena r A)) (hp : Kept w0 M i fun w => PatIn w (Old w) (pvx q0 d0 q1 d1 qm dm p) p) (hfit : PatFits p) (he : EnvS w0) (hk : Kept w0 M i fun w => Holds w B (intsV psks)) (hkl : psks.length * 8 ≤ 140737488355328)
    (hS : sel (needOf p role).1.s kS = S) (hE : sel (needOf p role).1.e kE = E) (hRS : sel (needOf p role).1.rs kRS = RS) (hRE : sel (needOf p role).1.re kRE = RE) (hf : startC A p role prologue ⟨kS, kE, kRS, kRE, psks⟩ = (A', y', 0)) :
    Calls Tryz.prog 15 #[.pointer (some ⟨r, 0, none⟩), .agg #[.string (strO p.name), .slice q0 p.pre0.length d0, .slice q1 p.pre1.length d1, .slice qm p.msgs.length dm], .int .i64 role, .int .i64 prologue, .agg #[.int .i64 kS, .int .i64 kE, .int .i64 kRS, .int .i64 kRE, .slice B psks.length dB]] w fun e' w' => ∃ a0 c0 a1 c1 am cm bk dk, e' = .returned (.tuple #[(Sh.val ⟨role, 0, 0, pvx a0 c0 a1 c1 am cm p, p, S, E, RS, RE, .slice bk psks.length dk, psks, y'⟩), .int .i64 0]) ∧ Own w0 w' (shkT (pvx a0 c0 a1 c1 am cm p) p (.slice bk psks.length dk) psks :: M.set i (arena r A')) := by
  subst hS hE hRS hRE
  rcases hrole with rfl | rfl
  · exact (startE0 O i hi hp hfit he hk hkl hf).mono fun _ _ h => h.elim (fun h => h.2) (fun h => absurd rfl h.1)
  · exact (startE1 O i hi hp hfit he hk hkl hf).mono fun _ _ h => h.elim (fun h => h.2) (fun h => absurd rfl h.1)
theorem startN {w0 w : World} {M : List Thing} {r : Nat} {A A' : Ar} {q0 q1 qm B : Option Addr} {d0 d1 dm dB : Nat} {p : Pat} {psks : List Int} {role prologue kS kE kRS kRE e : Int} {y' : Sy} (hrole : role = 0 ∨ role = 1) (O : Own w0 w M) (i : Nat) (hi : M[i]? = some (arena r A)) (hp : Kept w0 M i fun w => PatIn w (Old w) (pvx q0 d0 q1 d1 qm dm p) p) (hfit : PatFits p) (he : EnvS w0) (hk : Kept w0 M i fun w => Holds w B (intsV psks)) (hkl : psks.length * 8 ≤ 140737488355328)
    (hno : ¬ e = 0) (hf : startC A p role prologue ⟨kS, kE, kRS, kRE, psks⟩ = (A', y', e)) :
    Calls Tryz.prog 15 #[.pointer (some ⟨r, 0, none⟩), .agg #[.string (strO p.name), .slice q0 p.pre0.length d0, .slice q1 p.pre1.length d1, .slice qm p.msgs.length dm], .int .i64 role, .int .i64 prologue, .agg #[.int .i64 kS, .int .i64 kE, .int .i64 kRS, .int .i64 kRE, .slice B psks.length dB]] w fun e' w' => e' = .returned (.tuple #[Sh.zero.val, .int .i64 e]) ∧ Own w0 w' (M.set i (arena r A')) := by
  rcases hrole with rfl | rfl
  · exact (startE0 O i hi hp hfit he hk hkl hf).mono fun _ _ h => h.elim (fun h => absurd h.1 hno) (fun h => h.2)
  · exact (startE1 O i hi hp hfit he hk hkl hf).mono fun _ _ h => h.elim (fun h => absurd h.1 hno) (fun h => h.2)
theorem writeOk {w0 w : World} {M : List Thing} {r : Nat} {A A' : Ar} {X : Thing} {role at_ nx kS kE kRS kRE sk sh sc sn : Int} {sb : Bool} {a0 a1 am bk : Option Addr} {c0 c1 cm dk : Nat} {p : Pat} {psks : List Int} {e payload : Int} {h' : Hs} {msg' : List Int} (O : Own w0 w M) (i : Nat) (hi : M[i]? = some (arena r A)) (j : Nat) (hj : M[j]? = some X) (hX : HasShk X (pvx a0 c0 a1 c1 am cm p) p bk dk psks) (hfit : PatFits p) (hij : j ≠ i) (hr : rightP p = true) (hrole : role = 0 ∨ role = 1) (hp7 : 0 ≤ nx ∧ nx + cnt7 (toks p at_) ≤ psks.length) (hkl : psks.length * 8 ≤ 140737488355328) (hn : U64 sn) (hf : writeC A role kS psks p ⟨at_, nx, kE, kRS, kRE, ⟨sk, sh, ⟨sc, sb, sn⟩⟩⟩ e payload = (A', h', msg', 0)) :
    Calls Tryz.prog 21 #[.agg #[.int .i64 role, .int .i64 at_, .int .i64 nx, .string (strO p.name), .slice a0 p.pre0.length c0, .slice a1 p.pre1.length c1, .slice am p.msgs.length cm, .int .i64 kS, .int .i64 kE, .int .i64 kRS, .int .i64 kRE, .slice bk psks.length dk, .int .i64 sk, .int .i64 sh, .int .i64 sc, .bool sb, .int .u64 sn], .pointer (some ⟨r, 0, none⟩), .int .i64 e, .int .i64 payload] w (fun e' w' => ∃ B d, e' = .returned (.tuple #[(h'.sh role (pvx a0 c0 a1 c1 am cm p) p kS (.slice bk psks.length dk) psks).val, .slice B msg'.length d, .int .i64 0]) ∧ Own w0 w' (rowT 3 1 (.slice B msg'.length d) msg'.length (intsV msg') :: M.set i (arena r A'))) :=
  (writeE O i hi j hj hX hfit hij hr hrole hp7 hkl hn hf).mono fun _ _ h => h.elim (fun h => h.2) (fun h => absurd rfl h.1)
theorem readOk {w0 w : World} {M : List Thing} {r : Nat} {A A' : Ar} {X : Thing} {role at_ nx kS kE kRS kRE sk sh sc sn : Int} {sb : Bool} {a0 a1 am bk : Option Addr} {c0 c1 cm dk : Nat} {p : Pat} {psks : List Int} {msg : List Int} {mB : Option Addr} {md : Nat} {h' : Hs} {y no : Int} (O : Own w0 w M) (i : Nat) (hi : M[i]? = some (arena r A)) (j : Nat) (hj : M[j]? = some X) (hX : HasShk X (pvx a0 c0 a1 c1 am cm p) p bk dk psks) (hfit : PatFits p) (hij : j ≠ i) (hr : rightP p = true) (hrole : role = 0 ∨ role = 1) (hat0 : 0 ≤ at_) (hp7 : 0 ≤ nx ∧ nx + cnt7 (toks p at_) ≤ psks.length) (hkl : psks.length * 8 ≤ 140737488355328) (hn : U64 sn) (hml : msg.length ≤ 1000000) (hmsg : Kept2 w0 M i j fun w => Holds w mB (intsV msg)) (hf : readC A role kS psks p ⟨at_, nx, kE, kRS, kRE, ⟨sk, sh, ⟨sc, sb, sn⟩⟩⟩ msg = (A', h', y, no)) :
    Calls Tryz.prog 22 #[.agg #[.int .i64 role, .int .i64 at_, .int .i64 nx, .string (strO p.name), .slice a0 p.pre0.length c0, .slice a1 p.pre1.length c1, .slice am p.msgs.length cm, .int .i64 kS, .int .i64 kE, .int .i64 kRS, .int .i64 kRE, .slice bk psks.length dk, .int .i64 sk, .int .i64 sh, .int .i64 sc, .bool sb, .int .u64 sn], .pointer (some ⟨r, 0, none⟩), .slice mB msg.length md] w fun e' w' => e' = .returned (.tuple #[h'.res no role (pvx a0 c0 a1 c1 am cm p) p kS (.slice bk psks.length dk) psks, .int .i64 y, .int .i64 no]) ∧ Own w0 w' (M.set i (arena r A')) :=
  readE O i hi j hj hX hfit hij hr hrole hat0 hp7 hkl hn hml hmsg hf rfl
/-- A row of known ints: what lies at k. -/
theorem rowN_at {w0 w : World} {M : List Thing} {g d n : Nat} {l : List Int} (O : Own w0 w M) (i : Nat) (hi : M[i]? = some (rowT 3 1 (.slice (some ⟨g, 0, none⟩) n d) n (intsV l))) (hn : l.length = n) {k : Nat} {x : Int} (hk : l[k]? = some x) : w.cell? ⟨g, 0 + k * 1, none⟩ = some (.int .i64 x) := by
  subst hn
  obtain ⟨S, h, _⟩ := O.at hi
  exact holds_cell (rowI_holds w S h) rfl hk
theorem s100_2 {k : Nat} (h : k ≤ 5) : s100[2 + k]? = some ((k : Int) + 3) := by
  have : ∀ k : Fin 6, s100[2 + k.val]? = some ((k.val : Int) + 3) := by decide
  exact this ⟨k, by omega⟩
theorem s100_8 {k : Nat} (h : k ≤ 5) : s100[8 + k]? = some ((k : Int) + 9) := by
  have : ∀ k : Fin 6, s100[8 + k.val]? = some ((k.val : Int) + 9) := by decide
  exact this ⟨k, by omega⟩
theorem s200_2 {k : Nat} (h : k ≤ 5) : s200[2 + k]? = some ((k : Int) + 17) := by
  have : ∀ k : Fin 6, s200[2 + k.val]? = some ((k.val : Int) + 17) := by decide
  exact this ⟨k, by omega⟩
theorem s200_8 {k : Nat} (h : k ≤ 5) : s200[8 + k]? = some ((k : Int) + 23) := by
  have : ∀ k : Fin 6, s200[8 + k.val]? = some ((k.val : Int) + 23) := by decide
  exact this ⟨k, by omega⟩
theorem writeL_len {role S e : Int} {psks : List Int} {md : Bool} : ∀ (l : List Int) {A : Ar} {h : Hs} {msg : List Int} {A' : Ar} {h' : Hs} {msg' : List Int} {no : Int}, writeL role S e psks md l A h msg = (A', h', msg', no) → msg'.length ≤ msg.length + l.length
  | [], A, h, msg, A', h', msg', no, hw => by simp only [writeL, Prod.mk.injEq] at hw; obtain ⟨-, -, rfl, -⟩ := hw; simp
  | t :: l, A, h, msg, A', h', msg', no, hw => by
    simp only [writeL] at hw
    generalize (if t = 1 then { h with E := e } else h) = h1 at hw
    split at hw
    · split at hw
      · simp only [Prod.mk.injEq] at hw; obtain ⟨-, -, rfl, -⟩ := hw; simp
      · have := writeL_len l hw; simp only [List.length_cons]; omega
    · split at hw
      · simp only [Prod.mk.injEq] at hw; obtain ⟨-, -, rfl, -⟩ := hw; simp
      · have := writeL_len l hw; simp only [List.length_append, List.length_cons, List.length_nil] at this ⊢; omega
theorem writeC_len {A A' : Ar} {role S e payload no : Int} {psks msg : List Int} {p : Pat} {h h' : Hs} (hw : writeC A role S psks p h e payload = (A', h', msg, no)) : msg.length ≤ (toks p h.at_).length + 1 := by
  unfold writeC at hw
  split at hw
  · simp only [Prod.mk.injEq] at hw; obtain ⟨-, -, rfl, -⟩ := hw; simp
  · split at hw
    · simp only [Prod.mk.injEq] at hw; obtain ⟨-, -, rfl, -⟩ := hw; simp
    · dsimp only at hw
      split at hw
      · simp only [Prod.mk.injEq] at hw; obtain ⟨-, -, rfl, -⟩ := hw; simp
      · split at hw
        · simp only [Prod.mk.injEq] at hw; obtain ⟨-, -, rfl, -⟩ := hw; simp
        · simp only [Prod.mk.injEq] at hw; obtain ⟨-, -, rfl, -⟩ := hw
          have h1 := writeL_len (role := role) (S := S) (e := e) (psks := psks) (md := modeP p) (toks p h.at_) (A := A) (h := h) (msg := []) rfl
          rw [List.length_append]
          exact Nat.add_le_add_right (by simpa using h1) 1
theorem ptoks_len {p : Pat} {n : Nat} {m : Msg} (hr : rightP p = true) (hm : p.msgs[n]? = some m) : (toks p n).length ≤ 12 := by
  rw [toks_at hm]
  obtain ⟨-, -, -, -, -, hw⟩ := rightP_facts hr
  exact (wrongM_facts (hw m (List.mem_of_getElem? hm))).2.1
theorem Grow.min {A B : Ar} {c n : Nat} (g : Grow A B c) (h : n ≤ A.l.length) : n ≤ B.l.length := by have := g.pre.length_le; omega
theorem has_small {A : Ar} {x : Int} (h : 29 ≤ A.l.length) (h0 : 0 ≤ x) (h1 : x ≤ 28) : has A.l x = true := has_iff.2 ⟨h0, by omega⟩
/-- A round of ShakeBoth, in letters. -/
theorem Inv.go {p : Pat} {S0 S1 : Int} {psks : List Int} {n : Nat} {A : Ar} {vx vE vR vQ vk vh vc vn uE uR uQ : Int} {vb : Bool} {m : Msg} (I : Inv p S0 S1 psks n A ⟨(n : Int), vx, vE, vR, vQ, ⟨vk, vh, ⟨vc, vb, vn⟩⟩⟩ ⟨(n : Int), vx, uE, uR, uQ, ⟨vk, vh, ⟨vc, vb, vn⟩⟩⟩) (hr : rightP p = true) (hm : p.msgs[n]? = some m) (hA : 29 ≤ A.l.length) :
    (m.frm = 0 → ∃ A' wx wE wR wQ wk wh wc wb wn zE zR zQ msg, writeC A 0 S0 psks p ⟨(n : Int), vx, vE, vR, vQ, ⟨vk, vh, ⟨vc, vb, vn⟩⟩⟩ ((n : Int) + 3) ((n : Int) + 9) = (A', ⟨(n : Int) + 1, wx, wE, wR, wQ, ⟨wk, wh, ⟨wc, wb, wn⟩⟩⟩, msg, 0) ∧ readC A' 1 S1 psks p ⟨(n : Int), vx, uE, uR, uQ, ⟨vk, vh, ⟨vc, vb, vn⟩⟩⟩ msg = (A', ⟨(n : Int) + 1, wx, zE, zR, zQ, ⟨wk, wh, ⟨wc, wb, wn⟩⟩⟩, (n : Int) + 9, 0) ∧ 29 ≤ A'.l.length ∧ msg.length ≤ 1000000 ∧ Inv p S0 S1 psks (n + 1) A' ⟨(n : Int) + 1, wx, wE, wR, wQ, ⟨wk, wh, ⟨wc, wb, wn⟩⟩⟩ ⟨(n : Int) + 1, wx, zE, zR, zQ, ⟨wk, wh, ⟨wc, wb, wn⟩⟩⟩) ∧
    (m.frm = 1 → ∃ A' wx wE wR wQ wk wh wc wb wn zE zR zQ msg, writeC A 1 S1 psks p ⟨(n : Int), vx, uE, uR, uQ, ⟨vk, vh, ⟨vc, vb, vn⟩⟩⟩ ((n : Int) + 17) ((n : Int) + 23) = (A', ⟨(n : Int) + 1, wx, zE, zR, zQ, ⟨wk, wh, ⟨wc, wb, wn⟩⟩⟩, msg, 0) ∧ readC A' 0 S0 psks p ⟨(n : Int), vx, vE, vR, vQ, ⟨vk, vh, ⟨vc, vb, vn⟩⟩⟩ msg = (A', ⟨(n : Int) + 1, wx, wE, wR, wQ, ⟨wk, wh, ⟨wc, wb, wn⟩⟩⟩, (n : Int) + 23, 0) ∧ 29 ≤ A'.l.length ∧ msg.length ≤ 1000000 ∧ Inv p S0 S1 psks (n + 1) A' ⟨(n : Int) + 1, wx, wE, wR, wQ, ⟨wk, wh, ⟨wc, wb, wn⟩⟩⟩ ⟨(n : Int) + 1, wx, zE, zR, zQ, ⟨wk, wh, ⟨wc, wb, wn⟩⟩⟩) := by
  obtain ⟨-, -, -, -, hlen, -⟩ := rightP_facts hr
  have hn := idx_lt hm
  have hl := ptoks_len hr hm
  refine ⟨fun h => ?_, fun h => ?_⟩
  · obtain ⟨A', ⟨g1, g2, g3, g4, g5, ⟨g6, g7, ⟨g8, g9, g10⟩⟩⟩, ⟨k1, k2, k3, k4, k5, ky⟩, msg, a1, a2, a3, a4⟩ := (I.step hr hm (e := (n : Int) + 3) (payload := (n : Int) + 9) (by omega) (has_small hA (by omega) (by omega)) (has_small hA (by omega) (by omega))).1 h
    obtain ⟨f1, f2, f3, f4, f5, -⟩ := a4.facts (by omega)
    simp only at f2 f3 f4 f5
    subst f2 f3 f4 f5
    have hw := writeC_len a1
    simp only at hw
    exact ⟨A', k2, g3, g4, g5, g6, g7, g8, g9, g10, k3, k4, k5, msg, a1, a2, a3.min hA, by omega, a4⟩
  · obtain ⟨A', ⟨g1, g2, g3, g4, g5, ⟨g6, g7, ⟨g8, g9, g10⟩⟩⟩, ⟨k1, k2, k3, k4, k5, ky⟩, msg, a1, a2, a3, a4⟩ := (I.step hr hm (e := (n : Int) + 17) (payload := (n : Int) + 23) (by omega) (has_small hA (by omega) (by omega)) (has_small hA (by omega) (by omega))).2 h
    obtain ⟨f1, f2, f3, f4, f5, -⟩ := a4.facts (by omega)
    simp only at f2 f3 f4 f5
    subst f2 f3 f4 f5
    have hw := writeC_len a1
    simp only at hw
    exact ⟨A', k2, g3, g4, g5, g6, g7, g8, g9, g10, k3, k4, k5, msg, a1, a2, a3.min hA, by omega, a4⟩
theorem need_ok {p : Pat} {role : Int} (hr : role = 0 ∨ role = 1) (hc : (checkV p).2.2 = 0) : (needOf p role).1 = needK p role := by rw [need_eq hr, if_neg (by simp [hc])]
/-- The beginning of ShakeBoth, in letters. -/
theorem both_begin {p : Pat} {us K : List Int} {At : Ar} {rs0 re0 rs1 re1 : Int} (hu : ∀ u ∈ us, 0 ≤ u) (hl : us.length ≤ 10) (ht : twoC us = ⟨At, rs0, re0, K, rs1, re1, K⟩) (hw : whyC p ⟨1, 2, rs0, re0, K⟩ = 0) :
    rightP p = true ∧ K.length ≤ 10 ∧ (K.length : Int) = cntM p.msgs ∧ ∃ A' S0 E0 R0 Q0 S1 E1 R1 Q1 ck h c b n, sel (needOf p 0).1.s 1 = S0 ∧ sel (needOf p 0).1.e 2 = E0 ∧ sel (needOf p 0).1.rs rs0 = R0 ∧ sel (needOf p 0).1.re re0 = Q0 ∧ sel (needOf p 1).1.s 15 = S1 ∧ sel (needOf p 1).1.e 16 = E1 ∧ sel (needOf p 1).1.rs rs1 = R1 ∧ sel (needOf p 1).1.re re1 = Q1 ∧
      startC At p 0 0 ⟨1, 2, rs0, re0, K⟩ = (A', ⟨ck, h, ⟨c, b, n⟩⟩, 0) ∧ startC A' p 1 0 ⟨15, 16, rs1, re1, K⟩ = (A', ⟨ck, h, ⟨c, b, n⟩⟩, 0) ∧ 29 ≤ A'.l.length ∧ Inv p S0 S1 K 0 A' ⟨0, 0, E0, R0, Q0, ⟨ck, h, ⟨c, b, n⟩⟩⟩ ⟨0, 0, E1, R1, Q1, ⟨ck, h, ⟨c, b, n⟩⟩⟩ := by
  obtain ⟨g, K2, -, hkl, -⟩ := two_all hu hl
  rw [ht] at g K2 hkl
  replace g : Grow arS1 At 24 := g
  replace K2 : Keys2 At ⟨1, 2, rs0, re0, K⟩ ⟨15, 16, rs1, re1, K⟩ := K2
  replace hkl : K.length = us.length := hkl
  have hl0 := arS1_len.1
  have hm0 := arS1_len.2
  have hroom : (At.l.length + 1000 ≤ At.limit) := by
    have h1 := g.len; have h2 := g.limit
    rw [h2, hm0]; omega
  obtain ⟨hr, hn, ⟨j, fe, hv, he⟩, A', ⟨ck, h, ⟨c, b, n⟩⟩, a1, a2, a3, a4⟩ := start_sync g.ok K2 (has_first g.ok) hw (by omega)
  obtain ⟨hc, -⟩ := whyC_zero hw
  have e0 := need_ok (p := p) (.inl rfl) hc
  have e1 := need_ok (p := p) (.inr rfl) hc
  have h29 : 29 ≤ At.l.length := g.min (by omega)
  refine ⟨hr, by omega, hn, A', _, _, _, _, _, _, _, _, ck, h, c, b, n, rfl, rfl, rfl, rfl, rfl, rfl, rfl, rfl, a1, a2, a3.min h29, ?_⟩
  rw [e0, e1]
  exact Inv.start hr K2 hn hv he a3 a4 (by omega)
end Go.Proofs.YtikimmgileffgaaGreatDoor
end
/- More rules for the machine: a row told as a block and back; an append of a whole row onto an empty one. Any program. -/
section
namespace Go.Proofs.YtikimmgileffgaaGreatDoor
open Go.RowKit
section rules
variable {P : Program} {fn : Func} {R : Ending → World → Prop} {w w0 : World} {σ : Stt}
/-- What lies at i is another thing, too. -/
theorem Own.conv {M : List Thing} {i : Nat} {X Y : Thing} (O : Own w0 w M) (hi : M[i]? = some X) (h : ∀ S, X.P w S → Y.P w S) : Own w0 w (M.set i Y) := by
  obtain ⟨hb, f, h1, h2, h3⟩ := O
  have hil := idx_lt hi
  refine ⟨hb, f, fun j Q hj => ?_, fun j k b hj hk => h2 j k b (by simpa using hj) (by simpa using hk), fun j b hj => h3 j b (by simpa using hj)⟩
  rw [List.getElem?_set] at hj
  by_cases e : i = j
  · subst e
    rw [if_pos rfl, if_pos hil] at hj
    cases hj
    exact h _ (h1 i X hi)
  · rw [if_neg e] at hj; exact h1 j Q hj
theorem Own.frontE {L : List Ent} {M : List Thing} (E : List Ent) (O : Own w0 w (M ++ L.map Ent.t)) (h : E.map Ent.t = M := by kernel_rfl) : Own w0 w ((E ++ L).map Ent.t) := by
  rw [List.map_append, h]; exact O
/-- A row of nothing, in front. -/
theorem gNil (el : TypeId) (O : Own w0 w (σ.L.map Ent.t)) (h : Own w0 w ((⟨σ.c, σ.e, .thing (rowT el 1 (.slice none 0 0) 0 []) :: σ.L, σ.X⟩ : Stt).L.map Ent.t) → WS P fn R ⟨σ.c, σ.e, .thing (rowT el 1 (.slice none 0 0) 0 []) :: σ.L, σ.X⟩ w) : WS P fn R σ w := ⟨fun hi hX => (h (O.nilRow el 1)).out hi hX⟩
end rules
end Go.Proofs.YtikimmgileffgaaGreatDoor
end
