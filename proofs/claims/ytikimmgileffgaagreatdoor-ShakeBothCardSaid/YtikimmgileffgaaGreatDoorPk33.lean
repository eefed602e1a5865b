/- Packed for this claim by packm.py: XX12, XXW. -/
import Derived.Test.YtikimmgileffgaaGreatDoorPk32
/- What the document fixes of XX (layer 12), reckoned; and small facts for the walks. -/
section
namespace Go.Proofs.YtikimmgileffgaaGreatDoor
open Go.RowKit

def pXX : Pat := ⟨[88, 88], [], [], [⟨0, [1]⟩, ⟨1, [1, 3, 2, 4]⟩, ⟨0, [2, 5]⟩]⟩
theorem base_xx : baseP ⟨[88, 88], [], [], [101, 59, 101, 32, 101, 101, 32, 115, 32, 101, 115, 59, 115, 32, 115, 101]⟩ = pXX := by decide +kernel
theorem rows_xx : rowsB[8]? = some ⟨[88, 88], [], [], [101, 59, 101, 32, 101, 101, 32, 115, 32, 101, 115, 59, 115, 32, 115, 101]⟩ := by decide +kernel
theorem fits_xx : PatFits pXX := ⟨by decide, by decide, by decide, by decide, by decide⟩
theorem right_xx : rightP pXX = true := by decide +kernel
theorem baseXX {w0 w : World} {M : List Thing} {p : Pat} (O : Own w0 w M) (he : EnvB w0) (hx : p = pXX) :
    Calls Tryz.prog 14 #[.string ⟨#[88, 88]⟩] w fun e w' => ∃ a0 c0 a1 c1 am cm, e = .returned (.tuple #[.agg #[.string (strO p.name), .slice a0 p.pre0.length c0, .slice a1 p.pre1.length c1, .slice am p.msgs.length cm], .int .i64 0]) ∧ Own w0 w' (patT (pvx a0 c0 a1 c1 am cm p) p :: M) := by
  have h := baseE (p := p) O 8 _ rows_xx he (base_xx.trans hx.symm)
  have e : strO (BRow.name ⟨[88, 88], [], [], [101, 59, 101, 32, 101, 101, 32, 115, 32, 101, 115, 59, 115, 32, 115, 101]⟩) = ⟨#[88, 88]⟩ := rfl
  rw [e] at h
  exact h
def xA0 : Ar := newAr 200
def xA1 : Ar := (mk xA0 ⟨1, 1, 0, 0, 0⟩).1
def xA2 : Ar := (mk xA1 ⟨1, 2, 0, 0, 0⟩).1
def xA3 : Ar := (mk xA2 ⟨1, 3, 0, 0, 0⟩).1
def xA4 : Ar := (mk xA3 ⟨1, 4, 0, 0, 0⟩).1
def xA5 : Ar := (mk xA4 ⟨1, 5, 0, 0, 0⟩).1
theorem xm1 : mk xA0 ⟨1, 1, 0, 0, 0⟩ = (xA1, 1, 0) := by kernel_rfl
theorem xm2 : mk xA1 ⟨1, 2, 0, 0, 0⟩ = (xA2, 2, 0) := by kernel_rfl
theorem xm3 : mk xA2 ⟨1, 3, 0, 0, 0⟩ = (xA3, 3, 0) := by kernel_rfl
theorem xm4 : mk xA3 ⟨1, 4, 0, 0, 0⟩ = (xA4, 4, 0) := by kernel_rfl
theorem xm5 : mk xA4 ⟨1, 5, 0, 0, 0⟩ = (xA5, 5, 0) := by kernel_rfl
def xA6 : Ar := (startC xA5 pXX 0 0 ⟨1, 0, 0, 0, []⟩).1
def xA7 : Ar := (startC xA6 pXX 1 0 ⟨2, 0, 0, 0, []⟩).1
def xA8 : Ar := (writeC xA7 0 1 [] pXX ⟨0, 0, 0, 0, 0, ⟨8, 9, ⟨0, false, 0⟩⟩⟩ 3 5).1
theorem xst0 : startC xA5 pXX 0 0 ⟨1, 0, 0, 0, []⟩ = (xA6, ⟨8, 9, ⟨0, false, 0⟩⟩, 0) := by kernel_rfl
theorem xst1 : startC xA6 pXX 1 0 ⟨2, 0, 0, 0, []⟩ = (xA7, ⟨8, 9, ⟨0, false, 0⟩⟩, 0) := by kernel_rfl
theorem xw : writeC xA7 0 1 [] pXX ⟨0, 0, 0, 0, 0, ⟨8, 9, ⟨0, false, 0⟩⟩⟩ 3 5 = (xA8, ⟨1, 0, 3, 0, 0, ⟨8, 12, ⟨0, false, 0⟩⟩⟩, [10, 5], 0) := by kernel_rfl
theorem xr : readC xA8 1 2 [] pXX ⟨0, 0, 0, 0, 0, ⟨8, 9, ⟨0, false, 0⟩⟩⟩ [10, 5] = (xA8, ⟨1, 0, 0, 0, 10, ⟨8, 12, ⟨0, false, 0⟩⟩⟩, 5, 0) := by kernel_rfl
theorem ci_ne {a c a' c' : Int} {b b' : Bool} (h : (⟨a, b, c⟩ : Ci) ≠ ⟨a', b', c'⟩) : (!((a == a') && ((b == b') && ((c == c') && true)))) = true := by
  cases h1 : (a == a') with
  | false => rfl
  | true =>
    cases h2 : (b == b') with
    | false => rfl
    | true =>
      cases h3 : (c == c') with
      | false => rfl
      | true =>
        exfalso
        rw [beq_iff_eq] at h1 h2 h3
        subst h1; subst h2; subst h3
        exact h rfl
theorem Inv.p7 {p : Pat} {S0 S1 : Int} {psks : List Int} {n : Nat} {A : Ar} {h0 h1 : Hs} {m : Msg} (I : Inv p S0 S1 psks n A h0 h1) (hm : p.msgs[n]? = some m) : 0 ≤ h0.nx ∧ h0.nx + cnt7 (toks p n) ≤ psks.length := by
  obtain ⟨f, last, j, fe, hA, P, i1, i2, i3, -⟩ := I
  rw [toks_at hm]
  rw [drop_at hm] at i3
  simp only [cntM] at i3
  have := cntM_pos (p.msgs.drop (n + 1))
  exact ⟨i2, by omega⟩
theorem Inv.u64 {p : Pat} {S0 S1 : Int} {psks : List Int} {n : Nat} {A : Ar} {h0 h1 : Hs} (I : Inv p S0 S1 psks n A h0 h1) (hn : n ≤ 6) : U64 h0.y.c.n := (I.facts hn).2.2.2.2.2.2.2
theorem InvO.p7 {p : Pat} {S0 S1 : Int} {q0 q1 : List Int} {n : Nat} {A : Ar} {h0 h1 : Hs} {m : Msg} (I : InvO p S0 S1 q0 q1 n A h0 h1) (hm : p.msgs[n]? = some m) : (0 ≤ h0.nx ∧ h0.nx + cnt7 (toks p n) ≤ q0.length) ∧ (0 ≤ h0.nx ∧ h0.nx + cnt7 (toks p n) ≤ q1.length) := by
  obtain ⟨f, last, j, fe, hA, P, i1, i2, i3, i4, -⟩ := I
  rw [toks_at hm]
  rw [drop_at hm] at i3
  simp only [cntM] at i3
  have := cntM_pos (p.msgs.drop (n + 1))
  exact ⟨⟨i2, by omega⟩, i2, by omega⟩
/-- A round of ShakeOthers, in letters. -/
theorem InvO.go {p : Pat} {S0 S1 : Int} {q0 q1 : List Int} {n : Nat} {A : Ar} {vx vE vR vQ vk vh vc vn uE uR uQ uk uh uc un : Int} {vb ub : Bool} {m : Msg} (I : InvO p S0 S1 q0 q1 n A ⟨(n : Int), vx, vE, vR, vQ, ⟨vk, vh, ⟨vc, vb, vn⟩⟩⟩ ⟨(n : Int), vx, uE, uR, uQ, ⟨uk, uh, ⟨uc, ub, un⟩⟩⟩) (hr : rightP p = true) (hm : p.msgs[n]? = some m) (hA : 29 ≤ A.l.length) :
    (m.frm = 0 → ∃ A' B' wa wx wE wR wQ wk wh wc wb wn za zx zE zR zQ zk zh zc zb zn msg x no, writeC A 0 S0 q0 p ⟨(n : Int), vx, vE, vR, vQ, ⟨vk, vh, ⟨vc, vb, vn⟩⟩⟩ ((n : Int) + 3) ((n : Int) + 9) = (A', ⟨wa, wx, wE, wR, wQ, ⟨wk, wh, ⟨wc, wb, wn⟩⟩⟩, msg, 0) ∧ readC A' 1 S1 q1 p ⟨(n : Int), vx, uE, uR, uQ, ⟨uk, uh, ⟨uc, ub, un⟩⟩⟩ msg = (B', ⟨za, zx, zE, zR, zQ, ⟨zk, zh, ⟨zc, zb, zn⟩⟩⟩, x, no) ∧ 29 ≤ B'.l.length ∧ msg.length ≤ 1000000 ∧ ((no = 7 ∧ x = 0) ∨ (no = 0 ∧ wa = (n : Int) + 1 ∧ za = (n : Int) + 1 ∧ zx = wx ∧ InvO p S0 S1 q0 q1 (n + 1) B' ⟨(n : Int) + 1, wx, wE, wR, wQ, ⟨wk, wh, ⟨wc, wb, wn⟩⟩⟩ ⟨(n : Int) + 1, wx, zE, zR, zQ, ⟨zk, zh, ⟨zc, zb, zn⟩⟩⟩))) ∧
    (m.frm = 1 → ∃ A' B' wa wx wE wR wQ wk wh wc wb wn za zx zE zR zQ zk zh zc zb zn msg x no, writeC A 1 S1 q1 p ⟨(n : Int), vx, uE, uR, uQ, ⟨uk, uh, ⟨uc, ub, un⟩⟩⟩ ((n : Int) + 17) ((n : Int) + 23) = (A', ⟨wa, wx, wE, wR, wQ, ⟨wk, wh, ⟨wc, wb, wn⟩⟩⟩, msg, 0) ∧ readC A' 0 S0 q0 p ⟨(n : Int), vx, vE, vR, vQ, ⟨vk, vh, ⟨vc, vb, vn⟩⟩⟩ msg = (B', ⟨za, zx, zE, zR, zQ, ⟨zk, zh, ⟨zc, zb, zn⟩⟩⟩, x, no) ∧ 29 ≤ B'.l.length ∧ msg.length ≤ 1000000 ∧ ((no = 7 ∧ x = 0) ∨ (no = 0 ∧ wa = (n : Int) + 1 ∧ za = (n : Int) + 1 ∧ zx = wx ∧ InvO p S0 S1 q0 q1 (n + 1) B' ⟨(n : Int) + 1, wx, zE, zR, zQ, ⟨zk, zh, ⟨zc, zb, zn⟩⟩⟩ ⟨(n : Int) + 1, wx, wE, wR, wQ, ⟨wk, wh, ⟨wc, wb, wn⟩⟩⟩))) := by
  obtain ⟨-, -, -, -, hlen, -⟩ := rightP_facts hr
  have hn := idx_lt hm
  have hl := ptoks_len hr hm
  refine ⟨fun h => ?_, fun h => ?_⟩
  · obtain ⟨A', B', ⟨g1, g2, g3, g4, g5, ⟨g6, g7, ⟨g8, g9, g10⟩⟩⟩, msg, ⟨k1, k2, k3, k4, k5, ⟨k6, k7, ⟨k8, k9, k10⟩⟩⟩, x, no, a1, a2, a3, a4⟩ := (I.step hr hm (e := (n : Int) + 3) (payload := (n : Int) + 9) (by omega) (has_small hA (by omega) (by omega)) (has_small hA (by omega) (by omega))).1 h
    have hw := writeC_len a1
    simp only at hw
    refine ⟨A', B', g1, g2, g3, g4, g5, g6, g7, g8, g9, g10, k1, k2, k3, k4, k5, k6, k7, k8, k9, k10, msg, x, no, a1, a2, a3.min hA, by omega, ?_⟩
    rcases a4 with a4 | ⟨a4, a5⟩
    · exact .inl a4
    · obtain ⟨-, f2, f3, f4, -⟩ := a5.facts (by omega)
      simp only at f2 f3 f4
      subst f2 f3 f4
      exact .inr ⟨a4, rfl, rfl, rfl, a5⟩
  · obtain ⟨A', B', ⟨k1, k2, k3, k4, k5, ⟨k6, k7, ⟨k8, k9, k10⟩⟩⟩, msg, ⟨g1, g2, g3, g4, g5, ⟨g6, g7, ⟨g8, g9, g10⟩⟩⟩, x, no, a1, a2, a3, a4⟩ := (I.step hr hm (e := (n : Int) + 17) (payload := (n : Int) + 23) (by omega) (has_small hA (by omega) (by omega)) (has_small hA (by omega) (by omega))).2 h
    have hw := writeC_len a1
    simp only at hw
    refine ⟨A', B', g1, g2, g3, g4, g5, g6, g7, g8, g9, g10, k1, k2, k3, k4, k5, k6, k7, k8, k9, k10, msg, x, no, a1, a2, a3.min hA, by omega, ?_⟩
    rcases a4 with a4 | ⟨a4, a5⟩
    · exact .inl a4
    · obtain ⟨-, f2, f3, f4, -⟩ := a5.facts (by omega)
      simp only at f2 f3 f4
      subst f2 f3 f4
      exact .inr ⟨a4, rfl, rfl, rfl, a5⟩
theorem two_facts {us K : List Int} {At : Ar} {rs0 re0 rs1 re1 : Int} (hu : ∀ u ∈ us, 0 ≤ u) (hl : us.length ≤ 10) (ht : twoC us = ⟨At, rs0, re0, K, rs1, re1, K⟩) :
    ArOk At ∧ Keys2 At ⟨1, 2, rs0, re0, K⟩ ⟨15, 16, rs1, re1, K⟩ ∧ K.length = us.length ∧ (∀ y ∈ K, has At.l y = true ∧ y ≠ 14) ∧ 29 ≤ At.l.length ∧ At.l.length + 1000 ≤ At.limit := by
  obtain ⟨g, K2, -, hkl, hk⟩ := two_all hu hl
  rw [ht] at g K2 hkl hk
  replace g : Grow arS1 At 24 := g
  replace K2 : Keys2 At ⟨1, 2, rs0, re0, K⟩ ⟨15, 16, rs1, re1, K⟩ := K2
  replace hkl : K.length = us.length := hkl
  replace hk : ∀ y ∈ K, has At.l y = true ∧ ∃ u, 1000 ≤ u ∧ nd At.l y = ⟨1, u, 0, 0, 0⟩ := hk
  have hl0 := arS1_len.1
  have hm0 := arS1_len.2
  have h1 := g.len
  have h2 := g.limit
  refine ⟨g.ok, K2, hkl, fun y hy => ⟨(hk y hy).1, fun e => ?_⟩, g.min (by omega), by rw [h2, hm0]; omega⟩
  obtain ⟨u, u1, u2⟩ := (hk y hy).2
  have h14 : has arS1.l 14 = true := has_iff.2 (by rw [hl0]; decide)
  have e14 : nd arS1.l 14 = ⟨1, 113, 0, 0, 0⟩ := by kernel_rfl
  rw [e, nd_pre g.pre h14, e14] at u2
  injection u2 with _ h3
  omega
theorem twoK {us : List Int} (hu : ∀ u ∈ us, 0 ≤ u) (hl : us.length ≤ 10) : ∃ At rs0 re0 K rs1 re1, twoC us = ⟨At, rs0, re0, K, rs1, re1, K⟩ := by
  obtain ⟨-, -, h, -⟩ := two_all hu hl
  generalize twoC us = t at h
  obtain ⟨a, b, c, d, e, f, g⟩ := t
  simp only at h
  subst h
  exact ⟨_, _, _, _, _, _, rfl⟩
/-- There is no handshake, whatever the other one's prologue and psks. -/
theorem why_no {p : Pat} {us K K' : List Int} {At : Ar} {rs0 re0 rs1 re1 pro : Int} (hu : ∀ u ∈ us, 0 ≤ u) (hl : us.length ≤ 10) (ht : twoC us = ⟨At, rs0, re0, K, rs1, re1, K⟩) (hpro : 0 ≤ pro ∧ pro ≤ 28) (hK' : K'.length = K.length ∧ ∀ y ∈ K', y = 14 ∨ y ∈ K) (hw : whyC p ⟨1, 2, rs0, re0, K⟩ ≠ 0) :
    startC At p 0 0 ⟨1, 2, rs0, re0, K⟩ = (At, Sy.zero, whyC p ⟨1, 2, rs0, re0, K⟩) ∧ startC At p 1 pro ⟨15, 16, rs1, re1, K'⟩ = (At, Sy.zero, whyC p ⟨1, 2, rs0, re0, K⟩) := by
  obtain ⟨hA, K2, hkl, hK, h29, room⟩ := two_facts hu hl ht
  have K3 : Keys2 At ⟨1, 2, rs0, re0, K⟩ ⟨15, 16, rs1, re1, K'⟩ := ⟨K2.rs0, K2.re0, K2.rs1, K2.re1, K2.pos, hK'.1.symm, K2.p0, fun y hy => by
    rcases hK'.2 y hy with rfl | hy
    · exact has_small h29 (by omega) (by omega)
    · exact K2.p0 y hy⟩
  exact ⟨(K3.no (has_first hA) hw).1, (K3.no (has_small h29 hpro.1 hpro.2) hw).2⟩
end Go.Proofs.YtikimmgileffgaaGreatDoor
end
/- Law 12: awake walked. Printed by s_law12x.py. -/
section
namespace Go.Proofs.YtikimmgileffgaaGreatDoor
open Go.RowKit
set_option warningAsError false in
set_option maxRecDepth 100000 in
set_option maxHeartbeats 8000000 in
theorem awake12E {w0 w : World} {M : List Thing} (O : Own w0 w M) (henv : EnvB w0) :
    Calls Tryz.prog 20 #[] w fun e' w' => e' = .returned (.bool true) ∧ Own w0 w' M := by
 obtain ⟨T, hT⟩ : ∃ T : List Ent, T.map Ent.t = M := ⟨M.map Ent.thing, by rw [List.map_map]; exact List.map_id'' (fun _ => rfl) M⟩
 subst hT
 replace O : Own w0 w (List.map Ent.t (T)) := O
 obtain ⟨p, hpx⟩ : ∃ p, p = pXX := ⟨_, rfl⟩
 have hfit : PatFits p := by rw [hpx]; exact fits_xx
 have hright : rightP p = true := by rw [hpx]; exact right_xx
 have hkl : ([] : List Int).length * 8 ≤ 140737488355328 := by decide
 obtain ⟨A0, hA0⟩ : ∃ A, A = xA0 := ⟨_, rfl⟩
 obtain ⟨A1, hA1⟩ : ∃ A, A = xA1 := ⟨_, rfl⟩
 obtain ⟨A2, hA2⟩ : ∃ A, A = xA2 := ⟨_, rfl⟩
 obtain ⟨A3, hA3⟩ : ∃ A, A = xA3 := ⟨_, rfl⟩
 obtain ⟨A4, hA4⟩ : ∃ A, A = xA4 := ⟨_, rfl⟩
 obtain ⟨A5, hA5⟩ : ∃ A, A = xA5 := ⟨_, rfl⟩
 obtain ⟨A6, hA6⟩ : ∃ A, A = xA6 := ⟨_, rfl⟩
 obtain ⟨A7, hA7⟩ : ∃ A, A = xA7 := ⟨_, rfl⟩
 obtain ⟨A8, hA8⟩ : ∃ A, A = xA8 := ⟨_, rfl⟩
 have hm1 : mk A0 ⟨1, 1, 0, 0, 0⟩ = (A1, 1, 0) := by rw [hA0, hA1]; exact xm1
 have hm2 : mk A1 ⟨1, 2, 0, 0, 0⟩ = (A2, 2, 0) := by rw [hA1, hA2]; exact xm2
 have hm3 : mk A2 ⟨1, 3, 0, 0, 0⟩ = (A3, 3, 0) := by rw [hA2, hA3]; exact xm3
 have hm4 : mk A3 ⟨1, 4, 0, 0, 0⟩ = (A4, 4, 0) := by rw [hA3, hA4]; exact xm4
 have hm5 : mk A4 ⟨1, 5, 0, 0, 0⟩ = (A5, 5, 0) := by rw [hA4, hA5]; exact xm5
 have hs0 : startC A5 p 0 0 ⟨1, 0, 0, 0, []⟩ = (A6, ⟨8, 9, ⟨0, false, 0⟩⟩, 0) := by rw [hA5, hA6, hpx]; exact xst0
 have hs1 : startC A6 p 1 0 ⟨2, 0, 0, 0, []⟩ = (A7, ⟨8, 9, ⟨0, false, 0⟩⟩, 0) := by rw [hA6, hA7, hpx]; exact xst1
 have hw : writeC A7 0 1 [] p ⟨0, 0, 0, 0, 0, ⟨8, 9, ⟨0, false, 0⟩⟩⟩ 3 5 = (A8, ⟨1, 0, 3, 0, 0, ⟨8, 12, ⟨0, false, 0⟩⟩⟩, [10, 5], 0) := by rw [hA7, hA8, hpx]; exact xw
 have hrd : readC A8 1 2 [] p ⟨0, 0, 0, 0, 0, ⟨8, 9, ⟨0, false, 0⟩⟩⟩ [10, 5] = (A8, ⟨1, 0, 0, 0, 10, ⟨8, 12, ⟨0, false, 0⟩⟩⟩, 5, 0) := by rw [hA8, hpx]; exact xr
 have hS0 : sel (needOf p 0).1.s 1 = 1 := by rw [hpx]; decide +kernel
 have hE0 : sel (needOf p 0).1.e 0 = 0 := by rw [hpx]; decide +kernel
 have hR0 : sel (needOf p 0).1.rs 0 = 0 := by rw [hpx]; decide +kernel
 have hQ0 : sel (needOf p 0).1.re 0 = 0 := by rw [hpx]; decide +kernel
 have hS1 : sel (needOf p 1).1.s 2 = 2 := by rw [hpx]; decide +kernel
 have hE1 : sel (needOf p 1).1.e 0 = 0 := by rw [hpx]; decide +kernel
 have hR1 : sel (needOf p 1).1.rs 0 = 0 := by rw [hpx]; decide +kernel
 have hQ1 : sel (needOf p 1).1.re 0 = 0 := by rw [hpx]; decide +kernel
 have p70 : 0 ≤ (0 : Int) ∧ 0 + cnt7 (toks p 0) ≤ ([] : List Int).length := by rw [hpx]; decide +kernel
 have hlen : p.msgs.length = 3 := by rw [hpx]; rfl
 refine gent O Tryz.func20 ?_
 refine sg0 [.p 1] O fun w1 O2 => ?_
 refine gc (args := #[.string ⟨#[88, 88]⟩]) (baseXX O2 henv hpx) ?_
 rintro e5 w3 ⟨q0, d0, q1, d1, qm, dm, rfl, O4⟩
 refine gr O4.mcons fun O4 => ?_
 refine sg1 [.p 3, .n [], .s 0 [], .p 1] O4 fun b6 w7 O8 => ?_
 refine gc (args := #[.int .i64 200]) (newEA O8 (hA0.trans rfl)) ?_
 rintro e11 w9 ⟨r, rfl, O10⟩
 refine gr O10.mcons fun O10 => ?_
 refine sg0 [.p 10, .u 5, .p 9] O10 fun w12 O13 => ?_
 refine gS (mkE (r := r) O13 0 (by kernel_rfl) (by decide) (by decide) hm1) fun w14 O15 => ?_
 refine sg1 [.p 7, .n []] O15 fun b17 w18 O19 => ?_
 refine gNil 3 O19 fun O20 => ?_
 refine gcatI (.tmp 39) (.tmp 41) 29 O20 3 [] none 0 0 b17 1 1 3 1 (by decide) fun B21 d22 w23 O24 => ?_
 refine sg0 [.p 12] O24 fun w25 O26 => ?_
 refine gS (mkE (r := r) O26 2 (by kernel_rfl) (by decide) (by decide) hm2) fun w27 O28 => ?_
 refine sg1 [.p 7, .n []] O28 fun b30 w31 O32 => ?_
 refine gcatI (.tmp 39) (.tmp 41) 29 O32 3 ([] ++ [1]) B21 d22 1 b30 0 2 3 1 (by decide) fun B33 d34 w35 O36 => ?_
 refine sg0 [.p 12] O36 fun w37 O38 => ?_
 refine gS (mkE (r := r) O38 3 (by kernel_rfl) (by decide) (by decide) hm3) fun w39 O40 => ?_
 refine sg1 [.p 7, .n []] O40 fun b42 w43 O44 => ?_
 refine gcatI (.tmp 39) (.tmp 41) 29 O44 3 (([] ++ [1]) ++ [2]) B33 d34 2 b42 0 3 3 1 (by decide) fun B45 d46 w47 O48 => ?_
 refine sg0 [.p 12] O48 fun w49 O50 => ?_
 refine gS (mkE (r := r) O50 4 (by kernel_rfl) (by decide) (by decide) hm4) fun w51 O52 => ?_
 refine sg1 [.p 7, .n []] O52 fun b54 w55 O56 => ?_
 refine gcatI (.tmp 39) (.tmp 41) 29 O56 3 ((([] ++ [1]) ++ [2]) ++ [3]) B45 d46 3 b54 0 4 3 1 (by decide) fun B57 d58 w59 O60 => ?_
 refine sg0 [.p 12] O60 fun w61 O62 => ?_
 refine gS (mkE (r := r) O62 5 (by kernel_rfl) (by decide) (by decide) hm5) fun w63 O64 => ?_
 refine sg1 [.p 7, .n []] O64 fun b66 w67 O68 => ?_
 refine gcatI (.tmp 39) (.tmp 41) 29 O68 3 (((([] ++ [1]) ++ [2]) ++ [3]) ++ [4]) B57 d58 4 b66 0 5 3 1 (by decide) fun B69 d70 w71 O72 => ?_
 refine sg0 [.p 5] O72 fun w73 O74 => ?_
 obtain ⟨gl, rfl⟩ := O74.rowB1 (i := 4) (el := 3) (size := 1) (n := ((((([] ++ [1]) ++ [2]) ++ [3]) ++ [4]) ++ [5]).length) (d := d70) (B := B69) (xs := intsV ((((([] ++ [1]) ++ [2]) ++ [3]) ++ [4]) ++ [5])) (by kernel_rfl) (by decide)
 refine gL 4 (.row 3 1 gl 5 d70 [.int .i64 1, .int .i64 2, .int .i64 3, .int .i64 4, .int .i64 5]) O74 fun O75 => ?_
 refine sg0 [.d [4, 7], .qs [0], .q 1 (.r 1), .qs [2, 3], .q 4 (.r 0), .qs [5]] O75 fun w76 O77 => ?_
 refine gA [6, 10] O77 ⟨?_, ?_, trivial⟩
 · intro O78
   refine gc (args := #[.pointer (some ⟨r, 0, none⟩), .agg #[.string (strO p.name), .slice q0 p.pre0.length d0, .slice q1 p.pre1.length d1, .slice qm p.msgs.length dm], .int .i64 0, .int .i64 0, .agg #[.int .i64 1, .int .i64 0, .int .i64 0, .int .i64 0, .slice none 0 0]]) (startX (.inl rfl) (psks := ([] : List Int)) (B := none) (dB := 0) (p := p) (A := A5) O78 6 (by kernel_rfl) (kept_pat (x := (pvx q0 d0 q1 d1 qm dm p)) 8 (by kernel_rfl) (by decide)) hfit henv.str (kept_old fun _ _ => .inl rfl) hkl hS0 hE0 hR0 hQ0 hs0) ?_
   rintro e81 w79 ⟨a0h, c0h, a1h, c1h, amh, cmh, bkh, dkh, rfl, O80⟩
   refine gr (js := [5, 8]) O80.mconsS fun O80 => ?_
   refine sg1 [.qs [7, 8, 9], .o 10, .n [6, 9], .o 11, .s 0 [6, 9], .qs [12], .z, .d [6, 9], .qs [0], .q 1 (.r 1), .qs [2, 3], .q 4 (.r 0), .qs [5]] O80 fun b82 w83 O84 => ?_
   refine gA [6, 10] O84 ⟨?_, ?_, trivial⟩
   · intro O85
     refine gc (args := #[.pointer (some ⟨r, 0, none⟩), .agg #[.string (strO p.name), .slice q0 p.pre0.length d0, .slice q1 p.pre1.length d1, .slice qm p.msgs.length dm], .int .i64 1, .int .i64 0, .agg #[.int .i64 2, .int .i64 0, .int .i64 0, .int .i64 0, .slice none 0 0]]) (startX (.inr rfl) (psks := ([] : List Int)) (B := none) (dB := 0) (p := p) (A := A6) O85 8 (by kernel_rfl) (kept_pat (x := (pvx q0 d0 q1 d1 qm dm p)) 10 (by kernel_rfl) (by decide)) hfit henv.str (kept_old fun _ _ => .inl rfl) hkl hS1 hE1 hR1 hQ1 hs1) ?_
     rintro e88 w86 ⟨a0g, c0g, a1g, c1g, amg, cmg, bkg, dkg, rfl, O87⟩
     refine gr (js := [7, 10]) O87.mconsS fun O87 => ?_
     refine sg1 [.qs [7, 8, 9], .o 10, .n [8, 11], .o 11, .s 0 [8, 11], .qs [12], .z, .d [8], .qs [1, 2, 3], .q 4 (.r 0), .qs [5, 6], .q 7 (.r 0), .o 0, .a (.r 2), .o 8] O87 fun b89 w90 O91 => ?_
     refine gc (args := #[.agg #[.int .i64 0, .int .i64 0, .int .i64 0, .string (strO p.name), .slice a0h p.pre0.length c0h, .slice a1h p.pre1.length c1h, .slice amh p.msgs.length cmh, .int .i64 1, .int .i64 0, .int .i64 0, .int .i64 0, .slice bkh (([] : List Int).length) dkh, .int .i64 8, .int .i64 9, .int .i64 0, .bool false, .int .u64 0], .pointer (some ⟨r, 0, none⟩), .int .i64 3, .int .i64 5]) (writeOk (r := r) O91 10 (by kernel_rfl) 3 (by kernel_rfl) (hasShk_shk (pvx a0h c0h a1h c1h amh cmh p) p bkh dkh ([] : List Int)) hfit (by decide) hright (.inl rfl) p70 hkl ⟨by decide, by decide⟩ hw) ?_
     rintro e96 w94 ⟨mB92, md93, rfl, O95⟩
     refine gr (js := [9]) O95.mconsS fun O95 => ?_
     refine sg0 [.qs [9, 10, 11, 12], .o 13, .s 3 [9], .qs [14, 15], .z, .a (.r 1), .p 2] O95 fun w97 O98 => ?_
     refine gS (args := #[.agg #[.int .i64 1, .int .i64 0, .int .i64 0, .string (strO p.name), .slice a0g p.pre0.length c0g, .slice a1g p.pre1.length c1g, .slice amg p.msgs.length cmg, .int .i64 2, .int .i64 0, .int .i64 0, .int .i64 0, .slice bkg (([] : List Int).length) dkg, .int .i64 8, .int .i64 9, .int .i64 0, .bool false, .int .u64 0], .pointer (some ⟨r, 0, none⟩), .slice mB92 ([10, 5].length) md93]) (readOk (msg := [10, 5]) (mB := mB92) (md := md93) (r := r) O98 11 (by kernel_rfl) 2 (by kernel_rfl) (hasShk_shk (pvx a0g c0g a1g c1g amg cmg p) p bkg dkg ([] : List Int)) hfit (by decide) hright (.inr rfl) (Int.le_refl _) p70 hkl ⟨by decide, by decide⟩ (by decide) (kept2_thing 0 (by kernel_rfl) (by decide) (by decide) (rowI_holds (B := mB92) (d := md93) (l := [10, 5]))) hrd) fun w99 O100 => ?_
     refine sg0 [.p 4, .s 1 [], .p 19, .a (bT (show (([10, 5].length : Int) == 2) = true from rfl)), .p 5, .a (.r 9), .p 4, .a (.r 3), .p 1, .a (.r 1), .a (.e ((((8 : Int) == 8) && (((12 : Int) == 12) && ((((0 : Int) == 0) && ((false == false) && (((0 : Int) == 0) && true))) && true)))) true (by simp [])), .p 2, .a (.r 1)] O100 fun w102 O103 => ?_
     refine gi (args := #[.agg #[.int .i64 1, .int .i64 1, .int .i64 0, .string (strO p.name), .slice a0g p.pre0.length c0g, .slice a1g p.pre1.length c1g, .slice amg p.msgs.length cmg, .int .i64 2, .int .i64 0, .int .i64 0, .int .i64 10, .slice bkg (([] : List Int).length) dkg, .int .i64 8, .int .i64 12, .int .i64 0, .bool false, .int .u64 0]]) Tryz.func23 O103 fun O103i => ?_
     refine sg1 [.n [], .p 2, .a (.r 0), .p 1, .a (.r 0), .p 1, .a (.r 0)] O103i fun b104 w105 O106 => ?_
     refine gU (args := #[.agg #[.string (strO p.name), .slice a0g p.pre0.length c0g, .slice a1g p.pre1.length c1g, .slice amg p.msgs.length cmg], .int .i64 1, .int .i64 1]) (sendsX (role := 1) (n := 1) (is := true) O106 3 (by kernel_rfl) (hasShk_shk (pvx a0g c0g a1g c1g amg cmg p) p bkg dkg ([] : List Int)).hasPat hfit (by rw [hpx]; decide +kernel)) fun w107 O108 => ?_
     refine sg0 [.p 1] O108 fun w110 O111 => ?_
     refine gir [] O111 fun O112 => ?_
     refine sg0 [.p 2, .a (.r 4)] O112 fun w113 O114 => ?_
     refine gi (args := #[.agg #[.int .i64 0, .int .i64 1, .int .i64 0, .string (strO p.name), .slice a0h p.pre0.length c0h, .slice a1h p.pre1.length c1h, .slice amh p.msgs.length cmh, .int .i64 1, .int .i64 3, .int .i64 0, .int .i64 0, .slice bkh (([] : List Int).length) dkh, .int .i64 8, .int .i64 12, .int .i64 0, .bool false, .int .u64 0]]) Tryz.func23 O114 fun O114i => ?_
     refine sg1 [.n [], .p 2, .a (.r 0), .p 1, .a (.r 0), .p 1, .a (.r 0)] O114i fun b115 w116 O117 => ?_
     refine gU (args := #[.agg #[.string (strO p.name), .slice a0h p.pre0.length c0h, .slice a1h p.pre1.length c1h, .slice amh p.msgs.length cmh], .int .i64 0, .int .i64 1]) (sendsX (role := 0) (n := 1) (is := false) O117 6 (by kernel_rfl) (hasShk_shk (pvx a0h c0h a1h c1h amh cmh p) p bkh dkh ([] : List Int)).hasPat hfit (by rw [hpx]; decide +kernel)) fun w118 O119 => ?_
     refine sg0 [.p 1] O119 fun w121 O122 => ?_
     refine gir [] O122 fun O123 => ?_
     refine sg0 [.p 3, .a (.r 3)] O123 fun w124 O125 => ?_
     refine gi (args := #[.agg #[.int .i64 1, .int .i64 1, .int .i64 0, .string (strO p.name), .slice a0g p.pre0.length c0g, .slice a1g p.pre1.length c1g, .slice amg p.msgs.length cmg, .int .i64 2, .int .i64 0, .int .i64 0, .int .i64 10, .slice bkg (([] : List Int).length) dkg, .int .i64 8, .int .i64 12, .int .i64 0, .bool false, .int .u64 0]]) Tryz.func24 O125 fun O125i => ?_
     refine sg1 [.n [], .p 2, .a (.r 0), .p 2, .a (.r 0), .p 1, .a (bT (decide_eq_false (p := ((1 : Int) ≥ (p.msgs.length : Int))) (by omega))), .p 1] O125i fun b126 w127 O128 => ?_
     refine gir [] O128 fun O129 => ?_
     refine sg0 [.p 3] O129 fun w130 O131 => ?_
     exact gret [] O131 (⟨rfl, O131.as 17⟩)
   · intro O132
     refine sg1 [.n [7, 10], .o 6] O132 fun b133 w134 O135 => ?_
     refine gc (args := #[.pointer (some ⟨r, 0, none⟩), .agg #[.string (strO p.name), .slice q0 p.pre0.length d0, .slice q1 p.pre1.length d1, .slice qm p.msgs.length dm], .int .i64 1, .int .i64 0, .agg #[.int .i64 2, .int .i64 0, .int .i64 0, .int .i64 0, .slice none 0 0]]) (startX (.inr rfl) (psks := ([] : List Int)) (B := none) (dB := 0) (p := p) (A := A6) O135 9 (by kernel_rfl) (kept_pat (x := (pvx q0 d0 q1 d1 qm dm p)) 11 (by kernel_rfl) (by decide)) hfit henv.str (kept_old fun _ _ => .inl rfl) hkl hS1 hE1 hR1 hQ1 hs1) ?_
     rintro e138 w136 ⟨a0g, c0g, a1g, c1g, amg, cmg, bkg, dkg, rfl, O137⟩
     refine gr (js := [8, 11]) O137.mconsS fun O137 => ?_
     refine sg0 [.qs [7, 8, 9], .o 11, .s 1 [8, 11], .qs [12], .z, .d [8], .qs [1, 2, 3], .q 4 (.r 0), .qs [5, 6], .q 7 (.r 0), .o 0, .a (.r 2), .o 8] O137 fun w139 O140 => ?_
     refine gc (args := #[.agg #[.int .i64 0, .int .i64 0, .int .i64 0, .string (strO p.name), .slice a0h p.pre0.length c0h, .slice a1h p.pre1.length c1h, .slice amh p.msgs.length cmh, .int .i64 1, .int .i64 0, .int .i64 0, .int .i64 0, .slice bkh (([] : List Int).length) dkh, .int .i64 8, .int .i64 9, .int .i64 0, .bool false, .int .u64 0], .pointer (some ⟨r, 0, none⟩), .int .i64 3, .int .i64 5]) (writeOk (r := r) O140 10 (by kernel_rfl) 3 (by kernel_rfl) (hasShk_shk (pvx a0h c0h a1h c1h amh cmh p) p bkh dkh ([] : List Int)) hfit (by decide) hright (.inl rfl) p70 hkl ⟨by decide, by decide⟩ hw) ?_
     rintro e145 w143 ⟨mB141, md142, rfl, O144⟩
     refine gr (js := [9]) O144.mconsS fun O144 => ?_
     refine sg0 [.qs [9, 10, 11, 12], .o 13, .s 3 [9], .qs [14, 15], .z, .a (.r 2), .p 2] O144 fun w146 O147 => ?_
     refine gS (args := #[.agg #[.int .i64 1, .int .i64 0, .int .i64 0, .string (strO p.name), .slice a0g p.pre0.length c0g, .slice a1g p.pre1.length c1g, .slice amg p.msgs.length cmg, .int .i64 2, .int .i64 0, .int .i64 0, .int .i64 0, .slice bkg (([] : List Int).length) dkg, .int .i64 8, .int .i64 9, .int .i64 0, .bool false, .int .u64 0], .pointer (some ⟨r, 0, none⟩), .slice mB141 ([10, 5].length) md142]) (readOk (msg := [10, 5]) (mB := mB141) (md := md142) (r := r) O147 11 (by kernel_rfl) 1 (by kernel_rfl) (hasShk_shk (pvx a0g c0g a1g c1g amg cmg p) p bkg dkg ([] : List Int)) hfit (by decide) hright (.inr rfl) (Int.le_refl _) p70 hkl ⟨by decide, by decide⟩ (by decide) (kept2_thing 0 (by kernel_rfl) (by decide) (by decide) (rowI_holds (B := mB141) (d := md142) (l := [10, 5]))) hrd) fun w148 O149 => ?_
     refine sg0 [.p 4, .s 2 [], .p 19, .a (bT (show (([10, 5].length : Int) == 2) = true from rfl)), .p 5, .a (.r 9), .p 4, .a (.r 3), .p 1, .a (.r 2), .a (.e ((((8 : Int) == 8) && (((12 : Int) == 12) && ((((0 : Int) == 0) && ((false == false) && (((0 : Int) == 0) && true))) && true)))) true (by simp [])), .p 2, .a (.r 2)] O149 fun w151 O152 => ?_
     refine gi (args := #[.agg #[.int .i64 1, .int .i64 1, .int .i64 0, .string (strO p.name), .slice a0g p.pre0.length c0g, .slice a1g p.pre1.length c1g, .slice amg p.msgs.length cmg, .int .i64 2, .int .i64 0, .int .i64 0, .int .i64 10, .slice bkg (([] : List Int).length) dkg, .int .i64 8, .int .i64 12, .int .i64 0, .bool false, .int .u64 0]]) Tryz.func23 O152 fun O152i => ?_
     refine sg1 [.n [], .p 2, .a (.r 0), .p 1, .a (.r 0), .p 1, .a (.r 0)] O152i fun b153 w154 O155 => ?_
     refine gU (args := #[.agg #[.string (strO p.name), .slice a0g p.pre0.length c0g, .slice a1g p.pre1.length c1g, .slice amg p.msgs.length cmg], .int .i64 1, .int .i64 1]) (sendsX (role := 1) (n := 1) (is := true) O155 2 (by kernel_rfl) (hasShk_shk (pvx a0g c0g a1g c1g amg cmg p) p bkg dkg ([] : List Int)).hasPat hfit (by rw [hpx]; decide +kernel)) fun w156 O157 => ?_
     refine sg0 [.p 1] O157 fun w159 O160 => ?_
     refine gir [] O160 fun O161 => ?_
     refine sg0 [.p 2, .a (.r 4)] O161 fun w162 O163 => ?_
     refine gi (args := #[.agg #[.int .i64 0, .int .i64 1, .int .i64 0, .string (strO p.name), .slice a0h p.pre0.length c0h, .slice a1h p.pre1.length c1h, .slice amh p.msgs.length cmh, .int .i64 1, .int .i64 3, .int .i64 0, .int .i64 0, .slice bkh (([] : List Int).length) dkh, .int .i64 8, .int .i64 12, .int .i64 0, .bool false, .int .u64 0]]) Tryz.func23 O163 fun O163i => ?_
     refine sg1 [.n [], .p 2, .a (.r 0), .p 1, .a (.r 0), .p 1, .a (.r 0)] O163i fun b164 w165 O166 => ?_
     refine gU (args := #[.agg #[.string (strO p.name), .slice a0h p.pre0.length c0h, .slice a1h p.pre1.length c1h, .slice amh p.msgs.length cmh], .int .i64 0, .int .i64 1]) (sendsX (role := 0) (n := 1) (is := false) O166 6 (by kernel_rfl) (hasShk_shk (pvx a0h c0h a1h c1h amh cmh p) p bkh dkh ([] : List Int)).hasPat hfit (by rw [hpx]; decide +kernel)) fun w167 O168 => ?_
     refine sg0 [.p 1] O168 fun w170 O171 => ?_
     refine gir [] O171 fun O172 => ?_
     refine sg0 [.p 3, .a (.r 4)] O172 fun w173 O174 => ?_
     refine gi (args := #[.agg #[.int .i64 1, .int .i64 1, .int .i64 0, .string (strO p.name), .slice a0g p.pre0.length c0g, .slice a1g p.pre1.length c1g, .slice amg p.msgs.length cmg, .int .i64 2, .int .i64 0, .int .i64 0, .int .i64 10, .slice bkg (([] : List Int).length) dkg, .int .i64 8, .int .i64 12, .int .i64 0, .bool false, .int .u64 0]]) Tryz.func24 O174 fun O174i => ?_
     refine sg1 [.n [], .p 2, .a (.r 0), .p 2, .a (.r 0), .p 1, .a (bT (decide_eq_false (p := ((1 : Int) ≥ (p.msgs.length : Int))) (by omega))), .p 1] O174i fun b175 w176 O177 => ?_
     refine gir [] O177 fun O178 => ?_
     refine sg0 [.p 3] O178 fun w179 O180 => ?_
     exact gret [] O180 (⟨rfl, O180.as 17⟩)
 · intro O181
   refine sg1 [.n [5, 8], .o 6] O181 fun b182 w183 O184 => ?_
   refine gc (args := #[.pointer (some ⟨r, 0, none⟩), .agg #[.string (strO p.name), .slice q0 p.pre0.length d0, .slice q1 p.pre1.length d1, .slice qm p.msgs.length dm], .int .i64 0, .int .i64 0, .agg #[.int .i64 1, .int .i64 0, .int .i64 0, .int .i64 0, .slice none 0 0]]) (startX (.inl rfl) (psks := ([] : List Int)) (B := none) (dB := 0) (p := p) (A := A5) O184 7 (by kernel_rfl) (kept_pat (x := (pvx q0 d0 q1 d1 qm dm p)) 9 (by kernel_rfl) (by decide)) hfit henv.str (kept_old fun _ _ => .inl rfl) hkl hS0 hE0 hR0 hQ0 hs0) ?_
   rintro e187 w185 ⟨a0h, c0h, a1h, c1h, amh, cmh, bkh, dkh, rfl, O186⟩
   refine gr (js := [6, 9]) O186.mconsS fun O186 => ?_
   refine sg0 [.qs [7, 8, 9], .o 11, .s 1 [6, 9], .qs [12], .z, .d [6, 9], .qs [0], .q 1 (.r 1), .qs [2, 3], .q 4 (.r 0), .qs [5]] O186 fun w188 O189 => ?_
   refine gA [6, 10] O189 ⟨?_, ?_, trivial⟩
   · intro O190
     refine gc (args := #[.pointer (some ⟨r, 0, none⟩), .agg #[.string (strO p.name), .slice q0 p.pre0.length d0, .slice q1 p.pre1.length d1, .slice qm p.msgs.length dm], .int .i64 1, .int .i64 0, .agg #[.int .i64 2, .int .i64 0, .int .i64 0, .int .i64 0, .slice none 0 0]]) (startX (.inr rfl) (psks := ([] : List Int)) (B := none) (dB := 0) (p := p) (A := A6) O190 8 (by kernel_rfl) (kept_pat (x := (pvx q0 d0 q1 d1 qm dm p)) 10 (by kernel_rfl) (by decide)) hfit henv.str (kept_old fun _ _ => .inl rfl) hkl hS1 hE1 hR1 hQ1 hs1) ?_
     rintro e193 w191 ⟨a0g, c0g, a1g, c1g, amg, cmg, bkg, dkg, rfl, O192⟩
     refine gr (js := [7, 10]) O192.mconsS fun O192 => ?_
     refine sg1 [.qs [7, 8, 9], .o 10, .n [8, 11], .o 11, .s 0 [8, 11], .qs [12], .z, .d [8], .qs [1, 2, 3], .q 4 (.r 0), .qs [5, 6], .q 7 (.r 0), .o 0, .a (.r 3), .o 8] O192 fun b194 w195 O196 => ?_
     refine gc (args := #[.agg #[.int .i64 0, .int .i64 0, .int .i64 0, .string (strO p.name), .slice a0h p.pre0.length c0h, .slice a1h p.pre1.length c1h, .slice amh p.msgs.length cmh, .int .i64 1, .int .i64 0, .int .i64 0, .int .i64 0, .slice bkh (([] : List Int).length) dkh, .int .i64 8, .int .i64 9, .int .i64 0, .bool false, .int .u64 0], .pointer (some ⟨r, 0, none⟩), .int .i64 3, .int .i64 5]) (writeOk (r := r) O196 10 (by kernel_rfl) 2 (by kernel_rfl) (hasShk_shk (pvx a0h c0h a1h c1h amh cmh p) p bkh dkh ([] : List Int)) hfit (by decide) hright (.inl rfl) p70 hkl ⟨by decide, by decide⟩ hw) ?_
     rintro e201 w199 ⟨mB197, md198, rfl, O200⟩
     refine gr (js := [9]) O200.mconsS fun O200 => ?_
     refine sg0 [.qs [9, 10, 11, 12], .o 13, .s 4 [9], .qs [14, 15], .z, .a (.r 1), .p 2] O200 fun w202 O203 => ?_
     refine gS (args := #[.agg #[.int .i64 1, .int .i64 0, .int .i64 0, .string (strO p.name), .slice a0g p.pre0.length c0g, .slice a1g p.pre1.length c1g, .slice amg p.msgs.length cmg, .int .i64 2, .int .i64 0, .int .i64 0, .int .i64 0, .slice bkg (([] : List Int).length) dkg, .int .i64 8, .int .i64 9, .int .i64 0, .bool false, .int .u64 0], .pointer (some ⟨r, 0, none⟩), .slice mB197 ([10, 5].length) md198]) (readOk (msg := [10, 5]) (mB := mB197) (md := md198) (r := r) O203 11 (by kernel_rfl) 2 (by kernel_rfl) (hasShk_shk (pvx a0g c0g a1g c1g amg cmg p) p bkg dkg ([] : List Int)) hfit (by decide) hright (.inr rfl) (Int.le_refl _) p70 hkl ⟨by decide, by decide⟩ (by decide) (kept2_thing 0 (by kernel_rfl) (by decide) (by decide) (rowI_holds (B := mB197) (d := md198) (l := [10, 5]))) hrd) fun w204 O205 => ?_
     refine sg0 [.p 4, .s 1 [], .p 19, .a (bT (show (([10, 5].length : Int) == 2) = true from rfl)), .p 5, .a (.r 9), .p 4, .a (.r 4), .p 1, .a (.r 1), .a (.e ((((8 : Int) == 8) && (((12 : Int) == 12) && ((((0 : Int) == 0) && ((false == false) && (((0 : Int) == 0) && true))) && true)))) true (by simp [])), .p 2, .a (.r 1)] O205 fun w207 O208 => ?_
     refine gi (args := #[.agg #[.int .i64 1, .int .i64 1, .int .i64 0, .string (strO p.name), .slice a0g p.pre0.length c0g, .slice a1g p.pre1.length c1g, .slice amg p.msgs.length cmg, .int .i64 2, .int .i64 0, .int .i64 0, .int .i64 10, .slice bkg (([] : List Int).length) dkg, .int .i64 8, .int .i64 12, .int .i64 0, .bool false, .int .u64 0]]) Tryz.func23 O208 fun O208i => ?_
     refine sg1 [.n [], .p 2, .a (.r 0), .p 1, .a (.r 0), .p 1, .a (.r 0)] O208i fun b209 w210 O211 => ?_
     refine gU (args := #[.agg #[.string (strO p.name), .slice a0g p.pre0.length c0g, .slice a1g p.pre1.length c1g, .slice amg p.msgs.length cmg], .int .i64 1, .int .i64 1]) (sendsX (role := 1) (n := 1) (is := true) O211 3 (by kernel_rfl) (hasShk_shk (pvx a0g c0g a1g c1g amg cmg p) p bkg dkg ([] : List Int)).hasPat hfit (by rw [hpx]; decide +kernel)) fun w212 O213 => ?_
     refine sg0 [.p 1] O213 fun w215 O216 => ?_
     refine gir [] O216 fun O217 => ?_
     refine sg0 [.p 2, .a (.r 5)] O217 fun w218 O219 => ?_
     refine gi (args := #[.agg #[.int .i64 0, .int .i64 1, .int .i64 0, .string (strO p.name), .slice a0h p.pre0.length c0h, .slice a1h p.pre1.length c1h, .slice amh p.msgs.length cmh, .int .i64 1, .int .i64 3, .int .i64 0, .int .i64 0, .slice bkh (([] : List Int).length) dkh, .int .i64 8, .int .i64 12, .int .i64 0, .bool false, .int .u64 0]]) Tryz.func23 O219 fun O219i => ?_
     refine sg1 [.n [], .p 2, .a (.r 0), .p 1, .a (.r 0), .p 1, .a (.r 0)] O219i fun b220 w221 O222 => ?_
     refine gU (args := #[.agg #[.string (strO p.name), .slice a0h p.pre0.length c0h, .slice a1h p.pre1.length c1h, .slice amh p.msgs.length cmh], .int .i64 0, .int .i64 1]) (sendsX (role := 0) (n := 1) (is := false) O222 5 (by kernel_rfl) (hasShk_shk (pvx a0h c0h a1h c1h amh cmh p) p bkh dkh ([] : List Int)).hasPat hfit (by rw [hpx]; decide +kernel)) fun w223 O224 => ?_
     refine sg0 [.p 1] O224 fun w226 O227 => ?_
     refine gir [] O227 fun O228 => ?_
     refine sg0 [.p 3, .a (.r 3)] O228 fun w229 O230 => ?_
     refine gi (args := #[.agg #[.int .i64 1, .int .i64 1, .int .i64 0, .string (strO p.name), .slice a0g p.pre0.length c0g, .slice a1g p.pre1.length c1g, .slice amg p.msgs.length cmg, .int .i64 2, .int .i64 0, .int .i64 0, .int .i64 10, .slice bkg (([] : List Int).length) dkg, .int .i64 8, .int .i64 12, .int .i64 0, .bool false, .int .u64 0]]) Tryz.func24 O230 fun O230i => ?_
     refine sg1 [.n [], .p 2, .a (.r 0), .p 2, .a (.r 0), .p 1, .a (bT (decide_eq_false (p := ((1 : Int) ≥ (p.msgs.length : Int))) (by omega))), .p 1] O230i fun b231 w232 O233 => ?_
     refine gir [] O233 fun O234 => ?_
     refine sg0 [.p 3] O234 fun w235 O236 => ?_
     exact gret [] O236 (⟨rfl, O236.as 17⟩)
   · intro O237
     refine sg1 [.n [7, 10], .o 6] O237 fun b238 w239 O240 => ?_
     refine gc (args := #[.pointer (some ⟨r, 0, none⟩), .agg #[.string (strO p.name), .slice q0 p.pre0.length d0, .slice q1 p.pre1.length d1, .slice qm p.msgs.length dm], .int .i64 1, .int .i64 0, .agg #[.int .i64 2, .int .i64 0, .int .i64 0, .int .i64 0, .slice none 0 0]]) (startX (.inr rfl) (psks := ([] : List Int)) (B := none) (dB := 0) (p := p) (A := A6) O240 9 (by kernel_rfl) (kept_pat (x := (pvx q0 d0 q1 d1 qm dm p)) 11 (by kernel_rfl) (by decide)) hfit henv.str (kept_old fun _ _ => .inl rfl) hkl hS1 hE1 hR1 hQ1 hs1) ?_
     rintro e243 w241 ⟨a0g, c0g, a1g, c1g, amg, cmg, bkg, dkg, rfl, O242⟩
     refine gr (js := [8, 11]) O242.mconsS fun O242 => ?_
     refine sg0 [.qs [7, 8, 9], .o 11, .s 1 [8, 11], .qs [12], .z, .d [8], .qs [1, 2, 3], .q 4 (.r 0), .qs [5, 6], .q 7 (.r 0), .o 0, .a (.r 3), .o 8] O242 fun w244 O245 => ?_
     refine gc (args := #[.agg #[.int .i64 0, .int .i64 0, .int .i64 0, .string (strO p.name), .slice a0h p.pre0.length c0h, .slice a1h p.pre1.length c1h, .slice amh p.msgs.length cmh, .int .i64 1, .int .i64 0, .int .i64 0, .int .i64 0, .slice bkh (([] : List Int).length) dkh, .int .i64 8, .int .i64 9, .int .i64 0, .bool false, .int .u64 0], .pointer (some ⟨r, 0, none⟩), .int .i64 3, .int .i64 5]) (writeOk (r := r) O245 10 (by kernel_rfl) 2 (by kernel_rfl) (hasShk_shk (pvx a0h c0h a1h c1h amh cmh p) p bkh dkh ([] : List Int)) hfit (by decide) hright (.inl rfl) p70 hkl ⟨by decide, by decide⟩ hw) ?_
     rintro e250 w248 ⟨mB246, md247, rfl, O249⟩
     refine gr (js := [9]) O249.mconsS fun O249 => ?_
     refine sg0 [.qs [9, 10, 11, 12], .o 13, .s 4 [9], .qs [14, 15], .z, .a (.r 2), .p 2] O249 fun w251 O252 => ?_
     refine gS (args := #[.agg #[.int .i64 1, .int .i64 0, .int .i64 0, .string (strO p.name), .slice a0g p.pre0.length c0g, .slice a1g p.pre1.length c1g, .slice amg p.msgs.length cmg, .int .i64 2, .int .i64 0, .int .i64 0, .int .i64 0, .slice bkg (([] : List Int).length) dkg, .int .i64 8, .int .i64 9, .int .i64 0, .bool false, .int .u64 0], .pointer (some ⟨r, 0, none⟩), .slice mB246 ([10, 5].length) md247]) (readOk (msg := [10, 5]) (mB := mB246) (md := md247) (r := r) O252 11 (by kernel_rfl) 1 (by kernel_rfl) (hasShk_shk (pvx a0g c0g a1g c1g amg cmg p) p bkg dkg ([] : List Int)) hfit (by decide) hright (.inr rfl) (Int.le_refl _) p70 hkl ⟨by decide, by decide⟩ (by decide) (kept2_thing 0 (by kernel_rfl) (by decide) (by decide) (rowI_holds (B := mB246) (d := md247) (l := [10, 5]))) hrd) fun w253 O254 => ?_
     refine sg0 [.p 4, .s 2 [], .p 19, .a (bT (show (([10, 5].length : Int) == 2) = true from rfl)), .p 5, .a (.r 9), .p 4, .a (.r 4), .p 1, .a (.r 2), .a (.e ((((8 : Int) == 8) && (((12 : Int) == 12) && ((((0 : Int) == 0) && ((false == false) && (((0 : Int) == 0) && true))) && true)))) true (by simp [])), .p 2, .a (.r 2)] O254 fun w256 O257 => ?_
     refine gi (args := #[.agg #[.int .i64 1, .int .i64 1, .int .i64 0, .string (strO p.name), .slice a0g p.pre0.length c0g, .slice a1g p.pre1.length c1g, .slice amg p.msgs.length cmg, .int .i64 2, .int .i64 0, .int .i64 0, .int .i64 10, .slice bkg (([] : List Int).length) dkg, .int .i64 8, .int .i64 12, .int .i64 0, .bool false, .int .u64 0]]) Tryz.func23 O257 fun O257i => ?_
     refine sg1 [.n [], .p 2, .a (.r 0), .p 1, .a (.r 0), .p 1, .a (.r 0)] O257i fun b258 w259 O260 => ?_
     refine gU (args := #[.agg #[.string (strO p.name), .slice a0g p.pre0.length c0g, .slice a1g p.pre1.length c1g, .slice amg p.msgs.length cmg], .int .i64 1, .int .i64 1]) (sendsX (role := 1) (n := 1) (is := true) O260 2 (by kernel_rfl) (hasShk_shk (pvx a0g c0g a1g c1g amg cmg p) p bkg dkg ([] : List Int)).hasPat hfit (by rw [hpx]; decide +kernel)) fun w261 O262 => ?_
     refine sg0 [.p 1] O262 fun w264 O265 => ?_
     refine gir [] O265 fun O266 => ?_
     refine sg0 [.p 2, .a (.r 5)] O266 fun w267 O268 => ?_
     refine gi (args := #[.agg #[.int .i64 0, .int .i64 1, .int .i64 0, .string (strO p.name), .slice a0h p.pre0.length c0h, .slice a1h p.pre1.length c1h, .slice amh p.msgs.length cmh, .int .i64 1, .int .i64 3, .int .i64 0, .int .i64 0, .slice bkh (([] : List Int).length) dkh, .int .i64 8, .int .i64 12, .int .i64 0, .bool false, .int .u64 0]]) Tryz.func23 O268 fun O268i => ?_
     refine sg1 [.n [], .p 2, .a (.r 0), .p 1, .a (.r 0), .p 1, .a (.r 0)] O268i fun b269 w270 O271 => ?_
     refine gU (args := #[.agg #[.string (strO p.name), .slice a0h p.pre0.length c0h, .slice a1h p.pre1.length c1h, .slice amh p.msgs.length cmh], .int .i64 0, .int .i64 1]) (sendsX (role := 0) (n := 1) (is := false) O271 5 (by kernel_rfl) (hasShk_shk (pvx a0h c0h a1h c1h amh cmh p) p bkh dkh ([] : List Int)).hasPat hfit (by rw [hpx]; decide +kernel)) fun w272 O273 => ?_
     refine sg0 [.p 1] O273 fun w275 O276 => ?_
     refine gir [] O276 fun O277 => ?_
     refine sg0 [.p 3, .a (.r 4)] O277 fun w278 O279 => ?_
     refine gi (args := #[.agg #[.int .i64 1, .int .i64 1, .int .i64 0, .string (strO p.name), .slice a0g p.pre0.length c0g, .slice a1g p.pre1.length c1g, .slice amg p.msgs.length cmg, .int .i64 2, .int .i64 0, .int .i64 0, .int .i64 10, .slice bkg (([] : List Int).length) dkg, .int .i64 8, .int .i64 12, .int .i64 0, .bool false, .int .u64 0]]) Tryz.func24 O279 fun O279i => ?_
     refine sg1 [.n [], .p 2, .a (.r 0), .p 2, .a (.r 0), .p 1, .a (bT (decide_eq_false (p := ((1 : Int) ≥ (p.msgs.length : Int))) (by omega))), .p 1] O279i fun b280 w281 O282 => ?_
     refine gir [] O282 fun O283 => ?_
     refine sg0 [.p 3] O283 fun w284 O285 => ?_
     exact gret [] O285 (⟨rfl, O285.as 17⟩)
end Go.Proofs.YtikimmgileffgaaGreatDoor
end
