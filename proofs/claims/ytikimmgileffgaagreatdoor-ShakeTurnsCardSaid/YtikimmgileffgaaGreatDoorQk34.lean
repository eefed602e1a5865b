/- Packed by packn.py: L12b, SB, XX12. -/
import Derived.Test.YtikimmgileffgaaGreatDoorQk29
import Derived.Test.YtikimmgileffgaaGreatDoorQk33
import Derived.Test.YtikimmgileffgaaGreatDoorQk23
import Derived.Test.YtikimmgileffgaaGreatDoorQk03
/- What the walks of law 12 call. -/
section
namespace Go.Proofs.YtikimmgileffgaaGreatDoor
open Go.RowKit

theorem arenasY {w0 w : World} {M : List Thing} {a0 a1 am uB : Option Addr} {c0 c1 cm ud : Nat} {p : Pat} {us : List Int} {lim ams chg : Int} {t : Two} (O : Own w0 w M) (hp : PatIn w0 (Old w0) (pvx a0 c0 a1 c1 am cm p) p) (hfit : PatFits p) (hfew : fewP p = true) (hul : us.length ≤ 10) (hU : Holds w0 uB (u64V us)) (hus : ∀ u ∈ us, U64 u) (ht : twoC us = t) :
    Calls Tryz.prog 19 #[.agg #[.string (strO p.name), .slice a0 p.pre0.length c0, .slice a1 p.pre1.length c1, .slice am p.msgs.length cm, .slice uB us.length ud, .int .i64 lim, .int .u8 ams, .int .u8 chg]] w fun e' w' => ∃ r g0 d0 g1 d1 B0 e0 B1 e1 nB m nd, e' = .returned (twoV t r g0 d0 g1 d1 B0 e0 B1 e1 nB m nd) ∧ Own w0 w' (twoT t r g0 d0 g1 d1 B0 e0 B1 e1 ++ M) :=
  (arenasE (hp.below O.below) hfit hfew (hU.below O.below) hus).mono fun e' w' h => by
    rcases h with ⟨_, _, r, g0, d0, g1, d1, B0, e0, B1, e1, nB, m, nd, h1, h2⟩ | ⟨h | h, _⟩
    · subst ht; exact ⟨r, g0, d0, g1, d1, B0, e0, B1, e1, nB, m, nd, h1, O.joined h2⟩
    · cases h
    · omega
theorem arenasN {w0 w : World} {M : List Thing} {a0 a1 am uB : Option Addr} {c0 c1 cm ud : Nat} {p : Pat} {us : List Int} {lim ams chg : Int} (O : Own w0 w M) (hp : PatIn w0 (Old w0) (pvx a0 c0 a1 c1 am cm p) p) (hfit : PatFits p) (hno : ¬ (fewP p = true ∧ us.length ≤ 10)) (hU : Holds w0 uB (u64V us)) (hus : ∀ u ∈ us, U64 u) :
    Calls Tryz.prog 19 #[.agg #[.string (strO p.name), .slice a0 p.pre0.length c0, .slice a1 p.pre1.length c1, .slice am p.msgs.length cm, .slice uB us.length ud, .int .i64 lim, .int .u8 ams, .int .u8 chg]] w fun e' w' => e' = .returned noTwo ∧ Own w0 w' M :=
  (arenasE (hp.below O.below) hfit rfl (hU.below O.below) hus).mono fun e' w' h => by
    rcases h with ⟨h1, h2, _⟩ | ⟨_, h1, h2⟩
    · exact absurd ⟨h1, h2⟩ hno
    · exact ⟨h1, O.call h2⟩
/-- Start, where there is a handshake. -/
theorem startX {w0 w : World} {M : List Thing} {r : Nat} {A A' : Ar} {q0 q1 qm B : Option Addr} {d0 d1 dm dB : Nat} {p : Pat} {psks : List Int} {role prologue kS kE kRS kRE S E RS RE : Int} {y' : Sy} (hrole : role = 0 ∨ role = 1) (O : Own w0 w M) (i : Nat) (hi : M[i]? = some (arena r A)) (hp : Kept w0 M i fun w => PatIn w (Old w) (pvx q0 d0 q1 d1 qm dm p) p) (hfit : PatFits p) (he : EnvS w0) (hk : Kept w0 M i fun w => Holds w B (intsV psks)) (hkl : psks.length * 8 ≤ 140737488355328)
    (hS : sel (needOf p role).1.s kS = S) (hE : sel (needOf p role).1.e kE = E) (hRS : sel (needOf p role).1.rs kRS = RS) (hRE : sel (needOf p role).1.re kRE = RE) (hf : startC A p role prologue ⟨kS, kE, kRS, kRE, psks⟩ = (A', y', 0)) :
    Calls Tryz.prog 15 #[.pointer (some ⟨r, 0, none⟩), .agg #[.string (strO p.name), .slice q0 p.pre0.length d0, .slice q1 p.pre1.length d1, .slice qm p.msgs.length dm], .int .i64 role, .int .i64 prologue, .agg #[.int .i64 kS, .int .i64 kE, .int .i64 kRS, .int .i64 kRE, .slice B psks.length dB]] w fun e' w' => ∃ a0 c0 a1 c1 am cm bk dk, e' = .returned (.tuple #[(Sh.val ⟨role, 0, 0, pvx a0 c0 a1 c1 am cm p, p, S, E, RS, RE, .slice bk psks.length dk, psks, y'⟩), .int .i64 0]) ∧ Own w0 w' (shkT (pvx a0 c0 a1 c1 am cm p) p (.slice bk psks.length dk) psks :: M.set i (arena r A')) := by
  subst hS hE hRS hRE
  rcases hrole with rfl | rfl
  · exact (startE0 O i hi hp hfit he hk hkl hf).mono fun _ _ h => h.elim (fun h => h.2) (fun h => absurd rfl h.1)
  · exact (startE1 O i hi hp hfit he hk hkl hf).mono fun _ _ h => h.elim (fun h => h.2) (fun h => absurd rfl h.1)
theorem startN {w0 w : World} {M : List Thing} {r : Nat} {A A' : Ar} {q0 q1 qm B : Option Addr} {d0 d1 dm dB : Nat} {p : Pat} {psks : List Int} {role prologue kS kE kRS kRE e : Int} {y' : Sy} (hrole : role = 0 ∨ role = 1) (O : Own w0 w M) (i : Nat) (hi : M[i]? = some (arena r A)) (hp : Kept w0 M i fun w => PatIn w (Old w) (pvx q0 d0 q1 d1 qm dm p) p) (hfit : PatFits p) (he : EnvS w0) (hk : Kept w0 M i fun w => Holds w B (intsV psks)) (hkl : psks.length * 8 ≤ 140737488355328)
    (hno : ¬ e = 0) (hf : startC A p role prologue ⟨kS, kE, kRS, kRE, psks⟩ = (A', y', e)) :
    Calls Tryz.prog 15 #[.pointer (some ⟨r, 0, none⟩), .agg #[.string (strO p.name), .slice q0 p.pre0.length d0, .slice q1 p.pre1.length d1, .slice qm p.msgs.length dm], .int .i64 role, .int .i64 prologue, .agg #[.int .i64 kS, .int .i64 kE, .int .i64 kRS, .int .i64 kRE, .slice B psks.length dB]] w fun e' w' => e' = .returned (.tuple #[Sh.zero.val, .int .i64 e]) ∧ Own w0 w' (M.set i (arena r A')) := by
  rcases hrole with rfl | rfl
  · exact (startE0 O i hi hp hfit he hk hkl hf).mono fun _ _ h => h.elim (fun h => absurd h.1 hno) (fun h => h.2)
  · exact (startE1 O i hi hp hfit he hk hkl hf).mono fun _ _ h => h.elim (fun h => absurd h.1 hno) (fun h => h.2)
theorem writeOk {w0 w : World} {M : List Thing} {r : Nat} {A A' : Ar} {X : Thing} {role at_ nx kS kE kRS kRE sk sh sc sn : Int} {sb : Bool} {a0 a1 am bk : Option Addr} {c0 c1 cm dk : Nat} {p : Pat} {psks : List Int} {e payload : Int} {h' : Hs} {msg' : List Int} (O : Own w0 w M) (i : Nat) (hi : M[i]? = some (arena r A)) (j : Nat) (hj : M[j]? = some X) (hX : HasShk X (pvx a0 c0 a1 c1 am cm p) p bk dk psks) (hfit : PatFits p) (hij : j ≠ i) (hr : rightP p = true) (hrole : role = 0 ∨ role = 1) (hp7 : 0 ≤ nx ∧ nx + cnt7 (toks p at_) ≤ psks.length) (hkl : psks.length * 8 ≤ 140737488355328) (hn : U64 sn) (hf : writeC A role kS psks p ⟨at_, nx, kE, kRS, kRE, ⟨sk, sh, ⟨sc, sb, sn⟩⟩⟩ e payload = (A', h', msg', 0)) :
    Calls Tryz.prog 21 #[.agg #[.int .i64 role, .int .i64 at_, .int .i64 nx, .string (strO p.name), .slice a0 p.pre0.length c0, .slice a1 p.pre1.length c1, .slice am p.msgs.length cm, .int .i64 kS, .int .i64 kE, .int .i64 kRS, .int .i64 kRE, .slice bk psks.length dk, .int .i64 sk, .int .i64 sh, .int .i64 sc, .bool sb, .int .u64 sn], .pointer (some ⟨r, 0, none⟩), .int .i64 e, .int .i64 payload] w (fun e' w' => ∃ B d, e' = .returned (.tuple #[(h'.sh role (pvx a0 c0 a1 c1 am cm p) p kS (.slice bk psks.length dk) psks).val, .slice B msg'.length d, .int .i64 0]) ∧ Own w0 w' (rowT 3 1 (.slice B msg'.length d) msg'.length (intsV msg') :: M.set i (arena r A'))) :=
  (writeE O i hi j hj hX hfit hij hr hrole hp7 hkl hn hf).mono fun _ _ h => h.elim (fun h => h.2) (fun h => absurd rfl h.1)
theorem writeNo {w0 w : World} {M : List Thing} {r : Nat} {A A' : Ar} {X : Thing} {role at_ nx kS kE kRS kRE sk sh sc sn : Int} {sb : Bool} {a0 a1 am bk : Option Addr} {c0 c1 cm dk : Nat} {p : Pat} {psks : List Int} {e payload no : Int} {h' : Hs} {msg' : List Int} (O : Own w0 w M) (i : Nat) (hi : M[i]? = some (arena r A)) (j : Nat) (hj : M[j]? = some X) (hX : HasShk X (pvx a0 c0 a1 c1 am cm p) p bk dk psks) (hfit : PatFits p) (hij : j ≠ i) (hr : rightP p = true) (hrole : role = 0 ∨ role = 1) (hp7 : 0 ≤ nx ∧ nx + cnt7 (toks p at_) ≤ psks.length) (hkl : psks.length * 8 ≤ 140737488355328) (hn : U64 sn) (hno : ¬ no = 0) (hf : writeC A role kS psks p ⟨at_, nx, kE, kRS, kRE, ⟨sk, sh, ⟨sc, sb, sn⟩⟩⟩ e payload = (A', h', msg', no)) :
    Calls Tryz.prog 21 #[.agg #[.int .i64 role, .int .i64 at_, .int .i64 nx, .string (strO p.name), .slice a0 p.pre0.length c0, .slice a1 p.pre1.length c1, .slice am p.msgs.length cm, .int .i64 kS, .int .i64 kE, .int .i64 kRS, .int .i64 kRE, .slice bk psks.length dk, .int .i64 sk, .int .i64 sh, .int .i64 sc, .bool sb, .int .u64 sn], .pointer (some ⟨r, 0, none⟩), .int .i64 e, .int .i64 payload] w (fun e' w' => e' = .returned (.tuple #[Sh.zero.val, .slice none 0 0, .int .i64 no]) ∧ Own w0 w' (M.set i (arena r A'))) :=
  (writeE O i hi j hj hX hfit hij hr hrole hp7 hkl hn hf).mono fun _ _ h => h.elim (fun h => absurd h.1 hno) (fun h => h.2)
theorem readOk {w0 w : World} {M : List Thing} {r : Nat} {A A' : Ar} {X : Thing} {role at_ nx kS kE kRS kRE sk sh sc sn : Int} {sb : Bool} {a0 a1 am bk : Option Addr} {c0 c1 cm dk : Nat} {p : Pat} {psks : List Int} {msg : List Int} {mB : Option Addr} {md : Nat} {h' : Hs} {y no : Int} (O : Own w0 w M) (i : Nat) (hi : M[i]? = some (arena r A)) (j : Nat) (hj : M[j]? = some X) (hX : HasShk X (pvx a0 c0 a1 c1 am cm p) p bk dk psks) (hfit : PatFits p) (hij : j ≠ i) (hr : rightP p = true) (hrole : role = 0 ∨ role = 1) (hat0 : 0 ≤ at_) (hp7 : 0 ≤ nx ∧ nx + cnt7 (toks p at_) ≤ psks.length) (hkl : psks.length * 8 ≤ 140737488355328) (hn : U64 sn) (hml : msg.length ≤ 1000000) (hmsg : Kept2 w0 M i j fun w => Holds w mB (intsV msg)) (hf : readC A role kS psks p ⟨at_, nx, kE, kRS, kRE, ⟨sk, sh, ⟨sc, sb, sn⟩⟩⟩ msg = (A', h', y, no)) :
    Calls Tryz.prog 22 #[.agg #[.int .i64 role, .int .i64 at_, .int .i64 nx, .string (strO p.name), .slice a0 p.pre0.length c0, .slice a1 p.pre1.length c1, .slice am p.msgs.length cm, .int .i64 kS, .int .i64 kE, .int .i64 kRS, .int .i64 kRE, .slice bk psks.length dk, .int .i64 sk, .int .i64 sh, .int .i64 sc, .bool sb, .int .u64 sn], .pointer (some ⟨r, 0, none⟩), .slice mB msg.length md] w fun e' w' => e' = .returned (.tuple #[h'.res no role (pvx a0 c0 a1 c1 am cm p) p kS (.slice bk psks.length dk) psks, .int .i64 y, .int .i64 no]) ∧ Own w0 w' (M.set i (arena r A')) :=
  readE O i hi j hj hX hfit hij hr hrole hat0 hp7 hkl hn hml hmsg hf rfl
/-- A row of known ints: what lies at k. -/
theorem rowN_at {w0 w : World} {M : List Thing} {g d n : Nat} {l : List Int} (O : Own w0 w M) (i : Nat) (hi : M[i]? = some (rowT 3 1 (.slice (some ⟨g, 0, none⟩) n d) n (intsV l))) (hn : l.length = n) {k : Nat} {x : Int} (hk : l[k]? = some x) : w.cell? ⟨g, 0 + k * 1, none⟩ = some (.int .i64 x) := by
  subst hn
  obtain ⟨S, h, _⟩ := O.at hi
  exact holds_cell (rowI_holds w S h) rfl hk
theorem s100_2 {k : Nat} (h : k ≤ 5) : s100[2 + k]? = some ((k : Int) + 3) := by
  have : ∀ k : Fin 6, s100[2 + k.val]? = some ((k.val : Int) + 3) := by decide
  exact this ⟨k, by omega⟩
theorem s100_8 {k : Nat} (h : k ≤ 5) : s100[8 + k]? = some ((k : Int) + 9) := by
  have : ∀ k : Fin 6, s100[8 + k.val]? = some ((k.val : Int) + 9) := by decide
  exact this ⟨k, by omega⟩
theorem s200_2 {k : Nat} (h : k ≤ 5) : s200[2 + k]? = some ((k : Int) + 17) := by
  have : ∀ k : Fin 6, s200[2 + k.val]? = some ((k.val : Int) + 17) := by decide
  exact this ⟨k, by omega⟩
theorem s200_8 {k : Nat} (h : k ≤ 5) : s200[8 + k]? = some ((k : Int) + 23) := by
  have : ∀ k : Fin 6, s200[8 + k.val]? = some ((k.val : Int) + 23) := by decide
  exact this ⟨k, by omega⟩
theorem writeL_len {role S e : Int} {psks : List Int} {md : Bool} : ∀ (l : List Int) {A : Ar} {h : Hs} {msg : List Int} {A' : Ar} {h' : Hs} {msg' : List Int} {no : Int}, writeL role S e psks md l A h msg = (A', h', msg', no) → msg'.length ≤ msg.length + l.length
  | [], A, h, msg, A', h', msg', no, hw => by simp only [writeL, Prod.mk.injEq] at hw; obtain ⟨-, -, rfl, -⟩ := hw; simp
  | t :: l, A, h, msg, A', h', msg', no, hw => by
    simp only [writeL] at hw
    generalize (if t = 1 then { h with E := e } else h) = h1 at hw
    split at hw
    · split at hw
      · simp only [Prod.mk.injEq] at hw; obtain ⟨-, -, rfl, -⟩ := hw; simp
      · have := writeL_len l hw; simp only [List.length_cons]; omega
    · split at hw
      · simp only [Prod.mk.injEq] at hw; obtain ⟨-, -, rfl, -⟩ := hw; simp
      · have := writeL_len l hw; simp only [List.length_append, List.length_cons, List.length_nil] at this ⊢; omega
theorem writeC_len {A A' : Ar} {role S e payload no : Int} {psks msg : List Int} {p : Pat} {h h' : Hs} (hw : writeC A role S psks p h e payload = (A', h', msg, no)) : msg.length ≤ (toks p h.at_).length + 1 := by
  unfold writeC at hw
  split at hw
  · simp only [Prod.mk.injEq] at hw; obtain ⟨-, -, rfl, -⟩ := hw; simp
  · split at hw
    · simp only [Prod.mk.injEq] at hw; obtain ⟨-, -, rfl, -⟩ := hw; simp
    · dsimp only at hw
      split at hw
      · simp only [Prod.mk.injEq] at hw; obtain ⟨-, -, rfl, -⟩ := hw; simp
      · split at hw
        · simp only [Prod.mk.injEq] at hw; obtain ⟨-, -, rfl, -⟩ := hw; simp
        · simp only [Prod.mk.injEq] at hw; obtain ⟨-, -, rfl, -⟩ := hw
          have h1 := writeL_len (role := role) (S := S) (e := e) (psks := psks) (md := modeP p) (toks p h.at_) (A := A) (h := h) (msg := []) rfl
          rw [List.length_append]
          exact Nat.add_le_add_right (by simpa using h1) 1
theorem ptoks_len {p : Pat} {n : Nat} {m : Msg} (hr : rightP p = true) (hm : p.msgs[n]? = some m) : (toks p n).length ≤ 12 := by
  rw [toks_at hm]
  obtain ⟨-, -, -, -, -, hw⟩ := rightP_facts hr
  exact (wrongM_facts (hw m (List.mem_of_getElem? hm))).2.1
theorem Grow.min {A B : Ar} {c n : Nat} (g : Grow A B c) (h : n ≤ A.l.length) : n ≤ B.l.length := by have := g.pre.length_le; omega
theorem has_small {A : Ar} {x : Int} (h : 29 ≤ A.l.length) (h0 : 0 ≤ x) (h1 : x ≤ 28) : has A.l x = true := has_iff.2 ⟨h0, by omega⟩
/-- A round of ShakeBoth, in letters. -/
theorem Inv.go {p : Pat} {S0 S1 : Int} {psks : List Int} {n : Nat} {A : Ar} {vx vE vR vQ vk vh vc vn uE uR uQ : Int} {vb : Bool} {m : Msg} (I : Inv p S0 S1 psks n A ⟨(n : Int), vx, vE, vR, vQ, ⟨vk, vh, ⟨vc, vb, vn⟩⟩⟩ ⟨(n : Int), vx, uE, uR, uQ, ⟨vk, vh, ⟨vc, vb, vn⟩⟩⟩) (hr : rightP p = true) (hm : p.msgs[n]? = some m) (hA : 29 ≤ A.l.length) :
    (m.frm = 0 → ∃ A' wx wE wR wQ wk wh wc wb wn zE zR zQ msg, writeC A 0 S0 psks p ⟨(n : Int), vx, vE, vR, vQ, ⟨vk, vh, ⟨vc, vb, vn⟩⟩⟩ ((n : Int) + 3) ((n : Int) + 9) = (A', ⟨(n : Int) + 1, wx, wE, wR, wQ, ⟨wk, wh, ⟨wc, wb, wn⟩⟩⟩, msg, 0) ∧ readC A' 1 S1 psks p ⟨(n : Int), vx, uE, uR, uQ, ⟨vk, vh, ⟨vc, vb, vn⟩⟩⟩ msg = (A', ⟨(n : Int) + 1, wx, zE, zR, zQ, ⟨wk, wh, ⟨wc, wb, wn⟩⟩⟩, (n : Int) + 9, 0) ∧ 29 ≤ A'.l.length ∧ msg.length ≤ 1000000 ∧ Inv p S0 S1 psks (n + 1) A' ⟨(n : Int) + 1, wx, wE, wR, wQ, ⟨wk, wh, ⟨wc, wb, wn⟩⟩⟩ ⟨(n : Int) + 1, wx, zE, zR, zQ, ⟨wk, wh, ⟨wc, wb, wn⟩⟩⟩) ∧
    (m.frm = 1 → ∃ A' wx wE wR wQ wk wh wc wb wn zE zR zQ msg, writeC A 1 S1 psks p ⟨(n : Int), vx, uE, uR, uQ, ⟨vk, vh, ⟨vc, vb, vn⟩⟩⟩ ((n : Int) + 17) ((n : Int) + 23) = (A', ⟨(n : Int) + 1, wx, zE, zR, zQ, ⟨wk, wh, ⟨wc, wb, wn⟩⟩⟩, msg, 0) ∧ readC A' 0 S0 psks p ⟨(n : Int), vx, vE, vR, vQ, ⟨vk, vh, ⟨vc, vb, vn⟩⟩⟩ msg = (A', ⟨(n : Int) + 1, wx, wE, wR, wQ, ⟨wk, wh, ⟨wc, wb, wn⟩⟩⟩, (n : Int) + 23, 0) ∧ 29 ≤ A'.l.length ∧ msg.length ≤ 1000000 ∧ Inv p S0 S1 psks (n + 1) A' ⟨(n : Int) + 1, wx, wE, wR, wQ, ⟨wk, wh, ⟨wc, wb, wn⟩⟩⟩ ⟨(n : Int) + 1, wx, zE, zR, zQ, ⟨wk, wh, ⟨wc, wb, wn⟩⟩⟩) := by
  obtain ⟨-, -, -, -, hlen, -⟩ := rightP_facts hr
  have hn := idx_lt hm
  have hl := ptoks_len hr hm
  refine ⟨fun h => ?_, fun h => ?_⟩
  · obtain ⟨A', ⟨g1, g2, g3, g4, g5, ⟨g6, g7, ⟨g8, g9, g10⟩⟩⟩, ⟨k1, k2, k3, k4, k5, ky⟩, msg, a1, a2, a3, a4⟩ := (I.step hr hm (e := (n : Int) + 3) (payload := (n : Int) + 9) (by omega) (has_small hA (by omega) (by omega)) (has_small hA (by omega) (by omega))).1 h
    obtain ⟨f1, f2, f3, f4, f5, -⟩ := a4.facts (by omega)
    simp only at f2 f3 f4 f5
    subst f2 f3 f4 f5
    have hw := writeC_len a1
    simp only at hw
    exact ⟨A', k2, g3, g4, g5, g6, g7, g8, g9, g10, k3, k4, k5, msg, a1, a2, a3.min hA, by omega, a4⟩
  · obtain ⟨A', ⟨g1, g2, g3, g4, g5, ⟨g6, g7, ⟨g8, g9, g10⟩⟩⟩, ⟨k1, k2, k3, k4, k5, ky⟩, msg, a1, a2, a3, a4⟩ := (I.step hr hm (e := (n : Int) + 17) (payload := (n : Int) + 23) (by omega) (has_small hA (by omega) (by omega)) (has_small hA (by omega) (by omega))).2 h
    obtain ⟨f1, f2, f3, f4, f5, -⟩ := a4.facts (by omega)
    simp only at f2 f3 f4 f5
    subst f2 f3 f4 f5
    have hw := writeC_len a1
    simp only at hw
    exact ⟨A', k2, g3, g4, g5, g6, g7, g8, g9, g10, k3, k4, k5, msg, a1, a2, a3.min hA, by omega, a4⟩
theorem need_ok {p : Pat} {role : Int} (hr : role = 0 ∨ role = 1) (hc : (checkV p).2.2 = 0) : (needOf p role).1 = needK p role := by rw [need_eq hr, if_neg (by simp [hc])]
/-- The beginning of ShakeBoth, in letters. -/
theorem both_begin {p : Pat} {us K : List Int} {At : Ar} {rs0 re0 rs1 re1 : Int} (hu : ∀ u ∈ us, 0 ≤ u) (hl : us.length ≤ 10) (ht : twoC us = ⟨At, rs0, re0, K, rs1, re1, K⟩) (hw : whyC p ⟨1, 2, rs0, re0, K⟩ = 0) :
    rightP p = true ∧ K.length ≤ 10 ∧ (K.length : Int) = cntM p.msgs ∧ ∃ A' S0 E0 R0 Q0 S1 E1 R1 Q1 ck h c b n, sel (needOf p 0).1.s 1 = S0 ∧ sel (needOf p 0).1.e 2 = E0 ∧ sel (needOf p 0).1.rs rs0 = R0 ∧ sel (needOf p 0).1.re re0 = Q0 ∧ sel (needOf p 1).1.s 15 = S1 ∧ sel (needOf p 1).1.e 16 = E1 ∧ sel (needOf p 1).1.rs rs1 = R1 ∧ sel (needOf p 1).1.re re1 = Q1 ∧
      startC At p 0 0 ⟨1, 2, rs0, re0, K⟩ = (A', ⟨ck, h, ⟨c, b, n⟩⟩, 0) ∧ startC A' p 1 0 ⟨15, 16, rs1, re1, K⟩ = (A', ⟨ck, h, ⟨c, b, n⟩⟩, 0) ∧ 29 ≤ A'.l.length ∧ Inv p S0 S1 K 0 A' ⟨0, 0, E0, R0, Q0, ⟨ck, h, ⟨c, b, n⟩⟩⟩ ⟨0, 0, E1, R1, Q1, ⟨ck, h, ⟨c, b, n⟩⟩⟩ := by
  obtain ⟨g, K2, -, hkl, -⟩ := two_all hu hl
  rw [ht] at g K2 hkl
  replace g : Grow arS1 At 24 := g
  replace K2 : Keys2 At ⟨1, 2, rs0, re0, K⟩ ⟨15, 16, rs1, re1, K⟩ := K2
  replace hkl : K.length = us.length := hkl
  have hl0 := arS1_len.1
  have hm0 := arS1_len.2
  have hroom : (At.l.length + 1000 ≤ At.limit) := by
    have h1 := g.len; have h2 := g.limit
    rw [h2, hm0]; omega
  obtain ⟨hr, hn, ⟨j, fe, hv, he⟩, A', ⟨ck, h, ⟨c, b, n⟩⟩, a1, a2, a3, a4⟩ := start_sync g.ok K2 (has_first g.ok) hw (by omega)
  obtain ⟨hc, -⟩ := whyC_zero hw
  have e0 := need_ok (p := p) (.inl rfl) hc
  have e1 := need_ok (p := p) (.inr rfl) hc
  have h29 : 29 ≤ At.l.length := g.min (by omega)
  refine ⟨hr, by omega, hn, A', _, _, _, _, _, _, _, _, ck, h, c, b, n, rfl, rfl, rfl, rfl, rfl, rfl, rfl, rfl, a1, a2, a3.min h29, ?_⟩
  rw [e0, e1]
  exact Inv.start hr K2 hn hv he a3 a4 (by omega)
end Go.Proofs.YtikimmgileffgaaGreatDoor
end
/- More rules for the machine: a row told as a block and back; an append of a whole row onto an empty one. Any program. -/
section
namespace Go.Proofs.YtikimmgileffgaaGreatDoor
open Go.RowKit
section rules
variable {P : Program} {fn : Func} {R : Ending → World → Prop} {w w0 : World} {σ : Stt}
/-- What lies at i is another thing, too. -/
theorem Own.conv {M : List Thing} {i : Nat} {X Y : Thing} (O : Own w0 w M) (hi : M[i]? = some X) (h : ∀ S, X.P w S → Y.P w S) : Own w0 w (M.set i Y) := by
  obtain ⟨hb, f, h1, h2, h3⟩ := O
  have hil := idx_lt hi
  refine ⟨hb, f, fun j Q hj => ?_, fun j k b hj hk => h2 j k b (by simpa using hj) (by simpa using hk), fun j b hj => h3 j b (by simpa using hj)⟩
  rw [List.getElem?_set] at hj
  by_cases e : i = j
  · subst e
    rw [if_pos rfl, if_pos hil] at hj
    cases hj
    exact h _ (h1 i X hi)
  · rw [if_neg e] at hj; exact h1 j Q hj
/-- What lies at i, told as another thing. -/
theorem gV (i : Nat) (E : Ent) (O : Own w0 w ((σ.L.map Ent.t).set i E.t)) (h : Own w0 w ((⟨σ.c, σ.e, σ.L.set i E, σ.X⟩ : Stt).L.map Ent.t) → WS P fn R ⟨σ.c, σ.e, σ.L.set i E, σ.X⟩ w) : WS P fn R σ w :=
  ⟨fun hi hX => (h (by show Own w0 w ((σ.L.set i E).map Ent.t); rw [List.map_set]; exact O)).out hi hX⟩
theorem Own.frontE {L : List Ent} {M : List Thing} (E : List Ent) (O : Own w0 w (M ++ L.map Ent.t)) (h : E.map Ent.t = M := by kernel_rfl) : Own w0 w ((E ++ L).map Ent.t) := by
  rw [List.map_append, h]; exact O
/-- A row of nothing, in front. -/
theorem gNil (el : TypeId) (O : Own w0 w (σ.L.map Ent.t)) (h : Own w0 w ((⟨σ.c, σ.e, .thing (rowT el 1 (.slice none 0 0) 0 []) :: σ.L, σ.X⟩ : Stt).L.map Ent.t) → WS P fn R ⟨σ.c, σ.e, .thing (rowT el 1 (.slice none 0 0) 0 []) :: σ.L, σ.X⟩ w) : WS P fn R σ w := ⟨fun hi hX => (h (O.nilRow el 1)).out hi hX⟩
/-- An empty block is a row of nothing. -/
theorem Own.blkRow0 {M : List Thing} {i b : Nat} {el : TypeId} (size : Nat) (O : Own w0 w M) (hi : M[i]? = some (Go.Proofs.YtikimmgileffgaaGreatDoor.blk b (.cells #[] el (0, 0)))) : Own w0 w (M.set i (rowT el size (.slice (some ⟨b, 0, none⟩) 0 0) 0 [])) :=
  O.conv hi fun S ⟨h1, h2⟩ => ⟨owns_empty size (Nat.zero_le _) h1, fun k => by rw [h2]; simp [Value.ownBlock, eq_comm]⟩
/-- A row of ints that is not empty, told as its block. -/
theorem Own.rowBlk {M : List Thing} {i g d n : Nat} {el : TypeId} {x : Int} {l : List Int} (O : Own w0 w M) (hi : M[i]? = some (rowT el 1 (.slice (some ⟨g, 0, none⟩) n d) n (intsV (x :: l)))) :
    ∃ tail : List Value, (n = l.length + 1 ∧ n ≤ d ∧ d ≤ maxLen ∧ tail.length + 1 = d ∧ tail.take l.length = intsV l) ∧ Own w0 w (M.set i (Go.Proofs.YtikimmgileffgaaGreatDoor.blk g (.cells (Value.int .i64 x :: tail).toArray el (0, 0)))) := by
  obtain ⟨S, ⟨⟨hl, h⟩, hS⟩, _⟩ := O.at hi
  have hl : l.length + 1 = n := by simpa [intsV] using hl
  rcases h with ⟨h, _⟩ | ⟨g', cap, cur, h, _, h1, h2, h3, h4, h5⟩
  · cases h
  · cases h
    have hc : cur.toList ≠ [] := fun e => by
      rw [e] at h5; rw [← hl] at h5; simp [intsV] at h5
    obtain ⟨y, tail, ht⟩ := List.exists_cons_of_ne_nil hc
    rw [ht, ← hl] at h5
    simp only [Nat.mul_one, List.take_succ_cons, intsV, List.map_cons, List.cons.injEq] at h5
    obtain ⟨rfl, h5⟩ := h5
    have hcur : cur = (Value.int .i64 x :: tail).toArray := by rw [← ht]
    subst hcur
    refine ⟨tail, ⟨hl.symm, h2, h3, by simpa using h4, h5⟩, O.conv hi fun S' hS' => ⟨h1, fun k => ?_⟩⟩
    rw [hS'.2]; simp [Value.ownBlock, eq_comm]
/-- And back. -/
theorem Own.blkRow {M : List Thing} {i g d n : Nat} {el : TypeId} {x : Int} {l : List Int} {tail : List Value} (O : Own w0 w M) (hi : M[i]? = some (Go.Proofs.YtikimmgileffgaaGreatDoor.blk g (.cells (Value.int .i64 x :: tail).toArray el (0, 0)))) (h : n = l.length + 1 ∧ n ≤ d ∧ d ≤ maxLen ∧ tail.length + 1 = d ∧ tail.take l.length = intsV l) :
    Own w0 w (M.set i (rowT el 1 (.slice (some ⟨g, 0, none⟩) n d) n (intsV (x :: l)))) := by
  obtain ⟨h1, h2, h3, h4, h5⟩ := h
  refine O.conv hi fun S ⟨q1, q2⟩ => ⟨⟨by simp [intsV, h1], .inr ⟨g, d, _, rfl, Nat.zero_le _, q1, h2, h3, by simpa using h4, ?_⟩⟩, fun k => by rw [q2]; simp [Value.ownBlock, eq_comm]⟩
  rw [h1]
  simp only [Nat.mul_one, List.take_succ_cons, intsV, List.map_cons, List.cons.injEq, true_and]
  exact h5
/-- 'append([]int{}, xs...)'. -/
theorem gcatR (s x : Operand) (t : TypeId) (O : Own w0 w (σ.L.map Ent.t)) (el : TypeId) (b : Nat) (l : List Int) (A : Option Addr) (c : Nat) (i j : Nat) (hl : l.length ≤ 1000000)
    (h : ∀ B' d' w', Own w0 w' ((ret σ (.slice B' l.length d') (σ.L.set i (.thing (rowT el 1 (.slice B' l.length d') l.length (intsV l))))).L.map Ent.t) → WS P fn R (ret σ (.slice B' l.length d') (σ.L.set i (.thing (rowT el 1 (.slice B' l.length d') l.length (intsV l))))) w') (js : List Nat := [])
    (hop : opIs fn σ = some (.call { callee := .builtin .append, args := #[s, x], argTypes := #[t, t] }, true) := by kernel_rfl) (ht : P.underlying t = some (.slice el) := by kernel_rfl) (hinfo : (P.info? el).map (fun i => (i.zero, i.size, i.bytes)) = some (some (.int .i64 0), 1, 8) := by kernel_rfl)
    (hs : (foundE σ.e s && foundE σ.e x) = true := by kernel_rfl) (hv : evE σ.e s = .slice (some ⟨b, 0, none⟩) 0 0 := by kernel_rfl) (hx : evE σ.e x = .slice A l.length c := by kernel_rfl) (hi : (σ.L.map Ent.t)[i]? = some (Go.Proofs.YtikimmgileffgaaGreatDoor.blk b (.cells #[] el (0, 0))) := by kernel_rfl) (hj : (σ.L.map Ent.t)[j]? = some (rowT el 1 (.slice A l.length c) l.length (intsV l)) := by kernel_rfl)
    (hh : ∀ B' d', held (nxt (norm 200 σ.c)) = kns (σ.L.set i (.thing (rowT el 1 (.slice B' l.length d') l.length (intsV l)))) js := by intro _ _; kernel_rfl) : WS P fn R σ w := by
  refine ⟨fun hi' hX => ?_⟩
  unfold opIs at hop
  split at hop
  · rename_i all o hcur
    split at hop
    · rename_i hw
      simp only [Option.some.injEq, Prod.mk.injEq] at hop
      obtain ⟨ho, hk⟩ := hop
      simp only [Bool.and_eq_true] at hs
      refine norm_sound 200 (cur_op hcur hw fun K hK => ?_)
      intro a F
      have O1 := O.blkRow0 1 hi
      have hi1 : ((σ.L.map Ent.t).set i (rowT el 1 (.slice (some ⟨b, 0, none⟩) 0 0) 0 []))[i]? = some (rowT el 1 (.slice (some ⟨b, 0, none⟩) 0 0) 0 []) := List.getElem?_set_self (idx_lt hi)
      have hnews : News w A 1 l.length (intsV l) := by
        obtain ⟨A', c', e, hN, _⟩ := News.of_owns (O.row hj)
        cases e; exact hN
      refine wp_ocat O1 s x t ho el (.int .i64 0) 1 8 ht hinfo rfl (by decide) _ 0 [] ((F.eval hs.1).trans hv) i hi1 A l.length c (intsV l) ((F.eval hs.2).trans hx) hnews (by simp [intsV, Value.oneCell']) (by unfold maxLen; omega) (by omega) fun v' w' O' => ?_
      rw [Nat.zero_add, List.nil_append, List.set_set] at O'
      obtain ⟨B', d', rfl⟩ : ∃ B' d', v' = .slice B' l.length d' := by
        obtain ⟨S, h1, _⟩ := O'.at (i := i) (List.getElem?_set_self (idx_lt hi))
        exact row_slice h1.1
      have O2 : Own w0 w' ((σ.L.set i (.thing (rowT el 1 (.slice B' l.length d') l.length (intsV l)))).map Ent.t) := by rw [List.map_set]; exact O'
      have hin : (nxt (norm 200 σ.c)).inv w' := nxt_held hcur (by rw [hh B' d']; exact know_kns O2 js)
      have h3 := h B' d' w'
      unfold ret at h3
      rw [hcur] at h3
      exact hK _ w' hin ((h3 O2).out hin trivial) _ (F.put (chk_dst hk) _)
    · cases hop
  · cases hop
theorem madeInts (m : Nat) : (madeCells (Value.cells (.int .i64 0)) (m * 1)).toList = intsV (List.replicate m 0) := by
  apply List.ext_getElem?
  intro i
  simp only [madeCells, intsV, Nat.mul_one, Array.toList_map, Array.toList_range, List.getElem?_map, List.map_replicate, List.getElem?_replicate]
  by_cases h : i < m
  · rw [List.getElem?_range h, if_pos h]; simp [Value.cells, Nat.mod_one]
  · rw [if_neg h, List.getElem?_eq_none (by simpa using h)]; rfl
theorem wp_make {L : List Thing} {o : Oper} {a : Act} {K : Act → World → Prop} {Q : Exit → Act → World → Prop} (hO : Own w0 w L) (ln cp : Operand) (t : TypeId) (ho : o.op = .makeSlice t ln cp) (e : TypeId) (ht : P.underlying t = some (.slice e)) (hinfo : (P.info? e).map (fun i => (i.zero, i.size, i.bytes)) = some (some (.int .i64 0), 1, 8))
    (m : Nat) (hl : a.eval ln = .int .i64 (m : Int)) (hc : a.eval cp = .int .i64 (m : Int)) (hm : m ≤ 1000000) (h : ∀ b w', Own w0 w' (rowT e 1 (.slice (some ⟨b, 0, none⟩) m m) m (intsV (List.replicate m 0)) :: L) → K (a.put o.dst (.slice (some ⟨b, 0, none⟩) m m)) w') : o.wp P a w K Q := by
  obtain ⟨i, hi, hz⟩ := Option.map_eq_some_iff.1 hinfo
  simp only [Prod.mk.injEq] at hz
  obtain ⟨z1, z2, z3⟩ := hz
  have hr := run_make (P := P) w t e i _ ht hi z1 .i64 .i64 m m (by omega) (Int.le_refl _) (by rw [z3]; omega) (by omega)
  simp only [Int.toNat_natCast, z2] at hr
  have O1 := hO.alloc (.cells (madeCells (Value.cells (.int .i64 0)) (m * 1)) e)
  have hrow := World.ownsRow_lit (base := 0) (size := 1) (e := e) w (madeCells (Value.cells (.int .i64 0)) (m * 1)) m (Nat.zero_le _) (by unfold maxLen; omega) (size_madeCells _ _)
  rw [madeInts] at hrow
  have O2 := O1.conv (i := 0) (Y := rowT e 1 (.slice (some ⟨w.heap.size, 0, none⟩) m m) m (intsV (List.replicate m 0))) rfl fun S hS => ⟨hrow, fun k => by rw [hS.2]; simp [Value.ownBlock, eq_comm]⟩
  unfold Oper.wp execOp
  simp only [ho, hl, hc, Sem.run_bind, Sem.run_pure, hr, Result.andThen_ok]
  exact h _ _ O2
/-- 'make([]int, m)'. -/
theorem gMake (ln cp : Operand) (t : TypeId) (O : Own w0 w (σ.L.map Ent.t)) (el : TypeId) (m : Nat) (hm : m ≤ 1000000)
    (h : ∀ b w', Own w0 w' ((ret σ (.slice (some ⟨b, 0, none⟩) (List.replicate m (0 : Int)).length m) (.thing (rowT el 1 (.slice (some ⟨b, 0, none⟩) (List.replicate m (0 : Int)).length m) (List.replicate m (0 : Int)).length (intsV (List.replicate m 0))) :: σ.L)).L.map Ent.t) → WS P fn R (ret σ (.slice (some ⟨b, 0, none⟩) (List.replicate m (0 : Int)).length m) (.thing (rowT el 1 (.slice (some ⟨b, 0, none⟩) (List.replicate m (0 : Int)).length m) (List.replicate m (0 : Int)).length (intsV (List.replicate m 0))) :: σ.L)) w') (js : List Nat := [])
    (hop : opIs fn σ = some (.makeSlice t ln cp, true) := by kernel_rfl) (ht : P.underlying t = some (.slice el) := by kernel_rfl) (hinfo : (P.info? el).map (fun i => (i.zero, i.size, i.bytes)) = some (some (.int .i64 0), 1, 8) := by kernel_rfl)
    (hs : (foundE σ.e ln && foundE σ.e cp) = true := by kernel_rfl) (hv : evE σ.e ln = .int .i64 (m : Int) := by kernel_rfl) (hx : evE σ.e cp = .int .i64 (m : Int) := by kernel_rfl)
    (hh : ∀ b, held (nxt (norm 200 σ.c)) = kns (.thing (rowT el 1 (.slice (some ⟨b, 0, none⟩) (List.replicate m (0 : Int)).length m) (List.replicate m (0 : Int)).length (intsV (List.replicate m 0))) :: σ.L) js := by intro _; kernel_rfl) : WS P fn R σ w := by
  refine ⟨fun hi' hX => ?_⟩
  unfold opIs at hop
  split at hop
  · rename_i all o hcur
    split at hop
    · rename_i hw
      simp only [Option.some.injEq, Prod.mk.injEq] at hop
      obtain ⟨ho, hk⟩ := hop
      simp only [Bool.and_eq_true] at hs
      refine norm_sound 200 (cur_op hcur hw fun K hK => ?_)
      intro a F
      refine wp_make O ln cp t ho el ht hinfo m ((F.eval hs.1).trans hv) ((F.eval hs.2).trans hx) hm fun b w' O' => ?_
      have e1 : m = (List.replicate m (0 : Int)).length := by simp
      have O2 : Own w0 w' ((.thing (rowT el 1 (.slice (some ⟨b, 0, none⟩) (List.replicate m (0 : Int)).length m) (List.replicate m (0 : Int)).length (intsV (List.replicate m 0))) :: σ.L : List Ent).map Ent.t) := by
        rw [← e1]; exact O'
      have hin : (nxt (norm 200 σ.c)).inv w' := nxt_held hcur (by rw [hh b]; exact know_kns O2 js)
      have h3 := h b w'
      unfold ret at h3
      rw [hcur] at h3
      have h4 := hK _ w' hin ((h3 O2).out hin trivial) _ (F.put (chk_dst hk) _)
      rw [← e1] at h4
      exact h4
    · cases hop
  · cases hop
end rules
end Go.Proofs.YtikimmgileffgaaGreatDoor
end
/- What the document fixes of XX (layer 12), reckoned; and small facts for the walks. -/
section
namespace Go.Proofs.YtikimmgileffgaaGreatDoor
open Go.RowKit

def pXX : Pat := ⟨[88, 88], [], [], [⟨0, [1]⟩, ⟨1, [1, 3, 2, 4]⟩, ⟨0, [2, 5]⟩]⟩
theorem base_xx : baseP ⟨[88, 88], [], [], [101, 59, 101, 32, 101, 101, 32, 115, 32, 101, 115, 59, 115, 32, 115, 101]⟩ = pXX := by decide +kernel
theorem rows_xx : rowsB[8]? = some ⟨[88, 88], [], [], [101, 59, 101, 32, 101, 101, 32, 115, 32, 101, 115, 59, 115, 32, 115, 101]⟩ := by decide +kernel
theorem fits_xx : PatFits pXX := ⟨by decide, by decide, by decide, by decide, by decide⟩
theorem right_xx : rightP pXX = true := by decide +kernel
theorem baseXX {w0 w : World} {M : List Thing} {p : Pat} (O : Own w0 w M) (he : EnvB w0) (hx : p = pXX) :
    Calls Tryz.prog 14 #[.string ⟨#[88, 88]⟩] w fun e w' => ∃ a0 c0 a1 c1 am cm, e = .returned (.tuple #[.agg #[.string (strO p.name), .slice a0 p.pre0.length c0, .slice a1 p.pre1.length c1, .slice am p.msgs.length cm], .int .i64 0]) ∧ Own w0 w' (patT (pvx a0 c0 a1 c1 am cm p) p :: M) := by
  have h := baseE (p := p) O 8 _ rows_xx he (base_xx.trans hx.symm)
  have e : strO (BRow.name ⟨[88, 88], [], [], [101, 59, 101, 32, 101, 101, 32, 115, 32, 101, 115, 59, 115, 32, 115, 101]⟩) = ⟨#[88, 88]⟩ := rfl
  rw [e] at h
  exact h
def xA0 : Ar := newAr 200
def xA1 : Ar := (mk xA0 ⟨1, 1, 0, 0, 0⟩).1
def xA2 : Ar := (mk xA1 ⟨1, 2, 0, 0, 0⟩).1
def xA3 : Ar := (mk xA2 ⟨1, 3, 0, 0, 0⟩).1
def xA4 : Ar := (mk xA3 ⟨1, 4, 0, 0, 0⟩).1
def xA5 : Ar := (mk xA4 ⟨1, 5, 0, 0, 0⟩).1
theorem xm1 : mk xA0 ⟨1, 1, 0, 0, 0⟩ = (xA1, 1, 0) := by kernel_rfl
theorem xm2 : mk xA1 ⟨1, 2, 0, 0, 0⟩ = (xA2, 2, 0) := by kernel_rfl
theorem xm3 : mk xA2 ⟨1, 3, 0, 0, 0⟩ = (xA3, 3, 0) := by kernel_rfl
theorem xm4 : mk xA3 ⟨1, 4, 0, 0, 0⟩ = (xA4, 4, 0) := by kernel_rfl
theorem xm5 : mk xA4 ⟨1, 5, 0, 0, 0⟩ = (xA5, 5, 0) := by kernel_rfl
def xA6 : Ar := (startC xA5 pXX 0 0 ⟨1, 0, 0, 0, []⟩).1
def xA7 : Ar := (startC xA6 pXX 1 0 ⟨2, 0, 0, 0, []⟩).1
def xA8 : Ar := (writeC xA7 0 1 [] pXX ⟨0, 0, 0, 0, 0, ⟨8, 9, ⟨0, false, 0⟩⟩⟩ 3 5).1
theorem xst0 : startC xA5 pXX 0 0 ⟨1, 0, 0, 0, []⟩ = (xA6, ⟨8, 9, ⟨0, false, 0⟩⟩, 0) := by kernel_rfl
theorem xst1 : startC xA6 pXX 1 0 ⟨2, 0, 0, 0, []⟩ = (xA7, ⟨8, 9, ⟨0, false, 0⟩⟩, 0) := by kernel_rfl
theorem xw : writeC xA7 0 1 [] pXX ⟨0, 0, 0, 0, 0, ⟨8, 9, ⟨0, false, 0⟩⟩⟩ 3 5 = (xA8, ⟨1, 0, 3, 0, 0, ⟨8, 12, ⟨0, false, 0⟩⟩⟩, [10, 5], 0) := by kernel_rfl
theorem xr : readC xA8 1 2 [] pXX ⟨0, 0, 0, 0, 0, ⟨8, 9, ⟨0, false, 0⟩⟩⟩ [10, 5] = (xA8, ⟨1, 0, 0, 0, 10, ⟨8, 12, ⟨0, false, 0⟩⟩⟩, 5, 0) := by kernel_rfl
theorem Inv.p7 {p : Pat} {S0 S1 : Int} {psks : List Int} {n : Nat} {A : Ar} {h0 h1 : Hs} {m : Msg} (I : Inv p S0 S1 psks n A h0 h1) (hm : p.msgs[n]? = some m) : 0 ≤ h0.nx ∧ h0.nx + cnt7 (toks p n) ≤ psks.length := by
  obtain ⟨f, last, j, fe, hA, P, i1, i2, i3, -⟩ := I
  rw [toks_at hm]
  rw [drop_at hm] at i3
  simp only [cntM] at i3
  have := cntM_pos (p.msgs.drop (n + 1))
  exact ⟨i2, by omega⟩
theorem Inv.u64 {p : Pat} {S0 S1 : Int} {psks : List Int} {n : Nat} {A : Ar} {h0 h1 : Hs} (I : Inv p S0 S1 psks n A h0 h1) (hn : n ≤ 6) : U64 h0.y.c.n := (I.facts hn).2.2.2.2.2.2.2
theorem InvO.p7 {p : Pat} {S0 S1 : Int} {q0 q1 : List Int} {n : Nat} {A : Ar} {h0 h1 : Hs} {m : Msg} (I : InvO p S0 S1 q0 q1 n A h0 h1) (hm : p.msgs[n]? = some m) : (0 ≤ h0.nx ∧ h0.nx + cnt7 (toks p n) ≤ q0.length) ∧ (0 ≤ h0.nx ∧ h0.nx + cnt7 (toks p n) ≤ q1.length) := by
  obtain ⟨f, last, j, fe, hA, P, i1, i2, i3, i4, -⟩ := I
  rw [toks_at hm]
  rw [drop_at hm] at i3
  simp only [cntM] at i3
  have := cntM_pos (p.msgs.drop (n + 1))
  exact ⟨⟨i2, by omega⟩, i2, by omega⟩
/-- A round of ShakeOthers, in letters. -/
theorem InvO.go {p : Pat} {S0 S1 : Int} {q0 q1 : List Int} {n : Nat} {A : Ar} {vx vE vR vQ vk vh vc vn uE uR uQ uk uh uc un : Int} {vb ub : Bool} {m : Msg} (I : InvO p S0 S1 q0 q1 n A ⟨(n : Int), vx, vE, vR, vQ, ⟨vk, vh, ⟨vc, vb, vn⟩⟩⟩ ⟨(n : Int), vx, uE, uR, uQ, ⟨uk, uh, ⟨uc, ub, un⟩⟩⟩) (hr : rightP p = true) (hm : p.msgs[n]? = some m) (hA : 29 ≤ A.l.length) :
    (m.frm = 0 → ∃ A' B' wa wx wE wR wQ wk wh wc wb wn za zx zE zR zQ zk zh zc zb zn msg x no, writeC A 0 S0 q0 p ⟨(n : Int), vx, vE, vR, vQ, ⟨vk, vh, ⟨vc, vb, vn⟩⟩⟩ ((n : Int) + 3) ((n : Int) + 9) = (A', ⟨wa, wx, wE, wR, wQ, ⟨wk, wh, ⟨wc, wb, wn⟩⟩⟩, msg, 0) ∧ readC A' 1 S1 q1 p ⟨(n : Int), vx, uE, uR, uQ, ⟨uk, uh, ⟨uc, ub, un⟩⟩⟩ msg = (B', ⟨za, zx, zE, zR, zQ, ⟨zk, zh, ⟨zc, zb, zn⟩⟩⟩, x, no) ∧ 29 ≤ B'.l.length ∧ msg.length ≤ 1000000 ∧ ((no = 7 ∧ x = 0) ∨ (no = 0 ∧ wa = (n : Int) + 1 ∧ za = (n : Int) + 1 ∧ zx = wx ∧ InvO p S0 S1 q0 q1 (n + 1) B' ⟨(n : Int) + 1, wx, wE, wR, wQ, ⟨wk, wh, ⟨wc, wb, wn⟩⟩⟩ ⟨(n : Int) + 1, wx, zE, zR, zQ, ⟨zk, zh, ⟨zc, zb, zn⟩⟩⟩))) ∧
    (m.frm = 1 → ∃ A' B' wa wx wE wR wQ wk wh wc wb wn za zx zE zR zQ zk zh zc zb zn msg x no, writeC A 1 S1 q1 p ⟨(n : Int), vx, uE, uR, uQ, ⟨uk, uh, ⟨uc, ub, un⟩⟩⟩ ((n : Int) + 17) ((n : Int) + 23) = (A', ⟨wa, wx, wE, wR, wQ, ⟨wk, wh, ⟨wc, wb, wn⟩⟩⟩, msg, 0) ∧ readC A' 0 S0 q0 p ⟨(n : Int), vx, vE, vR, vQ, ⟨vk, vh, ⟨vc, vb, vn⟩⟩⟩ msg = (B', ⟨za, zx, zE, zR, zQ, ⟨zk, zh, ⟨zc, zb, zn⟩⟩⟩, x, no) ∧ 29 ≤ B'.l.length ∧ msg.length ≤ 1000000 ∧ ((no = 7 ∧ x = 0) ∨ (no = 0 ∧ wa = (n : Int) + 1 ∧ za = (n : Int) + 1 ∧ zx = wx ∧ InvO p S0 S1 q0 q1 (n + 1) B' ⟨(n : Int) + 1, wx, zE, zR, zQ, ⟨zk, zh, ⟨zc, zb, zn⟩⟩⟩ ⟨(n : Int) + 1, wx, wE, wR, wQ, ⟨wk, wh, ⟨wc, wb, wn⟩⟩⟩))) := by
  obtain ⟨-, -, -, -, hlen, -⟩ := rightP_facts hr
  have hn := idx_lt hm
  have hl := ptoks_len hr hm
  refine ⟨fun h => ?_, fun h => ?_⟩
  · obtain ⟨A', B', ⟨g1, g2, g3, g4, g5, ⟨g6, g7, ⟨g8, g9, g10⟩⟩⟩, msg, ⟨k1, k2, k3, k4, k5, ⟨k6, k7, ⟨k8, k9, k10⟩⟩⟩, x, no, a1, a2, a3, a4⟩ := (I.step hr hm (e := (n : Int) + 3) (payload := (n : Int) + 9) (by omega) (has_small hA (by omega) (by omega)) (has_small hA (by omega) (by omega))).1 h
    have hw := writeC_len a1
    simp only at hw
    refine ⟨A', B', g1, g2, g3, g4, g5, g6, g7, g8, g9, g10, k1, k2, k3, k4, k5, k6, k7, k8, k9, k10, msg, x, no, a1, a2, a3.min hA, by omega, ?_⟩
    rcases a4 with a4 | ⟨a4, a5⟩
    · exact .inl a4
    · obtain ⟨-, f2, f3, f4, -⟩ := a5.facts (by omega)
      simp only at f2 f3 f4
      subst f2 f3 f4
      exact .inr ⟨a4, rfl, rfl, rfl, a5⟩
  · obtain ⟨A', B', ⟨k1, k2, k3, k4, k5, ⟨k6, k7, ⟨k8, k9, k10⟩⟩⟩, msg, ⟨g1, g2, g3, g4, g5, ⟨g6, g7, ⟨g8, g9, g10⟩⟩⟩, x, no, a1, a2, a3, a4⟩ := (I.step hr hm (e := (n : Int) + 17) (payload := (n : Int) + 23) (by omega) (has_small hA (by omega) (by omega)) (has_small hA (by omega) (by omega))).2 h
    have hw := writeC_len a1
    simp only at hw
    refine ⟨A', B', g1, g2, g3, g4, g5, g6, g7, g8, g9, g10, k1, k2, k3, k4, k5, k6, k7, k8, k9, k10, msg, x, no, a1, a2, a3.min hA, by omega, ?_⟩
    rcases a4 with a4 | ⟨a4, a5⟩
    · exact .inl a4
    · obtain ⟨-, f2, f3, f4, -⟩ := a5.facts (by omega)
      simp only at f2 f3 f4
      subst f2 f3 f4
      exact .inr ⟨a4, rfl, rfl, rfl, a5⟩
theorem two_facts {us K : List Int} {At : Ar} {rs0 re0 rs1 re1 : Int} (hu : ∀ u ∈ us, 0 ≤ u) (hl : us.length ≤ 10) (ht : twoC us = ⟨At, rs0, re0, K, rs1, re1, K⟩) :
    ArOk At ∧ Keys2 At ⟨1, 2, rs0, re0, K⟩ ⟨15, 16, rs1, re1, K⟩ ∧ K.length = us.length ∧ (∀ y ∈ K, has At.l y = true ∧ y ≠ 14) ∧ 29 ≤ At.l.length ∧ At.l.length + 1000 ≤ At.limit := by
  obtain ⟨g, K2, -, hkl, hk⟩ := two_all hu hl
  rw [ht] at g K2 hkl hk
  replace g : Grow arS1 At 24 := g
  replace K2 : Keys2 At ⟨1, 2, rs0, re0, K⟩ ⟨15, 16, rs1, re1, K⟩ := K2
  replace hkl : K.length = us.length := hkl
  replace hk : ∀ y ∈ K, has At.l y = true ∧ ∃ u, 1000 ≤ u ∧ nd At.l y = ⟨1, u, 0, 0, 0⟩ := hk
  have hl0 := arS1_len.1
  have hm0 := arS1_len.2
  have h1 := g.len
  have h2 := g.limit
  refine ⟨g.ok, K2, hkl, fun y hy => ⟨(hk y hy).1, fun e => ?_⟩, g.min (by omega), by rw [h2, hm0]; omega⟩
  obtain ⟨u, u1, u2⟩ := (hk y hy).2
  have h14 : has arS1.l 14 = true := has_iff.2 (by rw [hl0]; decide)
  have e14 : nd arS1.l 14 = ⟨1, 113, 0, 0, 0⟩ := by kernel_rfl
  rw [e, nd_pre g.pre h14, e14] at u2
  injection u2 with _ h3
  omega
theorem twoK {us : List Int} (hu : ∀ u ∈ us, 0 ≤ u) (hl : us.length ≤ 10) : ∃ At rs0 re0 K rs1 re1, twoC us = ⟨At, rs0, re0, K, rs1, re1, K⟩ := by
  obtain ⟨-, -, h, -⟩ := two_all hu hl
  generalize twoC us = t at h
  obtain ⟨a, b, c, d, e, f, g⟩ := t
  simp only at h
  subst h
  exact ⟨_, _, _, _, _, _, rfl⟩
/-- ShakeOthers with another prologue, in letters. -/
theorem others_pro {p : Pat} {us K : List Int} {At : Ar} {rs0 re0 rs1 re1 : Int} (hu : ∀ u ∈ us, 0 ≤ u) (hl : us.length ≤ 10) (ht : twoC us = ⟨At, rs0, re0, K, rs1, re1, K⟩) (hw : whyC p ⟨1, 2, rs0, re0, K⟩ = 0) :
    rightP p = true ∧ ∃ A1 A' S0 E0 R0 Q0 S1 E1 R1 Q1 ck h c b n dk dh dc db dn, sel (needOf p 0).1.s 1 = S0 ∧ sel (needOf p 0).1.e 2 = E0 ∧ sel (needOf p 0).1.rs rs0 = R0 ∧ sel (needOf p 0).1.re re0 = Q0 ∧ sel (needOf p 1).1.s 15 = S1 ∧ sel (needOf p 1).1.e 16 = E1 ∧ sel (needOf p 1).1.rs rs1 = R1 ∧ sel (needOf p 1).1.re re1 = Q1 ∧
      startC At p 0 0 ⟨1, 2, rs0, re0, K⟩ = (A1, ⟨ck, h, ⟨c, b, n⟩⟩, 0) ∧ startC A1 p 1 14 ⟨15, 16, rs1, re1, K⟩ = (A', ⟨dk, dh, ⟨dc, db, dn⟩⟩, 0) ∧ 29 ≤ A'.l.length ∧ InvO p S0 S1 K K 0 A' ⟨0, 0, E0, R0, Q0, ⟨ck, h, ⟨c, b, n⟩⟩⟩ ⟨0, 0, E1, R1, Q1, ⟨dk, dh, ⟨dc, db, dn⟩⟩⟩ := by
  obtain ⟨hA, K2, hkl, hK, h29, room⟩ := two_facts hu hl ht
  obtain ⟨hc, -⟩ := whyC_zero hw
  have e0 := need_ok (p := p) (.inl rfl) hc
  have e1 := need_ok (p := p) (.inr rfl) hc
  obtain ⟨A1, A', ⟨ck, h, ⟨c, b, n⟩⟩, ⟨dk, dh, ⟨dc, db, dn⟩⟩, a1, a2, a3, a4, a5⟩ := start_ap (pro0 := 0) (pro1 := 14) hA K2 (has_first hA) (has_small h29 (by omega) (by omega)) (by decide) hw (by omega)
  have gr := a3.trans a4
  obtain ⟨hr, hI⟩ := InvO.pro K2 hw rfl gr a5 (by omega)
  refine ⟨hr, A1, A', _, _, _, _, _, _, _, _, ck, h, c, b, n, dk, dh, dc, db, dn, rfl, rfl, rfl, rfl, rfl, rfl, rfl, rfl, a1, a2, gr.min h29, ?_⟩
  rw [e0, e1]
  exact hI
/-- ShakeOthers with another psk, in letters. -/
theorem others_psk {p : Pat} {us K : List Int} {x : Int} {At : Ar} {rs0 re0 rs1 re1 : Int} (hu : ∀ u ∈ us, 0 ≤ u) (hl : us.length ≤ 10) (ht : twoC us = ⟨At, rs0, re0, x :: K, rs1, re1, x :: K⟩) (hw : whyC p ⟨1, 2, rs0, re0, x :: K⟩ = 0) :
    rightP p = true ∧ ∃ A' S0 E0 R0 Q0 S1 E1 R1 Q1 ck h c b n, sel (needOf p 0).1.s 1 = S0 ∧ sel (needOf p 0).1.e 2 = E0 ∧ sel (needOf p 0).1.rs rs0 = R0 ∧ sel (needOf p 0).1.re re0 = Q0 ∧ sel (needOf p 1).1.s 15 = S1 ∧ sel (needOf p 1).1.e 16 = E1 ∧ sel (needOf p 1).1.rs rs1 = R1 ∧ sel (needOf p 1).1.re re1 = Q1 ∧
      startC At p 0 0 ⟨1, 2, rs0, re0, x :: K⟩ = (A', ⟨ck, h, ⟨c, b, n⟩⟩, 0) ∧ startC A' p 1 0 ⟨15, 16, rs1, re1, 14 :: K⟩ = (A', ⟨ck, h, ⟨c, b, n⟩⟩, 0) ∧ 29 ≤ A'.l.length ∧ InvO p S0 S1 (x :: K) (14 :: K) 0 A' ⟨0, 0, E0, R0, Q0, ⟨ck, h, ⟨c, b, n⟩⟩⟩ ⟨0, 0, E1, R1, Q1, ⟨ck, h, ⟨c, b, n⟩⟩⟩ := by
  obtain ⟨hA, K2, hkl, hK, h29, room⟩ := two_facts hu hl ht
  obtain ⟨hc, -⟩ := whyC_zero hw
  have e0 := need_ok (p := p) (.inl rfl) hc
  have e1 := need_ok (p := p) (.inr rfl) hc
  have K3 : Keys2 At ⟨1, 2, rs0, re0, x :: K⟩ ⟨15, 16, rs1, re1, 14 :: K⟩ := ⟨K2.rs0, K2.re0, K2.rs1, K2.re1, K2.pos, rfl, K2.p0, fun y hy => by
    rcases List.mem_cons.1 hy with rfl | hy
    · exact has_small h29 (by omega) (by omega)
    · exact K2.p0 y (List.mem_cons_of_mem _ hy)⟩
  obtain ⟨hr, hn, ⟨j, fe, hv, he⟩, A', ⟨ck, h, ⟨c, b, n⟩⟩, a1, a2, a3, a4⟩ := start_sync hA K3 (has_first hA) hw (by omega)
  obtain ⟨-, hI⟩ := InvO.psk K3 hw (show x ≠ 14 from (hK x (List.mem_cons_self ..)).2) (by simp) a3 a4 (by omega)
  refine ⟨hr, A', _, _, _, _, _, _, _, _, ck, h, c, b, n, rfl, rfl, rfl, rfl, rfl, rfl, rfl, rfl, a1, a2, a3.min h29, ?_⟩
  rw [e0, e1]
  exact hI
/-- There is no handshake, whatever the other one's prologue and psks. -/
theorem why_no {p : Pat} {us K K' : List Int} {At : Ar} {rs0 re0 rs1 re1 pro : Int} (hu : ∀ u ∈ us, 0 ≤ u) (hl : us.length ≤ 10) (ht : twoC us = ⟨At, rs0, re0, K, rs1, re1, K⟩) (hpro : 0 ≤ pro ∧ pro ≤ 28) (hK' : K'.length = K.length ∧ ∀ y ∈ K', y = 14 ∨ y ∈ K) (hw : whyC p ⟨1, 2, rs0, re0, K⟩ ≠ 0) :
    startC At p 0 0 ⟨1, 2, rs0, re0, K⟩ = (At, Sy.zero, whyC p ⟨1, 2, rs0, re0, K⟩) ∧ startC At p 1 pro ⟨15, 16, rs1, re1, K'⟩ = (At, Sy.zero, whyC p ⟨1, 2, rs0, re0, K⟩) := by
  obtain ⟨hA, K2, hkl, hK, h29, room⟩ := two_facts hu hl ht
  have K3 : Keys2 At ⟨1, 2, rs0, re0, K⟩ ⟨15, 16, rs1, re1, K'⟩ := ⟨K2.rs0, K2.re0, K2.rs1, K2.re1, K2.pos, hK'.1.symm, K2.p0, fun y hy => by
    rcases hK'.2 y hy with rfl | hy
    · exact has_small h29 (by omega) (by omega)
    · exact K2.p0 y hy⟩
  exact ⟨(K3.no (has_first hA) hw).1, (K3.no (has_small h29 hpro.1 hpro.2) hw).2⟩
theorem readBad {f : FuncId} {args : Array Value} {w w0 : World} {M : List Thing} {x : Int} {no role : Int} {xx : PatV} {p : Pat} {kS : Int} {vk : Value} {psks : List Int} {h : Hs} (hC : Calls Tryz.prog f args w fun e' w' => e' = .returned (.tuple #[h.res no role xx p kS vk psks, .int .i64 x, .int .i64 no]) ∧ Own w0 w' M) (hno : ¬ no = 0) :
    Calls Tryz.prog f args w fun e' w' => e' = .returned (.tuple #[Sh.zero.val, .int .i64 x, .int .i64 no]) ∧ Own w0 w' M := by
  rw [Hs.res_no hno] at hC; exact hC
end Go.Proofs.YtikimmgileffgaaGreatDoor
end
