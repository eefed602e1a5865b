/- Packed by packn.py: OwnR, Pat, Tok2, Tok3, Tok4, Tok5. -/
import Derived.Test.YtikimmgileffgaaGreatDoorQk03
import Derived.Deep.CutBlock
import Derived.Deep.DeepCutAuto
import Derived.Lib.SlBy
import Derived.Lib.OthersKept
/- A row of its own among the things that a law has made; an append onto it. Any program. -/
section
namespace Go.Proofs.YtikimmgileffgaaGreatDoor
open Go.RowKit

/-- A row of its own. -/
def rowT (e : TypeId) (size : Nat) (v : Value) (n : Nat) (xs : List Value) : Thing where
  P w S := w.ownsRow 0 e size v n xs ∧ ∀ k, S k ↔ v.ownBlock = some k
  lt _w _S h k hk := (h.1.lt k ((h.2 k).1 hk)).2
  keep _w _w' _S _T h u hd := ⟨ownsRow_upd' h.1 u (fun k hk => hd k ((h.2 k).2 hk)), h.2⟩
theorem ownsRow_zero {w : World} {base : Nat} {e : TypeId} {size : Nat} {v : Value} {n : Nat} {xs : List Value} (h : w.ownsRow base e size v n xs) : w.ownsRow 0 e size v n xs := by
  refine ⟨h.1, ?_⟩
  rcases h.2 with hn | ⟨g, cap, cur, rfl, hb, rest⟩
  · exact .inl hn
  · exact .inr ⟨g, cap, cur, rfl, Nat.zero_le _, rest⟩
theorem Own.newRow {w0 w w' : World} {L : List Thing} (h : Own w0 w L) (hu : Below w.heap.size w w') {e : TypeId} {size n : Nat} {v : Value} {xs : List Value} (hr : w'.ownsRow w.heap.size e size v n xs) : Own w0 w' (rowT e size v n xs :: L) :=
  h.new hu (Q := rowT e size v n xs) (S := fun k => v.ownBlock = some k) ⟨ownsRow_zero hr, fun _ => Iff.rfl⟩ (fun b hb => (hr.lt b hb).1)
theorem Own.row {w0 w : World} {L : List Thing} {i : Nat} {e : TypeId} {size n : Nat} {v : Value} {xs : List Value} (h : Own w0 w L) (hi : L[i]? = some (rowT e size v n xs)) : w.ownsRow 0 e size v n xs := by
  obtain ⟨S, h1, _⟩ := h.at hi; exact h1.1
theorem Own.nilRow {w0 w : World} {L : List Thing} (h : Own w0 w L) (e : TypeId) (size : Nat) : Own w0 w (rowT e size (.slice none 0 0) 0 [] :: L) := h.newRow (Below.refl _ _) (World.ownsRow_nil _ _ _ _)
theorem run_cat2 {P : Program} {w : World} (t ty : TypeId) (e : TypeId) (z : Value) (size bytes : Nat) (ht : P.underlying t = some (.slice e))
    (hinfo : (P.info? e).map (fun i => (i.zero, i.size, i.bytes)) = some (some z, size, bytes)) (hzs : z.cells.size = size) (hsz : 0 < size)
    (v : Value) (n : Nat) (xs : List Value) (hown : w.ownsRow 0 e size v n xs)
    (A : Option Addr) (m c : Nat) (news : List Value) (hnews : News w A size m news) (h1 : ∀ u ∈ news, u.oneCell' = true)
    (h63 : n + m ≤ maxLen) (hbytes : (n + m) * bytes ≤ 140737488355328) :
    ∃ v' w', (Builtin.append_ #[t, t] ty #[v, .slice A m c]).run P w = .ok v' w' ∧ w'.ownsRow 0 e size v' (n + m) (xs ++ news) ∧ w.grownBy w' v.ownBlock ∧ (v'.ownBlock = v.ownBlock ∨ v'.ownBlock = some w.heap.size) := by
  obtain ⟨i, hi, hz, hsize, hby⟩ := info_parts hinfo
  obtain ⟨hl, ⟨rfl, rfl⟩ | ⟨ad, rfl, hn⟩⟩ := hnews
  · rw [Nat.zero_mul] at hl
    have := List.eq_nil_of_length_eq_zero hl
    subst this
    exact ⟨v, w, run_append_none0 _ t ty e i size ht hi v n xs hown c, by simpa using hown, ⟨rfl, rfl, rfl, Nat.le_refl _, fun _ _ _ => rfl⟩, .inl rfl⟩
  · obtain ⟨v', w', hr, h2, h3, _, h5⟩ := run_append_own_at (P := P) w 0 t ty e i z size bytes ht hi hz hsize hby hzs hsz v n xs hown ad m c news hl hn h1 h63 hbytes (Nat.zero_le _)
    exact ⟨v', w', hr, h2, h3, h5⟩
theorem own_cat {P : Program} {w0 w : World} {L : List Thing} (h : Own w0 w L) (t ty : TypeId) (e : TypeId) (z : Value) (size bytes : Nat) (ht : P.underlying t = some (.slice e))
    (hinfo : (P.info? e).map (fun i => (i.zero, i.size, i.bytes)) = some (some z, size, bytes)) (hzs : z.cells.size = size) (hsz : 0 < size)
    (v : Value) (n : Nat) (xs : List Value) (i : Nat) (hi : L[i]? = some (rowT e size v n xs))
    (A : Option Addr) (m c : Nat) (news : List Value) (hnews : News w A size m news) (h1 : ∀ u ∈ news, u.oneCell' = true)
    (h63 : n + m ≤ maxLen) (hbytes : (n + m) * bytes ≤ 140737488355328) :
    ∃ v' w', (Builtin.append_ #[t, t] ty #[v, .slice A m c]).run P w = .ok v' w' ∧ Own w0 w' (L.set i (rowT e size v' (n + m) (xs ++ news))) := by
  obtain ⟨v', w', hr, h2, h3, h5⟩ := run_cat2 (P := P) t ty e z size bytes ht hinfo hzs hsz v n xs (h.row hi) A m c news hnews h1 h63 hbytes
  refine ⟨v', w', hr, ?_⟩
  obtain ⟨S, hp, hk⟩ := h.upd hi
  refine hk w' _ (fun k => v'.ownBlock = some k) ⟨h3.os, h3.tape, h3.output, h3.size, fun k hkl hnS => h3.block k hkl (fun e => hnS ((hp.2 k).2 e.symm))⟩ ⟨h2, fun _ => Iff.rfl⟩ (fun b hb => ?_)
  rcases h5 with e | e
  · exact .inl ((hp.2 b).2 (e ▸ hb))
  · rw [e] at hb; simp at hb; exact .inr (by omega)
theorem wp_ocat {P : Program} {w0 w : World} {L : List Thing} {o : Oper} {a : Act} {K : Act → World → Prop} {Q : Exit → Act → World → Prop} (hO : Own w0 w L) (s x : Operand) (t : TypeId)
    (ho : o.op = .call { callee := .builtin .append, args := #[s, x], argTypes := #[t, t] })
    (e : TypeId) (z : Value) (size bytes : Nat) (ht : P.underlying t = some (.slice e))
    (hinfo : (P.info? e).map (fun i => (i.zero, i.size, i.bytes)) = some (some z, size, bytes)) (hzs : z.cells.size = size) (hsz : 0 < size)
    (v : Value) (n : Nat) (xs : List Value) (hs : a.eval s = v) (i : Nat) (hi : L[i]? = some (rowT e size v n xs))
    (A : Option Addr) (m c : Nat) (news : List Value) (hx : a.eval x = .slice A m c) (hnews : News w A size m news) (h1 : ∀ u ∈ news, u.oneCell' = true)
    (h63 : n + m ≤ maxLen) (hbytes : (n + m) * bytes ≤ 140737488355328)
    (h : ∀ v' w', Own w0 w' (L.set i (rowT e size v' (n + m) (xs ++ news))) → K (a.put o.dst v') w') : o.wp P a w K Q := by
  obtain ⟨v', w', hr, h2⟩ := own_cat (P := P) hO t o.type e z size bytes ht hinfo hzs hsz v n xs i hi A m c news hnews h1 h63 hbytes
  unfold Oper.wp execOp
  simp only [ho, resolve, invoke, builtin, Sem.run_bind, Sem.run_pure, Result.andThen_ok, List.map_toArray, List.map_cons, List.map_nil, hs, hx, hr]
  exact h v' w' h2
theorem step_ocat {P : Program} {w0 w : World} {L : List Thing} {ops : Array Oper} {o : Oper} {a : Act} {K : Act → World → Prop} {Q : Exit → Act → World → Prop} {E : Prop} (hO : Own w0 w L) (s x : Operand) (t : TypeId)
    (ho : o.op = .call { callee := .builtin .append, args := #[s, x], argTypes := #[t, t] }) (hw : Region.wanted o (yielded ops a.tmps) = true)
    (e : TypeId) (z : Value) (size bytes : Nat) (ht : P.underlying t = some (.slice e))
    (hinfo : (P.info? e).map (fun i => (i.zero, i.size, i.bytes)) = some (some z, size, bytes)) (hzs : z.cells.size = size) (hsz : 0 < size)
    (v : Value) (n : Nat) (xs : List Value) (hs : a.eval s = v) (i : Nat) (hi : L[i]? = some (rowT e size v n xs))
    (A : Option Addr) (m c : Nat) (news : List Value) (hx : a.eval x = .slice A m c) (hnews : News w A size m news) (h1 : ∀ u ∈ news, u.oneCell' = true)
    (h63 : n + m ≤ maxLen) (hbytes : (n + m) * bytes ≤ 140737488355328)
    (h : ∀ v' w', Own w0 w' (L.set i (rowT e size v' (n + m) (xs ++ news))) → K (a.put o.dst v') w') :
    if Region.wanted o (yielded ops a.tmps) = true then Oper.wp P o a w K Q else E := by
  rw [if_pos hw]
  exact wp_ocat hO s x t ho e z size bytes ht hinfo hzs hsz v n xs hs i hi A m c news hx hnews h1 h63 hbytes h
theorem wpList_ocat {P : Program} {w0 w : World} {L : List Thing} {ops : Array Oper} {rest : List Oper} {o : Oper} {a : Act} {Q : Exit → Act → World → Prop} (hO : Own w0 w L) (hgd : o.guard = none) (s x : Operand) (t : TypeId)
    (ho : o.op = .call { callee := .builtin .append, args := #[s, x], argTypes := #[t, t] })
    (e : TypeId) (z : Value) (size bytes : Nat) (ht : P.underlying t = some (.slice e))
    (hinfo : (P.info? e).map (fun i => (i.zero, i.size, i.bytes)) = some (some z, size, bytes)) (hzs : z.cells.size = size) (hsz : 0 < size)
    (v : Value) (n : Nat) (xs : List Value) (hs : a.eval s = v) (i : Nat) (hi : L[i]? = some (rowT e size v n xs))
    (A : Option Addr) (m c : Nat) (news : List Value) (hx : a.eval x = .slice A m c) (hnews : News w A size m news) (h1 : ∀ u ∈ news, u.oneCell' = true)
    (h63 : n + m ≤ maxLen) (hbytes : (n + m) * bytes ≤ 140737488355328)
    (h : ∀ v' w', Own w0 w' (L.set i (rowT e size v' (n + m) (xs ++ news))) → wpList P ops Q rest (a.put o.dst v') w') : wpList P ops Q (o :: rest) a w :=
  wpList_plain hgd fun _ hK => wp_ocat hO s x t ho e z size bytes ht hinfo hzs hsz v n xs hs i hi A m c news hx hnews h1 h63 hbytes fun v' w' h2 => hK _ _ (h v' w' h2)
end Go.Proofs.YtikimmgileffgaaGreatDoor
end
/- Patterns of messages, as plain data, and how they lie in memory (layer 5). No program in sight. -/
section
namespace Go.Proofs.YtikimmgileffgaaGreatDoor
open Go.RowKit

structure Msg where
  frm : Int
  t : List Int
  deriving DecidableEq, Inhabited
structure Pat where
  name : List UInt8
  pre0 : List Int
  pre1 : List Int
  msgs : List Msg
  deriving DecidableEq, Inhabited
def okB (b : UInt8) : Bool := (decide (97 ≤ b.toNat) && decide (b.toNat ≤ 122)) || (decide (65 ≤ b.toNat) && decide (b.toNat ≤ 90)) || (decide (48 ≤ b.toNat) && decide (b.toNat ≤ 57)) || decide (b.toNat = 43)
def namedB (s : List UInt8) : Bool := s.all okB && decide (1 ≤ s.length) && decide (s.length ≤ 20)
def toldB (l : List Int) : Bool := decide (l = []) || decide (l = [1]) || decide (l = [2]) || decide (l = [1, 2])
def noneT (t : Int) : Bool := decide (t < 1) || decide (7 < t)
def wrongM (m : Msg) : Bool := decide (m.frm < 0) || decide (1 < m.frm) || decide (m.t.length < 1) || decide (12 < m.t.length) || m.t.any noneT
def rightP (p : Pat) : Bool := namedB p.name && toldB p.pre0 && toldB p.pre1 && decide (1 ≤ p.msgs.length) && decide (p.msgs.length ≤ 6) && !p.msgs.any wrongM

/-- A slice of ints, whose cells lie in blocks of a set. -/
def IntsIn (w : World) (S : Nat → Prop) (v : Value) (l : List Int) : Prop :=
  ∃ A c, v = .slice A l.length c ∧ Holds w A (intsV l) ∧ (l ≠ [] → ∀ a, A = some a → S a.block)
theorem IntsIn.keep {w w' : World} {S T : Nat → Prop} {v : Value} {l : List Int} (h : IntsIn w S v l) (u : Upd T w w') (hd : ∀ b, S b → ¬ T b) : IntsIn w' S v l := by
  obtain ⟨A, c, hv, h1, h2⟩ := h
  refine ⟨A, c, hv, ?_, h2⟩
  rcases h1 with h1 | ⟨b, o, hA, h1⟩
  · exact .inl h1
  · by_cases he : l = []
    · left; rw [he]; rfl
    · exact .inr ⟨b, o, hA, fun i v hi => u.cell' (h1 i v hi) (hd b (h2 he _ hA))⟩
theorem IntsIn.mono {w : World} {S T : Nat → Prop} {v : Value} {l : List Int} (h : IntsIn w S v l) (hs : ∀ b, S b → T b) : IntsIn w T v l := by
  obtain ⟨A, c, hv, h1, h2⟩ := h
  exact ⟨A, c, hv, h1, fun he a ha => hs _ (h2 he a ha)⟩
def MsgsIn (w : World) (S : Nat → Prop) (A : Option Addr) (l : List Msg) : Prop :=
  l = [] ∨ ∃ b o, A = some ⟨b, o, none⟩ ∧ S b ∧ ∀ i m, l[i]? = some m → w.cell? ⟨b, o + i * 2, none⟩ = some (.int .i64 m.frm) ∧ ∃ vt, w.cell? ⟨b, o + i * 2 + 1, none⟩ = some vt ∧ IntsIn w S vt m.t
theorem MsgsIn.keep {w w' : World} {S T : Nat → Prop} {A : Option Addr} {l : List Msg} (h : MsgsIn w S A l) (u : Upd T w w') (hd : ∀ b, S b → ¬ T b) : MsgsIn w' S A l := by
  rcases h with h | ⟨b, o, hA, hS, h⟩
  · exact .inl h
  · refine .inr ⟨b, o, hA, hS, fun i m hi => ?_⟩
    obtain ⟨h1, vt, h2, h3⟩ := h i m hi
    exact ⟨u.cell' h1 (hd b hS), vt, u.cell' h2 (hd b hS), h3.keep u hd⟩
theorem MsgsIn.mono {w : World} {S T : Nat → Prop} {A : Option Addr} {l : List Msg} (h : MsgsIn w S A l) (hs : ∀ b, S b → T b) : MsgsIn w T A l := by
  rcases h with h | ⟨b, o, hA, hS, h⟩
  · exact .inl h
  · refine .inr ⟨b, o, hA, hs b hS, fun i m hi => ?_⟩
    obtain ⟨h1, vt, h2, h3⟩ := h i m hi
    exact ⟨h1, vt, h2, h3.mono hs⟩
/-- A pattern: its name, three slices. -/
structure PatV where
  v0 : Value
  v1 : Value
  A : Option Addr
  c : Nat
def PatV.cells (x : PatV) (p : Pat) : List Value := [.string (strO p.name), x.v0, x.v1, .slice x.A p.msgs.length x.c]
structure PatIn (w : World) (S : Nat → Prop) (x : PatV) (p : Pat) : Prop where
  pre0 : IntsIn w S x.v0 p.pre0
  pre1 : IntsIn w S x.v1 p.pre1
  msgs : MsgsIn w S x.A p.msgs
theorem PatIn.keep {w w' : World} {S T : Nat → Prop} {x : PatV} {p : Pat} (h : PatIn w S x p) (u : Upd T w w') (hd : ∀ b, S b → ¬ T b) : PatIn w' S x p := ⟨h.pre0.keep u hd, h.pre1.keep u hd, h.msgs.keep u hd⟩
theorem PatIn.mono {w : World} {S T : Nat → Prop} {x : PatV} {p : Pat} (h : PatIn w S x p) (hs : ∀ b, S b → T b) : PatIn w T x p := ⟨h.pre0.mono hs, h.pre1.mono hs, h.msgs.mono hs⟩
/-- A pattern among the things that a call has made. -/
def patT (x : PatV) (p : Pat) : Thing where
  P w S := PatIn w S x p ∧ ∀ b, S b → b < w.heap.size
  lt _ _ h := h.2
  keep _ _ _ _ h u hd := ⟨h.1.keep u hd, fun b hb => Nat.lt_of_lt_of_le (h.2 b hb) u.size⟩
/-- The blocks that were there. -/
def Old (w : World) : Nat → Prop := fun b => b < w.heap.size
theorem PatIn.below {w w' : World} {x : PatV} {p : Pat} (h : PatIn w (Old w) x p) (u : Below w.heap.size w w') : PatIn w' (Old w') x p :=
  (h.keep (T := fun b => ¬ b < w.heap.size) ⟨u.os, u.tape, u.output, u.size, fun k hk _ => u.block k hk⟩ (fun _b hb hn => hn hb)).mono fun _b hb => Nat.lt_of_lt_of_le hb u.size
theorem IntsIn.below {w w' : World} {v : Value} {l : List Int} (h : IntsIn w (Old w) v l) (u : Below w.heap.size w w') : IntsIn w' (Old w') v l :=
  (h.keep (T := fun b => ¬ b < w.heap.size) ⟨u.os, u.tape, u.output, u.size, fun k hk _ => u.block k hk⟩ (fun _b hb hn => hn hb)).mono fun _b hb => Nat.lt_of_lt_of_le hb u.size
theorem MsgsIn.below {w w' : World} {A : Option Addr} {l : List Msg} (h : MsgsIn w (Old w) A l) (u : Below w.heap.size w w') : MsgsIn w' (Old w') A l :=
  (h.keep (T := fun b => ¬ b < w.heap.size) ⟨u.os, u.tape, u.output, u.size, fun k hk _ => u.block k hk⟩ (fun _b hb hn => hn hb)).mono fun _b hb => Nat.lt_of_lt_of_le hb u.size
end Go.Proofs.YtikimmgileffgaaGreatDoor
end
/- Whether what is told beforehand, and a message, may be (layer 5). -/
section
namespace Go.Proofs.YtikimmgileffgaaGreatDoor
open Go.RowKit

theorem none1_calls (t : Int) (w : World) : Calls Tryz.prog 164 #[.int .i64 t] w fun e w' => e = .returned (.bool (noneT t)) ∧ w = w' := by
  by_cases h1 : t < 1
  · have d1 : decide (t < 1) = true := decide_eq_true h1
    have Hn := Lib.hid (show noneT t = true by unfold noneT; rw [d1]; rfl)
    clear h1
    go_enter Tryz.func164, Tryz.ntmps164
    go_wp2_with fail
    go_ret
    exact ⟨by rw [Hn.out]; rfl, rfl⟩
  · have d1 : decide (t < 1) = false := decide_eq_false h1
    cases h2 : decide (7 < t) with
    | true =>
      have Hn := Lib.hid (show noneT t = true by unfold noneT; rw [d1, h2]; rfl)
      clear h1
      go_enter Tryz.func164, Tryz.ntmps164
      go_wp2_with fail
      go_ret
      exact ⟨by rw [Hn.out]; rfl, rfl⟩
    | false =>
      have Hn := Lib.hid (show noneT t = false by unfold noneT; rw [d1, h2]; rfl)
      clear h1
      go_enter Tryz.func164, Tryz.ntmps164
      go_wp2_with fail
      go_ret
      exact ⟨by rw [Hn.out]; rfl, rfl⟩
/-- slices.Equal at two rows of ints. -/
theorem equal_calls {w : World} {A1 A2 : Option Addr} {xs ys : List Int} (c1 c2 : Nat) (h1 : Holds w A1 (intsV xs)) (h2 : Holds w A2 (intsV ys)) (hx : xs.length ≤ 9223372036854775807) (hy : ys.length ≤ 9223372036854775807) :
    Calls Tryz.prog 192 #[.slice A1 xs.length c1, .slice A2 ys.length c2] w fun e w' => e = .returned (.bool (decide (xs = ys))) ∧ Below w.heap.size w w' := by
  by_cases hl : xs.length = ys.length
  · rcases h1 with h1 | ⟨b1, o1, rfl, h1⟩
    · have hx0 : xs = [] := by simpa [intsV] using h1
      subst hx0
      have hy0 : ys = [] := List.eq_nil_of_length_eq_zero (by simpa using hl.symm)
      subst hy0
      exact (Sh.slices_Equal_int_empty A1 A2 c1 0 c2 w (by decide)).mono fun e w' ⟨h3, h4⟩ => ⟨by rw [h3]; rfl, by rw [h4]; exact Below.refl _ _⟩
    · rcases h2 with h2 | ⟨b2, o2, rfl, h2⟩
      · have hy0 : ys = [] := by simpa [intsV] using h2
        subst hy0
        have hx0 : xs = [] := List.eq_nil_of_length_eq_zero (by simpa using hl)
        subst hx0
        exact (Sh.slices_Equal_int_empty _ A2 c1 0 c2 w (by decide)).mono fun e w' ⟨h3, h4⟩ => ⟨by rw [h3]; rfl, by rw [h4]; exact Below.refl _ _⟩
      · have hc1 : ∀ j, j < xs.length → w.cell? ⟨b1, o1 + j, none⟩ = some (.int .i64 (xs.getD j 0)) := fun j hj => h1 j _ (by simp [intsV, hj])
        have hc2 : ∀ j, j < ys.length → w.cell? ⟨b2, o2 + j, none⟩ = some (.int .i64 (ys.getD j 0)) := fun j hj => h2 j _ (by simp [intsV, hj])
        refine (Sh.slices_Equal_int b1 o1 xs.length c1 b2 o2 ys.length c2 xs ys w (Nat.le_refl _) (Nat.le_refl _) hx hy hc1 hc2).mono fun e w' ⟨h3, q, h4⟩ => ⟨?_, by rw [h4]; exact Upd.below (S := None) ((Upd.refl _ _).drewN _) (Nat.le_refl _) (fun _ _ h => h)⟩
        rw [h3, List.take_length, List.take_length, show (xs == ys) = decide (xs = ys) from by rw [Bool.eq_iff_iff]; simp]
  · have hne : xs ≠ ys := fun h => hl (by rw [h])
    exact (Sh.slices_Equal_int_lens A1 A2 xs.length c1 ys.length c2 w hl).mono fun e w' ⟨h3, h4⟩ => ⟨by rw [h3, decide_eq_false hne], by rw [h4]; exact Below.refl _ _⟩
/-- What a slice of ints of a set holds. -/
theorem IntsIn.holds {w : World} {S : Nat → Prop} {v : Value} {l : List Int} (h : IntsIn w S v l) : ∃ A c, v = .slice A l.length c ∧ Holds w A (intsV l) := by
  obtain ⟨A, c, h1, h2, _⟩ := h; exact ⟨A, c, h1, h2⟩
set_option maxHeartbeats 1600000 in
set_option maxRecDepth 100000 in
theorem told_calls {w : World} {A : Option Addr} {l : List Int} (c : Nat) (h : Holds w A (intsV l)) (hl : l.length ≤ 9223372036854775807) :
    Calls Tryz.prog 167 #[.slice A l.length c] w fun e w' => e = .returned (.bool (toldB l)) ∧ Below w.heap.size w w' := by
  have H := Lib.hid h
  clear h
  by_cases h0 : l = []
  · subst h0
    go_enter Tryz.func167, Tryz.ntmps167
    go_wp2_with fail
    go_ret
    exact ⟨rfl, Below.refl _ _⟩
  · have d0 : ((l.length : Int) == 0) = false := by rw [beq_eq_false_iff_ne]; have := List.length_pos_iff.2 h0; omega
    have d1 : decide (l = []) = false := decide_eq_false h0
    have Hr := Lib.hid (show toldB l = (decide (l = [1]) || decide (l = [2]) || decide (l = [1, 2])) by unfold toldB; rw [d1]; simp)
    have e1 := fun (w' : World) (hb : Below w.heap.size w w') => equal_calls (w := w'.alloc (.cells #[.int .i64 1] 3)) (xs := l) (ys := [1]) c 1 ((H.out.below hb).below ((Below.refl _ _).alloc (Nat.le_refl _) _)) (.inr ⟨w'.heap.size, 0, rfl, fun i v hi => by
      match i, hi with
      | 0, hi => cases hi; exact cell_of_heap (new_at rfl)⟩) hl (by decide)
    have e2 := fun (w' : World) (hb : Below w.heap.size w w') => equal_calls (w := w'.alloc (.cells #[.int .i64 2] 3)) (xs := l) (ys := [2]) c 1 ((H.out.below hb).below ((Below.refl _ _).alloc (Nat.le_refl _) _)) (.inr ⟨w'.heap.size, 0, rfl, fun i v hi => by
      match i, hi with
      | 0, hi => cases hi; exact cell_of_heap (new_at rfl)⟩) hl (by decide)
    have e3 := fun (w' : World) (hb : Below w.heap.size w w') => equal_calls (w := w'.alloc (.cells #[.int .i64 1, .int .i64 2] 3)) (xs := l) (ys := [1, 2]) c 2 ((H.out.below hb).below ((Below.refl _ _).alloc (Nat.le_refl _) _)) (.inr ⟨w'.heap.size, 0, rfl, fun i v hi => by
      match i, hi with
      | 0, hi => cases hi; exact cell_of_heap (new_at rfl)
      | 1, hi => cases hi; exact cell_of_heap (new_at rfl)⟩) hl (by decide)
    have E1 := Lib.hid e1
    have E2 := Lib.hid e2
    have E3 := Lib.hid e3
    clear e1 e2 e3 h0 d1
    go_enter Tryz.func167, Tryz.ntmps167
    go_wp2_with fail
    refine (E1.out w (Below.refl _ _)).mono ?_
    rintro e w1 ⟨rfl, b1⟩
    have B1 := Lib.hid (below_call ((Below.refl w.heap.size w).alloc (Nat.le_refl _) (.cells #[.int .i64 1] 3)) b1)
    clear b1
    cases c1 : decide (l = [1]) with
    | true =>
      have Hr2 := Lib.hid (show toldB l = true by rw [Hr.out, c1]; rfl)
      go_wp2_with fail
      go_ret
      exact ⟨by rw [Hr2.out]; rfl, B1.out⟩
    | false =>
      go_wp2_with fail
      refine (E2.out w1 B1.out).mono ?_
      rintro e w2 ⟨rfl, b2⟩
      have B2 := Lib.hid (below_call (B1.out.alloc B1.out.size (.cells #[.int .i64 2] 3)) b2)
      clear b2
      cases c2 : decide (l = [2]) with
      | true =>
        have Hr2 := Lib.hid (show toldB l = true by rw [Hr.out, c1, c2]; rfl)
        go_wp2_with fail
        go_ret
        exact ⟨by rw [Hr2.out]; rfl, B2.out⟩
      | false =>
        go_wp2_with fail
        refine (E3.out w2 B2.out).mono ?_
        rintro e w3 ⟨rfl, b3⟩
        have B3 := Lib.hid (below_call (B2.out.alloc B2.out.size (.cells #[.int .i64 1, .int .i64 2] 3)) b3)
        clear b3
        have Hr2 := Lib.hid (show toldB l = decide (l = [1, 2]) by rw [Hr.out, c1, c2]; rfl)
        go_wp2_with fail
        go_ret
        exact ⟨by rw [Hr2.out]; rfl, B3.out⟩
end Go.Proofs.YtikimmgileffgaaGreatDoor
end
/- Whether a message may be (layer 5); whether one of a row of messages is of a kind. -/
section
namespace Go.Proofs.YtikimmgileffgaaGreatDoor
open Go.RowKit

theorem enters_none : ∀ args w, (callFunc 164 args).run Tryz.prog w = .ok (.enter 164 args) w := enters_of Tryz.func164 (by kernel_rfl) rfl
theorem none_pred (w : World) : PredAt Tryz.prog 164 #[] (Value.int .i64) noneT w := fun W x _ => by
  show Calls Tryz.prog 164 #[.int .i64 x] W _
  exact (none1_calls x W).mono fun e w' ⟨h1, h2⟩ => ⟨h1, 0, by rw [← h2]; rfl⟩
/-- slices.ContainsFunc at a row of ints, of the tokens that there are not. -/
theorem anyNone_calls {w : World} {A : Option Addr} {l : List Int} (c : Nat) (h : Holds w A (intsV l)) (hl : l.length ≤ 9223372036854775807) :
    Calls Tryz.prog 114 #[.slice A l.length c, .func (.func 164) #[] #[]] w fun e w' => e = .returned (.bool (l.any noneT)) ∧ Below w.heap.size w w' := by
  rcases h with h | ⟨b, o, rfl, h⟩
  · have h0 : l = [] := by simpa [intsV] using h
    subst h0
    exact (Sh.slices_ContainsFunc_empty (α := Int) A c _ w).mono fun e w' ⟨h1, h2⟩ => ⟨h1, by rw [h2]; exact Below.refl _ _⟩
  · refine (Sh.slices_ContainsFunc (Value.int .i64) noneT 164 #[] enters_none b o l.length c l w (none_pred w) (Nat.le_refl _) hl (fun j hj => h j _ (by simp [intsV, hj]))).mono fun e w' ⟨h1, q, h2⟩ => ⟨?_, ?_⟩
    · rw [h1, List.take_length]
    · rw [h2]; exact Upd.below (S := None) ((Upd.refl _ _).drewN _) (Nat.le_refl _) (fun _ _ h => h)
def MsgPost (m : Msg) (w : World) (e : Ending) (w' : World) : Prop := e = .returned (.bool (wrongM m)) ∧ Below w.heap.size w w'
set_option maxHeartbeats 1600000 in
set_option maxRecDepth 100000 in
theorem wrong_calls {w : World} {A : Option Addr} {m : Msg} (c pn : Nat) (h : Holds w A (intsV m.t)) (hl : m.t.length ≤ 9223372036854775807) (hp : w.cell? ⟨pn, 0, none⟩ = some (.func (.func 164) #[] #[])) :
    Calls Tryz.prog 165 #[.agg #[.int .i64 m.frm, .slice A m.t.length c], .pointer (some ⟨pn, 0, none⟩)] w (MsgPost m w) := by
  obtain ⟨f, l⟩ := m
  dsimp only at h hl ⊢
  have hb := (Below.refl w.heap.size w).alloc (Nat.le_refl _) (.cells #[.int .i64 f, .slice A l.length c] 61)
  have hp1 := (hb.cell (World.block_lt_of_cell? w _ hp)).trans hp
  have lpn := World.block_lt_of_cell? w _ hp
  have HB := Lib.hid hb
  have Hc := Lib.hid (anyNone_calls (w := w.alloc (.cells #[.int .i64 f, .slice A l.length c] 61)) c (h.below hb) hl)
  have Hr := Lib.hid (show wrongM ⟨f, l⟩ = (decide (f < 0) || decide (1 < f) || decide (l.length < 1) || decide (12 < l.length) || l.any noneT) from rfl)
  unfold MsgPost
  by_cases hbad : f < 0 ∨ 1 < f ∨ l.length < 1 ∨ 12 < l.length
  · have Hw := Lib.hid (show wrongM ⟨f, l⟩ = true by
      rw [Hr.out]
      rcases hbad with h | h | h | h
      · rw [decide_eq_true h]; rfl
      · rw [decide_eq_true h]; simp
      · rw [decide_eq_true h]; simp
      · rw [decide_eq_true h]; simp)
    have hd : decide (f < 0) = true ∨ decide (f < 0) = false ∧ (decide (1 < f) = true ∨ decide (1 < f) = false ∧ ((decide (l.length < 1) = true ∧ decide ((l.length : Int) < 1) = true) ∨ (decide (l.length < 1) = false ∧ decide ((l.length : Int) < 1) = false) ∧ (decide (12 < l.length) = true ∧ decide ((12 : Int) < (l.length : Int)) = true))) := by
      by_cases h1 : f < 0
      · exact .inl (decide_eq_true h1)
      · refine .inr ⟨decide_eq_false h1, ?_⟩
        by_cases h2 : 1 < f
        · exact .inl (decide_eq_true h2)
        · refine .inr ⟨decide_eq_false h2, ?_⟩
          by_cases h3 : l.length < 1
          · exact .inl ⟨decide_eq_true h3, decide_eq_true (by omega)⟩
          · exact .inr ⟨⟨decide_eq_false h3, decide_eq_false (by omega)⟩, decide_eq_true (by omega), decide_eq_true (by omega)⟩
    clear hbad hb h hp Hc
    rcases hd with d1 | ⟨d1, d2 | ⟨d2, ⟨d3, d4⟩ | ⟨⟨d3, d4⟩, d5, d6⟩⟩⟩
    all_goals
      go_enter Tryz.func165, Tryz.ntmps165
      go_wp2_with fail
      go_ret
      exact ⟨by rw [Hw.out]; rfl, HB.out⟩
  · have d1 : decide (f < 0) = false := decide_eq_false (by omega)
    have d2 : decide (1 < f) = false := decide_eq_false (by omega)
    have d3 : decide (l.length < 1) = false := decide_eq_false (by omega)
    have d4 : decide ((l.length : Int) < 1) = false := decide_eq_false (by omega)
    have d5 : decide (12 < l.length) = false := decide_eq_false (by omega)
    have d6 : decide ((12 : Int) < (l.length : Int)) = false := decide_eq_false (by omega)
    have Hw := Lib.hid (show wrongM ⟨f, l⟩ = l.any noneT by rw [Hr.out, d1, d2, d3, d5]; rfl)
    clear hbad hb h Hr
    go_enter Tryz.func165, Tryz.ntmps165
    go_wp2_with fail
    refine Hc.out.mono ?_
    rintro e w1 ⟨rfl, b1⟩
    have B1 := Lib.hid (below_call HB.out b1)
    clear b1 hp1
    go_wp2_with fail
    go_ret
    exact ⟨by rw [Hw.out]; rfl, B1.out⟩
/-- One of a row of messages in memory. -/
theorem MsgsIn.at {w : World} {S : Nat → Prop} {A : Option Addr} {l : List Msg} (h : MsgsIn w S A l) {i : Nat} {m : Msg} (hi : l[i]? = some m) :
    ∃ b o A2 c2, A = some ⟨b, o, none⟩ ∧ w.cell? ⟨b, o + i * 2, none⟩ = some (.int .i64 m.frm) ∧ w.cell? ⟨b, o + i * 2 + 1, none⟩ = some (.slice A2 m.t.length c2) ∧ Holds w A2 (intsV m.t) := by
  rcases h with h | ⟨b, o, hA, _, h⟩
  · rw [h] at hi; cases hi
  · obtain ⟨h1, vt, h2, A2, c2, rfl, h3, _⟩ := h i m hi
    exact ⟨b, o, A2, c2, hA, h1, h2, h3⟩
/-- What a test of messages tells, whatever was made meanwhile. -/
def MsgTest (f : FuncId) (caps : Array Value) (p : Msg → Bool) (W : World) : Prop :=
  ∀ w', Below W.heap.size W w' → ∀ (m : Msg) A c, m.t.length ≤ 9223372036854775807 → Holds w' A (intsV m.t) → Calls Tryz.prog f (#[.agg #[.int .i64 m.frm, .slice A m.t.length c]] ++ caps) w' fun e w'' => e = .returned (.bool (p m)) ∧ Below w'.heap.size w' w''
end Go.Proofs.YtikimmgileffgaaGreatDoor
end
/- Whether a name may be (layer 5): a range over a string's runes. -/
section
namespace Go.Proofs.YtikimmgileffgaaGreatDoor
open Go.RowKit

def okR (r : Nat) : Bool := (decide (97 ≤ r) && decide (r ≤ 122)) || (decide (65 ≤ r) && decide (r ≤ 90)) || (decide (48 ≤ r) && decide (r ≤ 57)) || decide (r = 43)
def RuneIs (r : Nat) (b1 b2 b3 b4 b5 b6 b7 o : Bool) : Prop :=
  decide ((r : Int) < 97) = b1 ∧ decide ((122 : Int) < r) = b2 ∧ decide ((r : Int) < 65) = b3 ∧ decide ((90 : Int) < r) = b4 ∧ decide ((r : Int) < 48) = b5 ∧ decide ((57 : Int) < r) = b6 ∧ ((r : Int) != 43) = b7 ∧ okR r = o
theorem runeIs (r : Nat) :
    RuneIs r true false true false true false true false ∨ RuneIs r true false true false true false false true ∨ RuneIs r true false true false false false true true ∨
    RuneIs r true false true false false true true false ∨ RuneIs r true false false false false true true true ∨ RuneIs r true false false true false true true false ∨
    RuneIs r false false false true false true true true ∨ RuneIs r false true false true false true true false := by
  unfold RuneIs okR
  by_cases h1 : r < 48
  · by_cases h2 : r = 43
    · subst h2; right; left; decide
    · left; simp; omega
  · by_cases h2 : r < 58
    · right; right; left; simp; omega
    · by_cases h3 : r < 65
      · right; right; right; left; simp; omega
      · by_cases h4 : r < 91
        · right; right; right; right; left; simp; omega
        · by_cases h5 : r < 97
          · right; right; right; right; right; left; simp; omega
          · by_cases h6 : r < 123
            · right; right; right; right; right; right; left; simp; omega
            · right; right; right; right; right; right; right; simp; omega
theorem okB_eq (b : UInt8) : okB b = okR b.toNat := rfl
theorem strO_get (l : List UInt8) (k : Nat) (h : k < (strO l).size) (hk : k < l.length) : (strO l)[k]'h = l[k] := by
  show (strO l).data[k]'h = _
  simp [strO]
/-- What 'next' tells at a place of a string: where the byte may stand in a name, it is the rune, and one byte. -/
theorem rune_at (l : List UInt8) (k : Nat) (hk : k < l.length) : okR (Utf8.decode (strO l) k).1 = okB l[k] ∧ (okB l[k] = true → (Utf8.decode (strO l) k).2 = 1) := by
  have hs : k < (strO l).size := by rw [size_str]; exact hk
  have hg := strO_get l k hs hk
  by_cases ha : l[k].toNat < 128
  · have := decode_ascii (strO l) k hs (by rw [hg]; exact ha)
    rw [this, hg]
    exact ⟨rfl, fun _ => rfl⟩
  · have := decode_high (strO l) k hs (by rw [hg]; omega)
    have h1 : ∀ r, 128 ≤ r → okR r = false := fun r hr => by unfold okR; simp; omega
    rw [h1 _ this.1, okB_eq, h1 _ (by omega)]
    exact ⟨rfl, fun h => by cases h⟩
set_option maxHeartbeats 1600000 in
set_option maxRecDepth 100000 in
theorem named5_calls (l : List UInt8) (w : World) (hl : l.length ≤ 9223372036854775807) :
    Calls Tryz.prog 166 #[.string (strO l)] w fun e w' => e = .returned (.bool (namedB l)) ∧ Below w.heap.size w w' := by
  have hsz := size_str l
  have HB := Lib.hid (show ∀ k, Below w.heap.size w (w.iter (strO l) k) from fun k => (Below.refl _ _).alloc (Nat.le_refl _) _)
  have HN := Lib.hid (fun k hk => rune_at l k hk)
  generalize hS : strO l = S at *
  have Hs := Lib.hid hsz
  clear hS hsz
  go_enter Tryz.func166, Tryz.ntmps166
  go_wp2_with fail
  go_loopw [2] (fun v wr => ∃ k : Nat, k ≤ l.length ∧ v = .bool false ∧ wr = w.iter S k ∧ Hid ((l.take k).all okB = true))
    (fun _ wr => l.length - wr.iterPos w.heap.size)
  case atStart => exact ⟨0, by omega, rfl, rfl, Lib.hid (by simp)⟩
  case round =>
    obtain ⟨k, hk, rfl, rfl, hall⟩ := hrel
    by_cases hlt : k < l.length
    · have hnx := fun ty => run_next_any (P := Tryz.prog) w S k ty (by rw [Hs.out]; exact hlt)
      obtain ⟨hr1, hr2⟩ := HN.out k hlt
      have Htk := Lib.hid (show (l.take (k + 1)).all okB = ((l.take k).all okB && okB l[k]) by rw [List.take_add_one, List.getElem?_eq_getElem hlt]; simp only [List.all_append, Option.toList_some, List.all_cons, List.all_nil, Bool.and_true])
      have HF := Lib.hid (show okB l[k] = false → namedB l = false by
        intro h
        have : l.all okB = false := by rw [List.all_eq_false]; exact ⟨l[k], List.getElem_mem hlt, by rw [h]; simp⟩
        unfold namedB; rw [this]; rfl)
      have Hlt := Lib.hid hlt
      generalize hu : okB l[k] = u at *
      clear hu hlt
      generalize (Utf8.decode S k).1 = r at *
      generalize (Utf8.decode S k).2 = z at *
      rcases runeIs r with h | h | h | h | h | h | h | h
      all_goals
        obtain ⟨d1, d2, d3, d4, d5, d6, d7, hok⟩ := h
        rw [hok] at hr1
        subst hr1
      all_goals clear hok
      · have HF1 := Lib.hid (HF.out rfl)
        clear HF
        go_wp2_with fail
        go_ret
        exact ⟨by rw [HF1.out]; rfl, HB.out _⟩
      · obtain rfl := hr2 rfl
        clear hr2 HF
        go_wp2_with fail
        go_roundw
        case rel => have := Hlt.out; exact ⟨k + 1, by omega, rfl, rfl, Lib.hid (by rw [Htk.out, hall.out]; rfl)⟩
        case measure => have := Hlt.out; simp only [World.iterPos_iter]; omega
      · obtain rfl := hr2 rfl
        clear hr2 HF
        go_wp2_with fail
        go_roundw
        case rel => have := Hlt.out; exact ⟨k + 1, by omega, rfl, rfl, Lib.hid (by rw [Htk.out, hall.out]; rfl)⟩
        case measure => have := Hlt.out; simp only [World.iterPos_iter]; omega
      · have HF1 := Lib.hid (HF.out rfl)
        clear HF
        go_wp2_with fail
        go_ret
        exact ⟨by rw [HF1.out]; rfl, HB.out _⟩
      · obtain rfl := hr2 rfl
        clear hr2 HF
        go_wp2_with fail
        go_roundw
        case rel => have := Hlt.out; exact ⟨k + 1, by omega, rfl, rfl, Lib.hid (by rw [Htk.out, hall.out]; rfl)⟩
        case measure => have := Hlt.out; simp only [World.iterPos_iter]; omega
      · have HF1 := Lib.hid (HF.out rfl)
        clear HF
        go_wp2_with fail
        go_ret
        exact ⟨by rw [HF1.out]; rfl, HB.out _⟩
      · obtain rfl := hr2 rfl
        clear hr2 HF
        go_wp2_with fail
        go_roundw
        case rel => have := Hlt.out; exact ⟨k + 1, by omega, rfl, rfl, Lib.hid (by rw [Htk.out, hall.out]; rfl)⟩
        case measure => have := Hlt.out; simp only [World.iterPos_iter]; omega
      · have HF1 := Lib.hid (HF.out rfl)
        clear HF
        go_wp2_with fail
        go_ret
        exact ⟨by rw [HF1.out]; rfl, HB.out _⟩
    · obtain rfl : k = l.length := by omega
      have hnx := fun ty => run_next_end (P := Tryz.prog) w S l.length ty (by rw [Hs.out]; omega)
      have hsz := Hs.out
      have Hw := Lib.hid (show namedB l = (decide (1 ≤ l.length) && decide (l.length ≤ 20)) by
        have := hall.out; rw [List.take_length] at this; unfold namedB; rw [this]; rfl)
      clear hk hlt
      by_cases h1 : 1 ≤ l.length
      · have d1 : decide (1 ≤ l.length) = true := decide_eq_true h1
        have d2 : decide ((1 : Int) ≤ (l.length : Int)) = true := decide_eq_true (by omega)
        by_cases h2 : l.length ≤ 20
        · have d3 : decide (l.length ≤ 20) = true := decide_eq_true h2
          have d4 : decide ((l.length : Int) ≤ 20) = true := decide_eq_true (by omega)
          clear h1 h2
          go_wp2_with fail
          go_ret
          exact ⟨by rw [Hw.out, d1, d3]; rfl, HB.out _⟩
        · have d3 : decide (l.length ≤ 20) = false := decide_eq_false h2
          have d4 : decide ((l.length : Int) ≤ 20) = false := decide_eq_false (by omega)
          clear h1 h2
          go_wp2_with fail
          go_ret
          exact ⟨by rw [Hw.out, d1, d3]; rfl, HB.out _⟩
      · have d1 : decide (1 ≤ l.length) = false := decide_eq_false h1
        have d2 : decide ((1 : Int) ≤ (l.length : Int)) = false := decide_eq_false (by omega)
        clear h1
        go_wp2_with fail
        go_ret
        exact ⟨by rw [Hw.out, d1]; rfl, HB.out _⟩
end Go.Proofs.YtikimmgileffgaaGreatDoor
end
/- slices.IndexFunc and ContainsFunc over messages; whether a pattern may be (layer 5). -/
section
namespace Go.Proofs.YtikimmgileffgaaGreatDoor
open Go.RowKit

def BoolPost (b : Bool) (w : World) (e : Ending) (w' : World) : Prop := e = .returned (.bool b) ∧ Below w.heap.size w w'
def IdxPost (l : List Msg) (p : Msg → Bool) (w : World) (e : Ending) (w' : World) : Prop := (∃ i : Int, e = .returned (.int .i64 i) ∧ decide (0 ≤ i) = l.any p) ∧ Below w.heap.size w w'
set_option maxHeartbeats 1600000 in
set_option maxRecDepth 100000 in
theorem indexMsg_calls {w : World} {A : Option Addr} {l : List Msg} (c : Nat) (f : FuncId) (caps : Array Value) (p : Msg → Bool) (eg : ∀ args w, (callFunc f args).run Tryz.prog w = .ok (.enter f args) w)
    (hf : MsgTest f caps p w) (h : MsgsIn w (Old w) A l) (hl : l.length ≤ 9223372036854775807) (hm : ∀ m ∈ l, m.t.length ≤ 9223372036854775807) :
    Calls Tryz.prog 193 #[.slice A l.length c, .func (.func f) #[] caps] w (IdxPost l p w) := by
  have HF := Lib.hid hf
  have H := Lib.hid h
  have HM := Lib.hid hm
  clear hf h hm
  go_enter Tryz.func193, Tryz.ntmps193
  go_wp2_with fail
  go_loopw [8] (fun i wr => ∃ k : Nat, k ≤ l.length ∧ i = .int .i64 k ∧ Below w.heap.size w wr ∧ Hid ((l.take k).any p = false))
    (fun i _ => l.length - (intOf i).toNat)
  case atStart => exact ⟨0, by omega, rfl, Below.refl _ _, Lib.hid (by simp)⟩
  case round =>
    obtain ⟨k, hk, rfl, bk, hno⟩ := hrel
    have BK := Lib.hid bk
    clear bk
    by_cases hlt : k < l.length
    · obtain ⟨m, hi⟩ : ∃ m, l[k]? = some m := ⟨_, List.getElem?_eq_getElem hlt⟩
      have hik : (k : Int) < l.length := by omega
      have hmm := List.mem_of_getElem? hi
      obtain ⟨b, o, A2, c2, rfl, x0, x1, hh⟩ := (H.out.below BK.out).at hi
      have HC := Lib.hid (HF.out wr BK.out m A2 c2 (HM.out m hmm) hh)
      have Htk := Lib.hid (show (l.take (k + 1)).any p = ((l.take k).any p || p m) by rw [List.take_add_one, hi]; simp only [List.any_append, Option.toList_some, List.any_cons, List.any_nil, Bool.or_false])
      have Hin := Lib.hid (show p m = true → l.any p = true from fun hp => List.any_eq_true.2 ⟨m, hmm, hp⟩)
      have Hlt := Lib.hid hlt
      clear hi hmm hh hlt hk
      go_wp2_with fail
      refine HC.out.mono ?_
      rintro e w1 ⟨rfl, b1⟩
      have B1 := Lib.hid (below_call BK.out b1)
      clear b1 x0 x1
      cases hp : p m with
      | true =>
        have Hin := Lib.hid (Hin.out hp)
        clear hp
        go_wp2_with fail
        go_ret
        exact ⟨⟨k, rfl, by rw [Hin.out]; exact decide_eq_true (by omega)⟩, B1.out⟩
      | false =>
        have Htk := Lib.hid (show (l.take (k + 1)).any p = false by rw [Htk.out, hno.out, hp]; rfl)
        clear hp Hin
        go_wp2_with fail
        go_roundw
        case rel => have := Hlt.out; exact ⟨k + 1, by omega, by go_num, B1.out, Htk⟩
        case measure => have := Hlt.out; simp only [intOf]; omega
    · obtain rfl : k = l.length := by omega
      have Hno := Lib.hid (show l.any p = false by have := hno.out; rwa [List.take_length] at this)
      clear hk hlt hno
      go_wp2_with fail
      go_ret
      exact ⟨⟨-1, rfl, by rw [Hno.out]; rfl⟩, BK.out⟩
set_option maxHeartbeats 800000 in
theorem containsMsg_calls {w : World} {A : Option Addr} {l : List Msg} (c : Nat) (f : FuncId) (caps : Array Value) (p : Msg → Bool) (eg : ∀ args w, (callFunc f args).run Tryz.prog w = .ok (.enter f args) w)
    (hf : MsgTest f caps p w) (h : MsgsIn w (Old w) A l) (hl : l.length ≤ 9223372036854775807) (hm : ∀ m ∈ l, m.t.length ≤ 9223372036854775807) :
    Calls Tryz.prog 168 #[.slice A l.length c, .func (.func f) #[] caps] w (BoolPost (l.any p) w) := by
  have H := Lib.hid (indexMsg_calls c f caps p eg hf h hl hm)
  clear hf h hm eg
  go_enter Tryz.func168, Tryz.ntmps168
  go_wp2_with fail
  refine H.out.mono ?_
  rintro e w1 ⟨⟨i, rfl, hi⟩, b1⟩
  generalize l.any p = z at *
  go_wp2_with fail
  go_ret
  exact ⟨rfl, b1⟩
end Go.Proofs.YtikimmgileffgaaGreatDoor
end
