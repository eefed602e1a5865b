/- Packed by packn.py: Tok6, Mth, Tok7, Tok8, SpL. -/
import Derived.Test.YtikimmgileffgaaGreatDoorQk04
import Derived.Laws.EntriesVeiled
import Derived.Test.YtikimmgileffgaaGreatDoorQk01
import Derived.Lib.Join
import Derived.Deep.DeepCutAuto
import Derived.Lib.Split
import Derived.Lib.AtoiAll
import Derived.Lib.ParseIntB
/- Whether a pattern may be (layer 5). -/
section
namespace Go.Proofs.YtikimmgileffgaaGreatDoor
open Go.RowKit

/-- A pattern as a value, and how long its rows may be. -/
def PatV.val (x : PatV) (p : Pat) : Value := .agg #[.string (strO p.name), x.v0, x.v1, .slice x.A p.msgs.length x.c]
structure PatFits (p : Pat) : Prop where
  name : p.name.length ≤ 9223372036854775807
  pre0 : p.pre0.length ≤ 9223372036854775807
  pre1 : p.pre1.length ≤ 9223372036854775807
  msgs : p.msgs.length ≤ 9223372036854775807
  each : ∀ m ∈ p.msgs, m.t.length ≤ 9223372036854775807
/-- The world of Right's tests: the box and the test's cell laid, the pattern as it was. -/
structure RightAt (w W : World) (B1 B2 : Nat) (x : PatV) (p : Pat) : Prop where
  below : Below w.heap.size w W
  c0 : W.cell? ⟨B1, 0, none⟩ = some (.string (strO p.name))
  c1 : W.cell? ⟨B1, 1, none⟩ = some x.v0
  c2 : W.cell? ⟨B1, 2, none⟩ = some x.v1
  c3 : W.cell? ⟨B1, 3, none⟩ = some (.slice x.A p.msgs.length x.c)
  pn : W.cell? ⟨B2, 0, none⟩ = some (.func (.func 164) #[] #[])
  pat : PatIn W (Old W) x p
theorem IntsIn.at0 {w : World} {S : Nat → Prop} {A : Option Addr} {c : Nat} {l : List Int} (h : IntsIn w S (.slice A l.length c) l) : Holds w A (intsV l) := by
  obtain ⟨A', c', h1, h2⟩ := h.holds; cases h1; exact h2
theorem RightAt.call {w W W' : World} {B1 B2 : Nat} {x : PatV} {p : Pat} (h : RightAt w W B1 B2 x p) (b : Below W.heap.size W W') : RightAt w W' B1 B2 x p := by
  have cc : ∀ {a : Addr} {v : Value}, W.cell? a = some v → W'.cell? a = some v := fun {a v} hc => (b.cell (World.block_lt_of_cell? W _ hc)).trans hc
  exact ⟨below_call h.below b, cc h.c0, cc h.c1, cc h.c2, cc h.c3, cc h.pn, h.pat.below b⟩
theorem enters_wrong : ∀ args w, (callFunc 165 args).run Tryz.prog w = .ok (.enter 165 args) w := enters_of Tryz.func165 (by kernel_rfl) rfl
theorem wrong_test {W : World} {B2 : Nat} (h : W.cell? ⟨B2, 0, none⟩ = some (.func (.func 164) #[] #[])) : MsgTest 165 #[.pointer (some ⟨B2, 0, none⟩)] wrongM W := by
  intro w' b m A c hl hh
  have hp := (b.cell (World.block_lt_of_cell? W _ h)).trans h
  exact wrong_calls c B2 hh hl hp
set_option maxHeartbeats 3200000 in
set_option maxRecDepth 100000 in
theorem right5_calls {w : World} {x : PatV} {p : Pat} (h : PatIn w (Old w) x p) (hp : PatFits p) :
    Calls Tryz.prog 116 #[x.val p] w (BoolPost (rightP p) w) := by
  have Hr := Lib.hid (show rightP p = (namedB p.name && toldB p.pre0 && toldB p.pre1 && decide (1 ≤ p.msgs.length) && decide (p.msgs.length ≤ 6) && !p.msgs.any wrongM) from rfl)
  obtain ⟨nm, l0, l1, ms⟩ := p
  obtain ⟨v0, v1, A, c⟩ := x
  have hp1 := hp.name
  have hp2 := hp.pre0
  have hp3 := hp.pre1
  have hp4 := hp.msgs
  have HE := Lib.hid hp.each
  have h0 := h.pre0
  have h1 := h.pre1
  dsimp only at *
  clear hp
  obtain ⟨A0, c0, rfl, _⟩ := h0.holds
  obtain ⟨A1, c1, rfl, _⟩ := h1.holds
  clear h0 h1
  have HP := Lib.hid h
  unfold PatV.val BoolPost
  dsimp only
  clear h
  go_enter Tryz.func116, Tryz.ntmps116
  go_upto_region 3 with fail
  have O := ((Own.start w).alloc (.cells #[.string (strO nm), .slice A0 l0.length c0, .slice A1 l1.length c1, .slice A ms.length c] 33)).alloc (.cells #[.func (.func 164) #[] #[]] 217)
  have R0 : RightAt w ((w.alloc (.cells #[.string (strO nm), .slice A0 l0.length c0, .slice A1 l1.length c1, .slice A ms.length c] 33)).alloc (.cells #[.func (.func 164) #[] #[]] 217)) w.heap.size (w.heap.size + 1) ⟨.slice A0 l0.length c0, .slice A1 l1.length c1, A, c⟩ ⟨nm, l0, l1, ms⟩ := by
    have h1 := O.blk (i := 1) rfl
    have h2 : ((w.alloc (.cells #[.string (strO nm), .slice A0 l0.length c0, .slice A1 l1.length c1, .slice A ms.length c] 33)).alloc (.cells #[.func (.func 164) #[] #[]] 217)).heap[w.heap.size + 1]? = some (.cells #[.func (.func 164) #[] #[]] 217) := new_at (by show w.heap.size + 1 = (w.heap.push _).size; rw [Array.size_push])
    exact ⟨O.below, cell_of_heap h1, cell_of_heap h1, cell_of_heap h1, cell_of_heap h1, cell_of_heap h2, HP.out.below O.below⟩
  clear O HP
  generalize (w.alloc (.cells #[.string (strO nm), .slice A0 l0.length c0, .slice A1 l1.length c1, .slice A ms.length c] 33)).alloc (.cells #[.func (.func 164) #[] #[]] 217) = W at *
  have HX : ∃ X Y, X = w.heap.size ∧ Y = w.heap.size + 1 := ⟨_, _, rfl, rfl⟩
  obtain ⟨X, Y, hX, hY⟩ := HX
  rw [← hY, ← hX] at R0
  rw [← hY, ← hX]
  clear hX hY
  have R := Lib.hid R0
  clear R0
  obtain ⟨x0, x1, x2, x3, x4⟩ : W.cell? ⟨X, 0, none⟩ = some (.string (strO nm)) ∧ W.cell? ⟨X, 1, none⟩ = some (.slice A0 l0.length c0) ∧ W.cell? ⟨X, 2, none⟩ = some (.slice A1 l1.length c1) ∧ W.cell? ⟨X, 3, none⟩ = some (.slice A ms.length c) ∧ W.cell? ⟨Y, 0, none⟩ = some (.func (.func 164) #[] #[]) := ⟨R.out.c0, R.out.c1, R.out.c2, R.out.c3, R.out.pn⟩
  go_wp2_with fail
  refine (named5_calls nm _ hp1).mono ?_
  rintro e w1 ⟨rfl, b1⟩
  replace R := Lib.hid (R.out.call b1)
  clear x0 x1 x2 x3 x4 b1
  obtain ⟨x0, x1, x2, x3, x4⟩ : w1.cell? ⟨X, 0, none⟩ = some (.string (strO nm)) ∧ w1.cell? ⟨X, 1, none⟩ = some (.slice A0 l0.length c0) ∧ w1.cell? ⟨X, 2, none⟩ = some (.slice A1 l1.length c1) ∧ w1.cell? ⟨X, 3, none⟩ = some (.slice A ms.length c) ∧ w1.cell? ⟨Y, 0, none⟩ = some (.func (.func 164) #[] #[]) := ⟨R.out.c0, R.out.c1, R.out.c2, R.out.c3, R.out.pn⟩
  cases hb : namedB nm with
  | false =>
    have Hf := Lib.hid (show rightP ⟨nm, l0, l1, ms⟩ = false by rw [Hr.out, hb]; simp)
    clear hb
    go_wp2_with fail
    go_ret
    exact ⟨by rw [Hf.out]; rfl, R.out.below⟩
  | true =>
  have Hr := Lib.hid (show rightP ⟨nm, l0, l1, ms⟩ = (toldB l0 && toldB l1 && decide (1 ≤ ms.length) && decide (ms.length ≤ 6) && !ms.any wrongM) by rw [Hr.out, hb]; simp)
  clear hb
  have HH := Lib.hid R.out.pat.pre0.at0
  go_wp2_with fail
  refine (told_calls c0 HH.out hp2).mono ?_
  rintro e w2 ⟨rfl, b1⟩
  replace R := Lib.hid (R.out.call b1)
  clear x0 x1 x2 x3 x4 b1
  obtain ⟨x0, x1, x2, x3, x4⟩ : w2.cell? ⟨X, 0, none⟩ = some (.string (strO nm)) ∧ w2.cell? ⟨X, 1, none⟩ = some (.slice A0 l0.length c0) ∧ w2.cell? ⟨X, 2, none⟩ = some (.slice A1 l1.length c1) ∧ w2.cell? ⟨X, 3, none⟩ = some (.slice A ms.length c) ∧ w2.cell? ⟨Y, 0, none⟩ = some (.func (.func 164) #[] #[]) := ⟨R.out.c0, R.out.c1, R.out.c2, R.out.c3, R.out.pn⟩
  clear HH
  cases hb : toldB l0 with
  | false =>
    have Hf := Lib.hid (show rightP ⟨nm, l0, l1, ms⟩ = false by rw [Hr.out, hb]; simp)
    clear hb
    go_wp2_with fail
    go_ret
    exact ⟨by rw [Hf.out]; rfl, R.out.below⟩
  | true =>
  have Hr := Lib.hid (show rightP ⟨nm, l0, l1, ms⟩ = (toldB l1 && decide (1 ≤ ms.length) && decide (ms.length ≤ 6) && !ms.any wrongM) by rw [Hr.out, hb]; simp)
  clear hb
  have HH := Lib.hid R.out.pat.pre1.at0
  go_wp2_with fail
  refine (told_calls c1 HH.out hp3).mono ?_
  rintro e w3 ⟨rfl, b1⟩
  replace R := Lib.hid (R.out.call b1)
  clear x0 x1 x2 x3 x4 b1
  obtain ⟨x0, x1, x2, x3, x4⟩ : w3.cell? ⟨X, 0, none⟩ = some (.string (strO nm)) ∧ w3.cell? ⟨X, 1, none⟩ = some (.slice A0 l0.length c0) ∧ w3.cell? ⟨X, 2, none⟩ = some (.slice A1 l1.length c1) ∧ w3.cell? ⟨X, 3, none⟩ = some (.slice A ms.length c) ∧ w3.cell? ⟨Y, 0, none⟩ = some (.func (.func 164) #[] #[]) := ⟨R.out.c0, R.out.c1, R.out.c2, R.out.c3, R.out.pn⟩
  clear HH
  cases hb : toldB l1 with
  | false =>
    have Hf := Lib.hid (show rightP ⟨nm, l0, l1, ms⟩ = false by rw [Hr.out, hb]; simp)
    clear hb
    go_wp2_with fail
    go_ret
    exact ⟨by rw [Hf.out]; rfl, R.out.below⟩
  | true =>
  have Hr := Lib.hid (show rightP ⟨nm, l0, l1, ms⟩ = (decide (1 ≤ ms.length) && decide (ms.length ≤ 6) && !ms.any wrongM) by rw [Hr.out, hb]; simp)
  clear hb
  by_cases h1 : 1 ≤ ms.length
  case neg =>
    have d1 : decide (1 ≤ ms.length) = false := decide_eq_false h1
    have d2 : decide ((1 : Int) ≤ (ms.length : Int)) = false := decide_eq_false (by omega)
    have Hf := Lib.hid (show rightP ⟨nm, l0, l1, ms⟩ = false by rw [Hr.out, d1]; simp)
    clear h1
    go_wp2_with fail
    go_ret
    exact ⟨by rw [Hf.out]; rfl, R.out.below⟩
  by_cases h2 : ms.length ≤ 6
  case neg =>
    have d1 : decide (1 ≤ ms.length) = true := decide_eq_true h1
    have d2 : decide ((1 : Int) ≤ (ms.length : Int)) = true := decide_eq_true (by omega)
    have d3 : decide (ms.length ≤ 6) = false := decide_eq_false h2
    have d4 : decide ((ms.length : Int) ≤ 6) = false := decide_eq_false (by omega)
    have Hf := Lib.hid (show rightP ⟨nm, l0, l1, ms⟩ = false by rw [Hr.out, d3]; simp)
    clear h1 h2
    go_wp2_with fail
    go_ret
    exact ⟨by rw [Hf.out]; rfl, R.out.below⟩
  have d1 : decide (1 ≤ ms.length) = true := decide_eq_true h1
  have d2 : decide ((1 : Int) ≤ (ms.length : Int)) = true := decide_eq_true (by omega)
  have d3 : decide (ms.length ≤ 6) = true := decide_eq_true h2
  have d4 : decide ((ms.length : Int) ≤ 6) = true := decide_eq_true (by omega)
  replace Hr := Lib.hid (show rightP ⟨nm, l0, l1, ms⟩ = (!ms.any wrongM) by rw [Hr.out, d1, d3]; simp)
  clear h1 h2
  have HC := Lib.hid (containsMsg_calls c 165 #[.pointer (some ⟨Y, 0, none⟩)] wrongM enters_wrong (wrong_test R.out.pn) R.out.pat.msgs hp4 HE.out)
  go_wp2_with fail
  refine HC.out.mono ?_
  rintro e w4 ⟨rfl, b1⟩
  replace R := Lib.hid (R.out.call b1)
  clear x0 x1 x2 x3 x4 b1 HC
  generalize ms.any wrongM = z at *
  go_wp2_with fail
  go_ret
  exact ⟨by rw [Hr.out]; rfl, R.out.below⟩
end Go.Proofs.YtikimmgileffgaaGreatDoor
end
/- A map among the things that a law has made; things in another order; a row's blocks are new. Any program. -/
section
namespace Go.Proofs.YtikimmgileffgaaGreatDoor
open Go.RowKit

def mapT {α : Type} (enc : α → Value) (bm : Nat) (l : List (α × Value)) : Thing where
  P w S := MapIs enc w bm l ∧ ∀ k, S k ↔ k = bm
  lt w S h k hk := by rw [h.2] at hk; subst hk; exact h.1.lt
  keep w w' S T h u hd := ⟨h.1.upd u (hd bm ((h.2 bm).2 rfl)), h.2⟩
/-- Some of the things, in another order. -/
theorem Own.pull {w0 w : World} {L L' : List Thing} (h : Own w0 w L) (σ : Nat → Nat) (hσ : ∀ (i : Nat) P, L'[i]? = some P → L[σ i]? = some P) (hinj : ∀ i j, i < L'.length → j < L'.length → σ i = σ j → i = j) : Own w0 w L' := by
  obtain ⟨hb, f, h1, h2, h3⟩ := h
  have hl : ∀ i, i < L'.length → σ i < L.length := fun i hi => idx_lt (hσ i _ (List.getElem?_eq_getElem hi))
  exact ⟨hb, fun i => f (σ i), fun i P hP => h1 _ P (hσ i P hP), fun i j b hi hj hfi hfj => hinj i j hi hj (h2 _ _ b (hl i hi) (hl j hj) hfi hfj), fun i b hi hf => h3 _ b (hl i hi) hf⟩
theorem Own.map {α : Type} {enc : α → Value} {w0 w : World} {L : List Thing} {i bm : Nat} {l : List (α × Value)} (h : Own w0 w L) (hi : L[i]? = some (mapT enc bm l)) : MapIs enc w bm l := by
  obtain ⟨S, h1, _⟩ := h.at hi; exact h1.1
theorem Own.rowBase {w0 w : World} {L : List Thing} {i : Nat} {e : TypeId} {size n : Nat} {v : Value} {xs : List Value} (h : Own w0 w L) (hi : L[i]? = some (rowT e size v n xs)) : w.ownsRow w0.heap.size e size v n xs := by
  obtain ⟨S, h1, h2⟩ := h.at hi
  refine ⟨h1.1.1, ?_⟩
  rcases h1.1.2 with hn | ⟨g, cap, cur, rfl, hb, rest⟩
  · exact .inl hn
  · exact .inr ⟨g, cap, cur, rfl, h2 g ((h1.2 g).2 rfl), rest⟩
/-- The n-th thing is left out. -/
theorem Own.drop (n : Nat) {w0 w : World} {L L' : List Thing} (h : Own w0 w L) (h1 : ∀ i, i < n → L'[i]? = L[i]?) (h2 : ∀ i, n ≤ i → L'[i]? = L[i + 1]?) : Own w0 w L' := by
  refine h.pull (fun i => if i < n then i else i + 1) (fun i P hP => ?_) (fun i j hi hj hij => ?_)
  · by_cases a : i < n
    · rw [if_pos a, ← h1 i a]; exact hP
    · rw [if_neg a, ← h2 i (by omega)]; exact hP
  ·
    by_cases a : i < n <;> by_cases b : j < n <;> simp only [a, b, if_true, if_false] at hij <;> omega
/-- The things at such places, in such an order. -/
theorem Own.pick {w0 w : World} {L L' : List Thing} (h : Own w0 w L) (is : List Nat) (hp : is.map (fun j => L[j]?) = L'.map some) (hn : is.Nodup := by decide) : Own w0 w L' := by
  have hlen : is.length = L'.length := by have := congrArg List.length hp; simpa using this
  have hat : ∀ (i : Nat) P, L'[i]? = some P → L[is.getD i 0]? = some P := fun i P hP => by
    have h1 : (L'.map some)[i]? = some (some P) := by rw [List.getElem?_map, hP]; rfl
    rw [← hp, List.getElem?_map] at h1
    cases hi : is[i]? with
    | none => rw [hi] at h1; cases h1
    | some j => rw [hi] at h1; simp [List.getD, hi]; simpa using h1
  refine h.pull (fun i => is.getD i 0) hat (fun i j hi hj hij => ?_)
  rw [← hlen] at hi hj
  refine (List.getElem?_inj hi hn).1 ?_
  rw [List.getElem?_eq_getElem hi, List.getElem?_eq_getElem hj]
  simpa [List.getD, hi, hj] using hij
end Go.Proofs.YtikimmgileffgaaGreatDoor
end
/- A row of a pattern's text (layer 5): line. -/
section
namespace Go.Proofs.YtikimmgileffgaaGreatDoor
open Go.RowKit

def arrowT (who : Nat) : List UInt8 := if who = 0 then [45, 62] else [60, 45]
def joinT (t : List Int) : List UInt8 := Lib.join (t.map tokName) [44, 32]
def lineT (who : Nat) (t : List Int) : List UInt8 := ((arrowT who ++ [32]) ++ joinT t) ++ [10]
def strsV (l : List (List UInt8)) : List Value := l.map fun s => .string (strO s)
theorem einfo_strT : (Tryz.prog.info? 9).map (fun i => (i.zero, i.size, i.bytes)) = some (some (.string ⟨#[]⟩), 1, 16) := by kernel_rfl
theorem arrow0 (w : World) : (Instr.index 272 arrowsV (.int .i64 0)).run Tryz.prog w = .ok (.string (strO (arrowT 0))) w := by kernel_rfl
theorem arrow1 (w : World) : (Instr.index 272 arrowsV (.int .i64 1)).run Tryz.prog w = .ok (.string (strO (arrowT 1))) w := by kernel_rfl
theorem arrow_at {who : Nat} (h : who ≤ 1) (w : World) : (Instr.index 272 arrowsV (.int .i64 who)).run Tryz.prog w = .ok (.string (strO (arrowT who))) w := by
  have : who = 0 ∨ who = 1 := by omega
  rcases this with rfl | rfl
  · exact arrow0 w
  · exact arrow1 w
theorem tokName_len (t : Int) : (tokName t).length ≤ 3 := by unfold tokName; (repeat' split) <;> decide
theorem arrowT_len (n : Nat) : (arrowT n).length = 2 := by unfold arrowT; split <;> rfl
theorem joinTail_len (t : List Int) : (Lib.joinTail [44, 32] (t.map tokName)).length ≤ 5 * t.length := by
  induction t with
  | nil => simp [Lib.joinTail]
  | cons x t ih =>
    have := tokName_len x
    simp only [Lib.joinTail, List.map_cons, List.flatten_cons, List.length_append, List.length_cons, List.length_nil] at ih ⊢
    omega
theorem joinT_len (t : List Int) : (joinT t).length ≤ 5 * t.length := by
  unfold joinT
  cases t with
  | nil => simp [Lib.join_nil]
  | cons x t =>
    have := tokName_len x
    have := joinTail_len t
    rw [List.map_cons, Lib.join_cons, List.length_append, List.length_cons]
    omega
theorem lineT_len (who : Nat) (t : List Int) : (lineT who t).length ≤ 5 * t.length + 4 := by
  have := joinT_len t
  have := arrowT_len who
  simp only [lineT, List.length_append, List.length_cons, List.length_nil]
  omega
theorem line_runs (who : Nat) (t : List Int) (hl : t.length ≤ 1000000) : ∃ s1 s2 s3 : ByteArray,
    (∀ w : World, (Op.stringOp .add (strO (arrowT who)) ⟨#[32]⟩).run Tryz.prog w = .ok (.string s1) w) ∧ (∀ w : World, (Op.stringOp .add s1 (strO (joinT t))).run Tryz.prog w = .ok (.string s2) w) ∧
    (∀ w : World, (Op.stringOp .add s2 ⟨#[10]⟩).run Tryz.prog w = .ok (.string s3) w) ∧ s3 = strO (lineT who t) := by
  have h1 := arrowT_len who
  have h2 := joinT_len t
  refine ⟨strO (arrowT who ++ [32]), strO ((arrowT who ++ [32]) ++ joinT t), strO (lineT who t), ?_, ?_, ?_, rfl⟩
  · exact fun w => addS (arrowT who) [32] (by omega) (by decide) w
  · exact fun w => addS _ _ (by simp; omega) (by omega) w
  · exact fun w => addS _ [10] (by simp; omega) (by decide) w
/-- strings.Join at a row of tokens' names. -/
theorem join_calls {w W : World} {v : Value} {t : List Int} (h : Own w W [rowT 9 1 v t.length (strsV (t.map tokName))]) (h1 : 1 ≤ t.length) (hl : t.length ≤ 1000000) :
    Calls Tryz.prog 170 #[v, .string ⟨#[44, 32]⟩] W fun e w' => e = .returned (.string (strO (joinT t))) ∧ Below W.heap.size W w' := by
  have hr := h.row (i := 0) rfl
  obtain ⟨A', c', e1, e2, -⟩ := holds_of_owns hr
  rcases hr.2 with ⟨_, h0⟩ | ⟨g, cap, cur, rfl, _, hg, hnc, _, _, _⟩
  · omega
  · cases e1
    have hx : (List.map (fun x : ByteArray => x.data.toList) (t.map fun x => strO (tokName x))) = t.map tokName := by
      rw [List.map_map]; exact List.map_congr_left fun x _ => strO_data _
    have hj := joinT_len t
    have := Sh.strings_Join g 0 c' (t.map fun x => strO (tokName x)) ⟨#[44, 32]⟩ W (fun j x hj => by
      rcases e2 with e2 | ⟨b, o, hA, e2⟩
      · have : t = [] := by simpa [strsV] using e2
        subst this; cases hj
      · cases hA
        refine e2 j _ ?_
        simp only [strsV, List.getElem?_map, Option.map_map] at hj ⊢
        cases ht : t[j]? with
        | none => rw [ht] at hj; cases hj
        | some y => rw [ht] at hj; cases hj; rfl) (lt_of_heap hg) (by rw [List.length_map]; omega) (by rw [List.length_map]; exact hnc) (by rw [hx]; show (joinT t).length ≤ _; omega)
    rw [hx, List.length_map] at this
    have he : (⟨(Lib.join (t.map tokName) (⟨#[44, 32]⟩ : ByteArray).data.toList).toArray⟩ : ByteArray) = strO (joinT t) := rfl
    rw [he] at this
    generalize strO (joinT t) = z at *
    exact this
set_option maxHeartbeats 3200000 in
set_option maxRecDepth 100000 in
theorem line_calls {w : World} {A : Option Addr} {t : List Int} (c who : Nat) (hw : who ≤ 1) (h : Holds w A (intsV t)) (h1 : 1 ≤ t.length) (hl : t.length ≤ 1000000) :
    Calls Tryz.prog 117 #[.int .i64 who, .slice A t.length c] w fun e w' => e = .returned (.string (strO (lineT who t))) ∧ Below w.heap.size w w' := by
  have H := Lib.hid h
  have HAr := Lib.hid (fun w' => arrow_at hw w')
  have HL := Lib.hid (joinT_len t)
  have H1 := Lib.hid h1
  clear h hw h1
  go_enter Tryz.func117, Tryz.ntmps117
  go_wp2_with fail
  go_loopw [5, 10] (fun v i wr => ∃ k : Nat, k ≤ t.length ∧ i = .int .i64 k ∧ Own w wr [rowT 9 1 v k (strsV ((t.take k).map tokName))])
    (fun _ i _ => t.length - (intOf i).toNat)
  case atStart => exact ⟨0, by omega, rfl, (Own.start w).nilRow 9 1⟩
  case round =>
    obtain ⟨k, hk, rfl, ok⟩ := hrel
    have Ok := Lib.hid ok
    clear ok
    by_cases hlt : k < t.length
    · obtain ⟨x, hx⟩ : ∃ x, t[k]? = some x := ⟨_, List.getElem?_eq_getElem hlt⟩
      have hik : (k : Int) < t.length := by omega
      obtain ⟨b, o, rfl, hc⟩ : ∃ b o, A = some ⟨b, o, none⟩ ∧ wr.cell? ⟨b, o + k, none⟩ = some (.int .i64 x) := by
        rcases H.out.below Ok.out.below with h | ⟨b, o, hA, h⟩
        · have : t = [] := by simpa [intsV] using h
          subst this; cases hx
        · exact ⟨b, o, hA, h k _ (by simp [intsV, hx])⟩
      have Htk := Lib.hid (show strsV ((t.take (k + 1)).map tokName) = strsV ((t.take k).map tokName) ++ [.string (strO (tokName x))] by rw [List.take_add_one, hx]; simp [strsV])
      have Hlt := Lib.hid hlt
      have hk6 : k ≤ 1000000 := by omega
      clear hx hlt hk
      go_wp2_with fail
      refine (name_calls x wr).mono ?_
      rintro e w1 ⟨rfl, b1⟩
      have o6 := (Ok.out.call b1).alloc (.cells #[.string (strO (tokName x))] 9)
      clear b1 Ok hc
      generalize strsV ((t.take k).map tokName) = L at *
      generalize strO (tokName x) = sx at *
      go_wp2_with (at_builtin; go_loud (refine wpList_ocat o6 rfl (.tmp 14) (.tmp 17) 143 rfl 9 (.string ⟨#[]⟩) 1 16 Tryz.underlying143 einfo_strT rfl (by decide) u5 k L rfl 1 rfl (some ⟨w1.heap.size, 0, none⟩) 1 1 [.string sx] rfl (News.block (cs := [.string sx]) (new_at rfl) rfl) (by simp [Value.oneCell']) (by unfold maxLen; omega) (by omega) ?_))
      intro v6 w6 o7
      have O7 := Lib.hid o7.tail
      clear o7 o6
      go_wp2_with fail
      go_roundw
      case rel => have := Hlt.out; exact ⟨k + 1, by omega, by go_num, by rw [Htk.out]; exact O7.out⟩
      case measure => have := Hlt.out; simp only [intOf]; omega
    · obtain rfl : k = t.length := by omega
      obtain ⟨s1, s2, s3, hr1, hr2, hr3, hs3⟩ := line_runs who t hl
      have Hs3 := Lib.hid hs3
      have HJ := Lib.hid (show ∀ w', Below wr.heap.size wr w' → Calls Tryz.prog 170 #[u5, .string ⟨#[44, 32]⟩] w' fun e w'' => e = .returned (.string (strO (joinT t))) ∧ Below w'.heap.size w' w'' from fun w' b => join_calls (by have := Ok.out.call b; rwa [List.take_length] at this) H1.out hl)
      have hbb : Below wr.heap.size wr wr := Below.refl _ _
      have hi := HAr.out
      have OB := Lib.hid Ok.out.below
      clear hs3 hk hlt Ok
      generalize strO (joinT t) = j at *
      generalize strO (arrowT who) = ar at *
      go_upto_region 7 with fail
      go_region_held3 (fun _ => True) (first | exact trivial)
        (first
          | (go_at_call 169; with_reducible refine (arrows_calls _).mono ?_; rintro e wa ⟨rfl, hba⟩; have hxa : Below wr.heap.size wr wa := below_call (by repeat (first | with_reducible assumption | with_reducible refine Below.drew ?_ | with_reducible refine belowAlloc ?_ _)) hba)
          | (go_at_call 170; with_reducible refine (HJ.out _ (by repeat (first | with_reducible assumption | with_reducible refine Below.drew ?_ | with_reducible refine belowAlloc ?_ _))).mono ?_; rintro e wb ⟨rfl, hbb2⟩; have hxb : Below wr.heap.size wr wb := below_call (by repeat (first | with_reducible assumption | with_reducible refine Below.drew ?_ | with_reducible refine belowAlloc ?_ _)) hbb2))
      all_goals go_wp2_with fail
      all_goals go_ret
      all_goals exact ⟨by rw [← Hs3.out]; rfl, OB.out.trans ((by repeat (first | with_reducible assumption | with_reducible refine Below.drew ?_ | with_reducible refine belowAlloc ?_ _) : Below wr.heap.size wr _).mono OB.out.size)⟩
end Go.Proofs.YtikimmgileffgaaGreatDoor
end
/- A pattern's text (layer 5): Print. -/
section
namespace Go.Proofs.YtikimmgileffgaaGreatDoor
open Go.RowKit

def preK (p : Pat) (k : Nat) : List Int := if k = 0 then p.pre0 else p.pre1
def preT (p : Pat) : Nat → List UInt8
  | 0 => []
  | k + 1 => preT p k ++ (if preK p k = [] then [] else lineT k (preK p k))
def toldT (p : Pat) : List UInt8 := if preT p 2 = [] then [] else preT p 2 ++ [46, 46, 46, 10]
def headT (p : Pat) : List UInt8 := (p.name ++ [58, 10]) ++ toldT p
def msgT (m : Msg) : List UInt8 := lineT m.frm.toNat m.t
def printT (p : Pat) : List UInt8 := headT p ++ p.msgs.flatMap msgT
/-- What Right tells of a pattern. -/
structure RightP (p : Pat) : Prop where
  name : p.name.all okB = true
  name1 : 1 ≤ p.name.length
  name20 : p.name.length ≤ 20
  pre0 : toldB p.pre0 = true
  pre1 : toldB p.pre1 = true
  msgs1 : 1 ≤ p.msgs.length
  msgs6 : p.msgs.length ≤ 6
  frm : ∀ m ∈ p.msgs, 0 ≤ m.frm ∧ m.frm ≤ 1
  t1 : ∀ m ∈ p.msgs, 1 ≤ m.t.length ∧ m.t.length ≤ 12
  tok : ∀ m ∈ p.msgs, ∀ t ∈ m.t, 1 ≤ t ∧ t ≤ 7
theorem rightP_is {p : Pat} (h : rightP p = true) : RightP p := by
  simp only [rightP, namedB, Bool.and_eq_true, decide_eq_true_eq, Bool.not_eq_true', List.any_eq_false] at h
  obtain ⟨⟨⟨⟨⟨⟨⟨h1, h2⟩, h3⟩, h4⟩, h5⟩, h6⟩, h7⟩, h8⟩ := h
  refine ⟨h1, h2, h3, h4, h5, h6, h7, fun m hm => ?_, fun m hm => ?_, fun m hm t ht => ?_⟩
  all_goals
    have := h8 m hm
    simp only [wrongM, Bool.or_eq_true, decide_eq_true_eq, not_or] at this
    obtain ⟨⟨⟨⟨a1, a2⟩, a3⟩, a4⟩, a5⟩ := this
  · omega
  · omega
  · have a6 : ¬ noneT t = true := fun h => a5 (List.any_eq_true.2 ⟨t, ht, h⟩)
    simp only [noneT, Bool.or_eq_true, decide_eq_true_eq, not_or] at a6
    omega
theorem told_len {l : List Int} (h : toldB l = true) : l.length ≤ 2 := by
  simp only [toldB, Bool.or_eq_true, decide_eq_true_eq] at h
  rcases h with ((h | h) | h) | h <;> subst h <;> decide
theorem RightP.preK {p : Pat} (h : RightP p) (k : Nat) : toldB (preK p k) = true ∧ (Go.Proofs.YtikimmgileffgaaGreatDoor.preK p k).length ≤ 2 := by
  unfold Go.Proofs.YtikimmgileffgaaGreatDoor.preK; split
  · exact ⟨h.pre0, told_len h.pre0⟩
  · exact ⟨h.pre1, told_len h.pre1⟩
theorem preT_len {p : Pat} (h : RightP p) (k : Nat) : (preT p k).length ≤ 14 * k := by
  induction k with
  | zero => simp [preT]
  | succ k ih =>
    have h2 := (h.preK k).2
    have h3 := lineT_len k (preK p k)
    simp only [preT, List.length_append]
    split
    · simp only [List.length_nil]; omega
    · omega
theorem toldT_len {p : Pat} (h : RightP p) : (toldT p).length ≤ 32 := by
  have := preT_len h 2
  unfold toldT; split
  · simp
  · simp; omega
theorem headT_len {p : Pat} (h : RightP p) : (headT p).length ≤ 54 := by
  have := toldT_len h
  have := h.name20
  simp only [headT, List.length_append, List.length_cons, List.length_nil]; omega
theorem msgT_len {m : Msg} (h : m.t.length ≤ 12) : (msgT m).length ≤ 64 := by
  have := lineT_len m.frm.toNat m.t
  unfold msgT; omega
theorem msgsT_len : ∀ (l : List Msg), (∀ m ∈ l, m.t.length ≤ 12) → (l.flatMap msgT).length ≤ 64 * l.length
  | [], _ => by simp
  | m :: l, h => by
    have h1 := msgT_len (h m List.mem_cons_self)
    have h2 := msgsT_len l (fun x hx => h x (List.mem_cons_of_mem _ hx))
    rw [List.flatMap_cons, List.length_append, List.length_cons]; omega
theorem strO_empty (T : List UInt8) : (strO T).toList.isEmpty = decide (T = []) := by
  have h2 := beq_toListBytes (strO T) (strO [])
  rw [strO_eq] at h2
  have h3 : (strO []).toList = [] := by decide +kernel
  rw [h3] at h2
  rw [h2]
  cases (strO T).toList <;> rfl
theorem pre_at0 (v0 v1 : Value) (w : World) : (Instr.index 30 (.agg #[v0, v1]) (.int .i64 0)).run Tryz.prog w = .ok v0 w := by kernel_rfl
theorem pre_at1 (v0 v1 : Value) (w : World) : (Instr.index 30 (.agg #[v0, v1]) (.int .i64 1)).run Tryz.prog w = .ok v1 w := by kernel_rfl
theorem PatIn.preK {w : World} {S : Nat → Prop} {x : PatV} {p : Pat} (h : PatIn w S x p) (k : Nat) : IntsIn w S (if k = 0 then x.v0 else x.v1) (preK p k) := by
  unfold Go.Proofs.YtikimmgileffgaaGreatDoor.preK; split
  · exact h.pre0
  · exact h.pre1
theorem pre_at {k : Nat} (hk : k ≤ 1) (v0 v1 : Value) (w : World) : (Instr.index 30 (.agg #[v0, v1]) (.int .i64 k)).run Tryz.prog w = .ok (if k = 0 then v0 else v1) w := by
  have : k = 0 ∨ k = 1 := by omega
  rcases this with rfl | rfl
  · exact pre_at0 v0 v1 w
  · exact pre_at1 v0 v1 w
def PrintPost (p : Pat) (w : World) (e : Ending) (w' : World) : Prop := e = .returned (.tuple #[.string (strO (printT p)), .int .i64 0]) ∧ Below w.heap.size w w'
set_option maxHeartbeats 3200000 in
set_option maxRecDepth 100000 in
theorem print_calls {w : World} {x : PatV} {p : Pat} (h : PatIn w (Old w) x p) (hp : PatFits p) (hr : rightP p = true) :
    Calls Tryz.prog 61 #[x.val p] w (PrintPost p w) := by
  have HR := Lib.hid (fun W (b : Below w.heap.size w W) => right5_calls (h.below b) hp)
  rw [hr] at HR
  have R := Lib.hid (rightP_is hr)
  have HP := Lib.hid h
  clear h hp hr
  unfold PatV.val at HR ⊢
  unfold PrintPost
  go_enter Tryz.func61, Tryz.ntmps61
  go_wp2_with fail
  refine (HR.out _ (by exact (Below.refl _ _).alloc (Nat.le_refl _) _)).mono ?_
  rintro e w1 ⟨rfl, b1⟩
  have O1 := Lib.hid (((Own.start w).alloc (.cells #[.string (strO p.name), x.v0, x.v1, .slice x.A p.msgs.length x.c] 33)).call b1)
  clear b1 HR
  generalize w.heap.size = X at *
  have c0 := cell_of_heap (o := 0) (O1.out.blk (i := 0) rfl)
  have c1 := cell_of_heap (o := 1) (O1.out.blk (i := 0) rfl)
  have c2 := cell_of_heap (o := 2) (O1.out.blk (i := 0) rfl)
  have c3 := cell_of_heap (o := 3) (O1.out.blk (i := 0) rfl)
  simp only [List.getElem?_toArray, List.getElem?_cons_zero, List.getElem?_cons_succ] at c0 c1 c2 c3
  go_wp2_with fail
  clear c1 c2
  have C0 := Lib.hid c0
  have C3 := Lib.hid c3
  clear c0 c3
  go_loopw [4, 15] (fun s i wr => ∃ k : Nat, k ≤ 2 ∧ i = .int .i64 k ∧ s = .string (strO (preT p k)) ∧ Own w wr [blk X (.cells #[.string (strO p.name), x.v0, x.v1, .slice x.A p.msgs.length x.c] 33)])
    (fun _ i _ => 2 - (intOf i).toNat)
  case atStart => exact ⟨0, by omega, rfl, rfl, O1.out⟩
  case round =>
    clear O1
    obtain ⟨k, hk, rfl, rfl, ok⟩ := hrel
    have Ok := Lib.hid ok
    clear ok
    by_cases hlt : k < 2
    · have hik : (k : Int) < 2 := by omega
      have hi := fun w' => pre_at (show k ≤ 1 by omega) x.v0 x.v1 w'
      obtain ⟨A, c, hv, hh⟩ := ((HP.out.preK k).below Ok.out.below).holds
      have hl2 := (R.out.preK k).2
      have hl := preT_len R.out k
      have Hnext := Lib.hid (show preT p (k + 1) = preT p k ++ (if preK p k = [] then [] else lineT k (preK p k)) from rfl)
      have Hk := Lib.hid hlt
      rw [hv] at hi
      generalize preT p k = T0 at *
      generalize preK p k = t at *
      by_cases ht : t = []
      · have hn : strO (preT p (k + 1)) = strO T0 := by rw [Hnext.out, if_pos ht, List.append_nil]
        have d0 : decide (0 < t.length) = false := by rw [ht]; rfl
        have d1 : decide ((0 : Int) < (t.length : Int)) = false := by rw [ht]; rfl
        have Hn := Lib.hid hn
        clear hn ht hlt hk
        go_wp2_with fail
        go_roundw
        case rel => have := Hk.out; exact ⟨k + 1, by omega, by go_num, by rw [Hn.out], Ok.out⟩
        case measure => have := Hk.out; simp only [intOf]; omega
      · have h1 : 1 ≤ t.length := List.length_pos_iff.2 ht
        have d0 : decide (0 < t.length) = true := decide_eq_true h1
        have d1 : decide ((0 : Int) < (t.length : Int)) = true := decide_eq_true (by omega)
        have hll := lineT_len k t
        have HA := Lib.hid (fun (w' : World) => addS (P := Tryz.prog) T0 (lineT k t) (by omega) (by omega) w')
        have Hn := Lib.hid (show strO (preT p (k + 1)) = strO (T0 ++ lineT k t) by rw [Hnext.out, if_neg ht])
        have HL := Lib.hid (line_calls c k (by omega) hh h1 (by omega))
        generalize strO (T0 ++ lineT k t) = s1 at *
        have ha := HA.out
        generalize strO (lineT k t) = s2 at *
        generalize strO T0 = s3 at *
        clear ht h1 hlt hk hll hl Hnext HA
        go_wp2_with fail
        refine HL.out.mono ?_
        rintro e w2 ⟨rfl, b2⟩
        have O2 := Lib.hid (Ok.out.call b2)
        clear b2 Ok
        go_wp2_with fail
        go_roundw
        case rel => have := Hk.out; exact ⟨k + 1, by omega, by go_num, by rw [Hn.out], O2.out⟩
        case measure => have := Hk.out; simp only [intOf]; omega
    · obtain rfl : k = 2 := by omega
      rw [show ((2 : Nat) : Int) = 2 from rfl]
      clear hk hlt
      go_upto_if 29 with fail
      go_cut [4] (fun s wx => s = .string (strO (toldT p)) ∧ wx = wr)
      case first =>
        have hl := preT_len R.out 2
        by_cases ht : preT p 2 = []
        · have Hn := Lib.hid (show toldT p = preT p 2 by unfold toldT; rw [if_pos ht, ht])
          have he : (strO (preT p 2)).toList.isEmpty = true := by rw [strO_empty, decide_eq_true ht]
          rw [he]
          clear he
          generalize preT p 2 = T at *
          clear ht
          go_wp2_with fail
          go_meet
          exact ⟨by rw [Hn.out], rfl⟩
        · have Hn := Lib.hid (show toldT p = preT p 2 ++ [46, 46, 46, 10] by unfold toldT; rw [if_neg ht])
          have he : (strO (preT p 2)).toList.isEmpty = false := by rw [strO_empty, decide_eq_false ht]
          rw [he]
          clear he
          have ha := fun (w' : World) => addS (P := Tryz.prog) (preT p 2) [46, 46, 46, 10] (by omega) (by decide) w'
          rw [← Hn.out] at ha
          generalize strO (toldT p) = s1 at *
          generalize preT p 2 = T at *
          have hz : strO [46, 46, 46, 10] = ⟨#[46, 46, 46, 10]⟩ := rfl
          rw [hz] at ha
          clear ht hz
          go_wp2_with fail
          go_meet
          exact ⟨rfl, rfl⟩
      case rest =>
        obtain ⟨rfl, rfl⟩ := hcut
        have o3 := Ok.out
        have c0 := cell_of_heap (o := 0) (o3.blk (i := 0) rfl)
        have c3 := cell_of_heap (o := 3) (o3.blk (i := 0) rfl)
        simp only [List.getElem?_toArray, List.getElem?_cons_zero, List.getElem?_cons_succ] at c0 c3
        have hn := R.out.name20
        have hl := toldT_len R.out
        obtain ⟨s1, s2, hr1, hr2, hs2⟩ : ∃ s1 s2 : ByteArray, (∀ w' : World, (Op.stringOp .add (strO p.name) ⟨#[58, 10]⟩).run Tryz.prog w' = .ok (.string s1) w') ∧ (∀ w' : World, (Op.stringOp .add s1 (strO (toldT p))).run Tryz.prog w' = .ok (.string s2) w') ∧ s2 = strO (headT p) :=
          ⟨strO (p.name ++ [58, 10]), strO (headT p), fun w' => addS _ [58, 10] (by omega) (by decide) w', fun w' => addS _ _ (by simp; omega) (by omega) w', rfl⟩
        have B3 := Lib.hid o3.below
        have Hs2 := Lib.hid hs2
        have hml : p.msgs.length ≤ 9223372036854775807 := by have := R.out.msgs6; omega
        clear o3 Ok hn hl hs2 C0 C3
        generalize strO p.name = nm at *
        generalize strO (toldT p) = td at *
        go_wp2_with fail
        go_loopw [7, 40] (fun s i wr => ∃ k : Nat, k ≤ p.msgs.length ∧ i = .int .i64 k ∧ s = .string (strO (headT p ++ (p.msgs.take k).flatMap msgT)) ∧ Below w.heap.size w wr)
          (fun _ i _ => p.msgs.length - (intOf i).toNat)
        case atStart => exact ⟨0, by omega, rfl, by rw [Hs2.out]; simp, B3.out⟩
        case round =>
          clear B3 Hs2
          obtain ⟨k, hk, rfl, rfl, bk⟩ := hrel
          have Bk := Lib.hid bk
          clear bk
          by_cases hlt : k < p.msgs.length
          · obtain ⟨m, hm⟩ : ∃ m, p.msgs[k]? = some m := ⟨_, List.getElem?_eq_getElem hlt⟩
            have hik : (k : Int) < p.msgs.length := by omega
            have hmm := List.mem_of_getElem? hm
            obtain ⟨b, o, A2, c2, hA, x0, x1, hh⟩ := (HP.out.msgs.below Bk.out).at hm
            obtain ⟨f, hf⟩ := Int.eq_ofNat_of_zero_le (R.out.frm m hmm).1
            have hf1 : f ≤ 1 := by have := (R.out.frm m hmm).2; omega
            have ht1 := (R.out.t1 m hmm).1
            have ht2 := (R.out.t1 m hmm).2
            have hb1 := headT_len R.out
            have hb2 := msgsT_len (p.msgs.take k) (fun m hm => (R.out.t1 m (List.mem_of_mem_take hm)).2)
            have hb3 : (p.msgs.take k).length ≤ 6 := by rw [List.length_take]; have := R.out.msgs6; omega
            have hb4 := lineT_len f m.t
            have Htk := Lib.hid (show headT p ++ (p.msgs.take (k + 1)).flatMap msgT = (headT p ++ (p.msgs.take k).flatMap msgT) ++ lineT f m.t by
              rw [List.take_add_one, hm, List.flatMap_append, ← List.append_assoc]
              simp only [Option.toList_some, List.flatMap_cons, List.flatMap_nil, List.append_nil, msgT, hf, Int.toNat_natCast])
            have hb5 : (headT p ++ (p.msgs.take k).flatMap msgT).length ≤ 1000 := by rw [List.length_append]; omega
            rw [hf] at x0
            have Hlt := Lib.hid hlt
            have HA := Lib.hid (fun w' => addS (P := Tryz.prog) (headT p ++ (p.msgs.take k).flatMap msgT) (lineT f m.t) (by omega) (by omega) w')
            rw [← Htk.out] at HA
            have HL := Lib.hid (fun (w' : World) (b : Below wr.heap.size wr w') => line_calls c2 f hf1 (hh.below b) ht1 (by omega))
            generalize strO (headT p ++ (p.msgs.take k).flatMap msgT) = s3 at *
            generalize hs4 : strO (headT p ++ (p.msgs.take (k + 1)).flatMap msgT) = s4 at *
            have Hs4 := Lib.hid hs4
            clear hs4
            generalize strO (lineT f m.t) = s5 at *
            have ha := HA.out
            clear hm hmm hf ht1 ht2 hb1 hb2 hb3 hb4 hb5 hlt hk HA hh hf1
            obtain ⟨xv0, xv1, xA, xc⟩ := x
            dsimp only at hA
            subst hA
            dsimp only
            have hba := (Below.refl wr.heap.size wr).alloc (Nat.le_refl _) (.cells #[.int .i64 f, .slice A2 m.t.length c2] 61)
            go_wp2_with fail
            refine (HL.out _ hba).mono ?_
            rintro e w2 ⟨rfl, b2⟩
            have B2 := Lib.hid (below_call Bk.out (below_call hba b2))
            clear hba b2 x0 x1
            go_wp2_with fail
            go_roundw
            case rel =>
              have := Hlt.out
              exact ⟨k + 1, by omega, by go_num, by rw [Hs4.out], B2.out⟩
            case measure => have := Hlt.out; simp only [intOf]; omega
          · obtain rfl : k = p.msgs.length := by omega
            have Hq := Lib.hid (show strO (headT p ++ (p.msgs.take p.msgs.length).flatMap msgT) = strO (printT p) by rw [List.take_length]; rfl)
            clear hk hlt
            go_wp2_with fail
            go_ret2
            exact ⟨by rw [← Hq.out]; rfl, Bk.out⟩
end Go.Proofs.YtikimmgileffgaaGreatDoor
end
/- A text cut at each instance of one byte, as a plain list; the library's Split comes to it. No program in sight. -/
section
namespace Go.Proofs.YtikimmgileffgaaGreatDoor
open Go.RowKit

def splitL (c : UInt8) : List UInt8 → List (List UInt8)
  | [] => [[]]
  | b :: l => if b = c then [] :: splitL c l else match splitL c l with
    | [] => [[b]]
    | h :: t => (b :: h) :: t
theorem splitL_other {b c : UInt8} {l y : List UInt8} {t : List (List UInt8)} (h : b ≠ c) (hs : splitL c l = y :: t) : splitL c (b :: l) = (b :: y) :: t := by
  rw [splitL, if_neg h, hs]
theorem splitL_here (c : UInt8) (l : List UInt8) : splitL c (c :: l) = [] :: splitL c l := by rw [splitL, if_pos rfl]
theorem index_hit (c : UInt8) (l : List UInt8) : Lib.index (c :: l) [c] = 0 := by simp [Lib.index, List.isPrefixOf]
theorem index_other {b c : UInt8} (h : b ≠ c) (l : List UInt8) : Lib.index (b :: l) [c] = if Lib.index l [c] = -1 then -1 else Lib.index l [c] + 1 := by
  rw [Lib.index]
  have : [c].isPrefixOf (b :: l) = false := by simp [List.isPrefixOf]; exact Ne.symm h
  simp [this]
theorem split_eq (c : UInt8) : ∀ l : List UInt8, Lib.split l [c] = splitL c l
  | [] => by simp [Lib.split, splitL, Lib.count, Lib.countFrom, Lib.splitK, Lib.index]
  | b :: l => by
    have ih := split_eq c l
    by_cases h : b = c
    · subst h
      have h0 := index_hit b l
      unfold splitL
      rw [if_pos rfl, ← ih]
      unfold Lib.split
      rw [Lib.count_hit (i := 0) (by simp) (by rw [h0]; rfl)]
      show Lib.splitK [b] 0 (1 + Lib.count l [b]) (b :: l) = _
      rw [Nat.add_comm, Lib.splitK, h0]
      simp
    · have h1 := index_other h l
      unfold splitL
      rw [if_neg h, ← ih]
      rcases Lib.index_spec l [c] with ⟨hm, _⟩ | ⟨i, hi, _⟩
      · rw [if_pos hm] at h1
        unfold Lib.split
        rw [Lib.count_miss h1, Lib.count_miss hm]
        simp [Lib.splitK]
      · rw [if_neg (by omega), hi] at h1
        have h2 : Lib.index (b :: l) [c] = ((i + 1 : Nat) : Int) := by rw [h1]; rfl
        unfold Lib.split
        rw [Lib.count_hit (by simp) h2, Lib.count_hit (by simp) hi, Nat.add_comm 1, Nat.add_comm 1, Lib.splitK, Lib.splitK, h2, hi]
        have e1 : ¬ (((i + 1 : Nat) : Int) == -1) = true := by rw [beq_iff_eq]; omega
        have e2 : ¬ ((i : Int) == -1) = true := by rw [beq_iff_eq]; omega
        rw [if_neg e1, if_neg e2]
        simp
theorem splitL_length (c : UInt8) : ∀ l : List UInt8, (splitL c l).length ≤ l.length + 1
  | [] => by simp [splitL]
  | b :: l => by
    have := splitL_length c l
    unfold splitL; split
    · simp; omega
    · split
      · simp
      · rename_i h t e; rw [e] at this; simp at this ⊢; omega
theorem splitL_mem_length (c : UInt8) : ∀ (l : List UInt8), ∀ x ∈ splitL c l, x.length ≤ l.length
  | [], x, h => by simp [splitL] at h; simp [h]
  | b :: l, x, h => by
    have ih := splitL_mem_length c l
    unfold splitL at h
    split at h
    · rcases List.mem_cons.1 h with rfl | h
      · simp
      · have := ih x h; simp; omega
    · split at h
      · simp at h; simp [h]
      · rename_i y t e
        rcases List.mem_cons.1 h with rfl | h
        · have := ih y (by rw [e]; simp); simp; omega
        · have := ih x (by rw [e]; simp [h]); simp; omega
end Go.Proofs.YtikimmgileffgaaGreatDoor
end
