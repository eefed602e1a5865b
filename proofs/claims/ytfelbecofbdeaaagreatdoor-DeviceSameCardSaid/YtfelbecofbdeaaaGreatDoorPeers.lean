/- The peers that the law of layer 15 keeps: a row of three ints each; where one is. -/
import Derived.Test.YtfelbecofbdeaaaGreatDoorCat
import Derived.Test.YtfelbecofbdeaaaGreatDoorStore
import Derived.Test.YtfelbecofbdeaaaGreatDoorOpen
import Derived.Lib.Hide
import Derived.Deep.QuietTactic
import Derived.BigQuiet
import Derived.Deep.CutBlock
import Derived.Deep.DeepCutAuto
namespace Go.Proofs.YtfelbecofbdeaaaGreatDoor
open Go.RowKit

structure Pr where
  id : Int
  key : Int
  psk : Int
  deriving DecidableEq, Inhabited
def Pr.cells (p : Pr) : List Value := [.int .i64 p.id, .int .i64 p.key, .int .i64 p.psk]
def PeersAt (w : World) (B : Nat) (v : Value) (l : List Pr) : Prop := w.ownsRow B 44 3 v l.length (l.flatMap Pr.cells)
theorem PeersAt.below {w w' : World} {B : Nat} {v : Value} {l : List Pr} (h : PeersAt w B v l) (u : Below w.heap.size w w') : PeersAt w' B v l := ownsRow_upd' (S := None) h (Upd.of_below u) (fun _ _ h => h)
theorem PeersAt.nil {w : World} {B : Nat} {v : Value} {l : List Pr} (h : PeersAt w B v l) : (v = .slice none 0 0 ∧ l = []) ∨ ∃ g cap, v = .slice (some ⟨g, 0, none⟩) l.length cap := by
  rcases h.2 with ⟨h1, h2⟩ | ⟨g, cap, cur, h1, _⟩
  · exact .inl ⟨h1, List.eq_nil_of_length_eq_zero h2⟩
  · exact .inr ⟨g, cap, h1⟩
theorem PeersAt.peer {w : World} {B g cap : Nat} {l : List Pr} (h : PeersAt w B (.slice (some ⟨g, 0, none⟩) l.length cap) l) {i : Nat} {p : Pr} (hi : l[i]? = some p) :
    w.cell? ⟨g, i * 3, none⟩ = some (.int .i64 p.id) ∧ w.cell? ⟨g, i * 3 + 1, none⟩ = some (.int .i64 p.key) ∧ w.cell? ⟨g, i * 3 + 2, none⟩ = some (.int .i64 p.psk) := by
  have hc := h.cells (g := g) rfl
  have at_ : ∀ j u, p.cells[j]? = some u → w.cell? ⟨g, i * 3 + j, none⟩ = some u := fun j u hj => by
    have hj5 : j < 3 := (List.getElem?_eq_some_iff.1 hj).1
    have := hc (i * 3 + j) u (by
      rw [flatMap_at Pr.cells 3 (by decide) (fun _ => rfl), show (i * 3 + j) / 3 = i by omega, show (i * 3 + j) % 3 = j by omega, hi]
      exact hj)
    rwa [add_off, Nat.zero_add] at this
  exact ⟨at_ 0 _ rfl, at_ 1 _ rfl, at_ 2 _ rfl⟩
/-- Where the first one is of whom something holds; -1: nowhere. -/
def atP (p : Pr → Bool) (l : List Pr) : Int := match l.findIdx? p with | some i => i | none => -1
theorem atP_some {p : Pr → Bool} {l : List Pr} {k : Nat} {x : Pr} (hz : ∀ j y, j < k → l[j]? = some y → p y = false) (hk : l[k]? = some x) (hx : p x = true) : atP p l = k := by
  have : l.findIdx? p = some k := by
    rw [List.findIdx?_eq_some_iff_getElem]
    obtain ⟨h1, h2⟩ := List.getElem?_eq_some_iff.1 hk
    refine ⟨h1, by rw [h2]; exact hx, fun j hj => ?_⟩
    have := hz j l[j] hj (List.getElem?_eq_getElem (by omega))
    simp [this]
  simp [atP, this]
theorem atP_none {p : Pr → Bool} {l : List Pr} (hz : ∀ (j : Nat) (y : Pr), l[j]? = some y → p y = false) : atP p l = -1 := by
  have : l.findIdx? p = none := by
    rw [List.findIdx?_eq_none_iff]
    intro x hx
    obtain ⟨i, hi⟩ := List.getElem?_of_mem hx
    exact hz i x hi
  simp [atP, this]
theorem atP_cases (p : Pr → Bool) (l : List Pr) : atP p l = -1 ∨ ∃ i : Nat, ∃ x, atP p l = i ∧ l[i]? = some x ∧ p x = true := by
  unfold atP
  cases h : l.findIdx? p with
  | none => exact .inl rfl
  | some i =>
    rw [List.findIdx?_eq_some_iff_getElem] at h
    obtain ⟨h1, h2, _⟩ := h
    exact .inr ⟨i, l[i], rfl, List.getElem?_eq_getElem h1, h2⟩

set_option maxHeartbeats 800000 in
set_option maxRecDepth 100000 in
theorem at15_calls {w : World} {B : Nat} {v : Value} {l : List Pr} (h : PeersAt w B v l) (hm : l.length ≤ 1000) (x : Int) :
    Calls Tryz.prog 72 #[v, .int .i64 x] w fun e w' => e = .returned (.int .i64 (atP (fun p => p.id == x) l)) ∧ Below w.heap.size w w' := by
  have Hr := Lib.hid h
  rcases h.nil with ⟨rfl, rfl⟩ | ⟨g, cap, rfl⟩
  · clear h
    go_enter Tryz.func72, Tryz.ntmps72
    go_wp2_with fail
    go_loopw [9] (fun i wr => i = .int .i64 0 ∧ wr = w) (fun i _ => 0)
    case atStart => exact ⟨rfl, rfl⟩
    case round =>
      obtain ⟨rfl, rfl⟩ := hrel
      go_wp2_with fail
      go_ret
      exact ⟨rfl, Below.refl _ _⟩
  · clear h
    go_enter Tryz.func72, Tryz.ntmps72
    go_wp2_with fail
    go_loopw [9] (fun i wr => ∃ k : Nat, k ≤ l.length ∧ i = .int .i64 k ∧ (∀ j y, j < k → l[j]? = some y → (y.id == x) = false) ∧ Below w.heap.size w wr) (fun i _ => (l.length - intOf i).toNat)
    case atStart => exact ⟨0, by omega, rfl, fun j y hj => absurd hj (Nat.not_lt_zero _), Below.refl _ _⟩
    case round =>
      obtain ⟨k, hk, rfl, hz, hbr⟩ := hrel
      have HZ := Lib.hid hz
      clear hz
      by_cases hlt : k < l.length
      · obtain ⟨y, hy⟩ : ∃ y, l[k]? = some y := ⟨_, List.getElem?_eq_getElem hlt⟩
        obtain ⟨q0, q1, q2⟩ := (Hr.out.below hbr).peer hy
        have ik : (k : Int) < l.length := by omega
        have lg := ((Hr.out.below hbr).lt g rfl).2
        have Hy := Lib.hid hy
        clear hy
        cases hd : (y.id == x) with
        | true =>
          have Hf := Lib.hid (show atP (fun p => p.id == x) l = k from atP_some HZ.out Hy.out hd)
          go_wp2_with fail
          go_ret
          exact ⟨by rw [Hf.out]; rfl, hbr.alloc hbr.size _⟩
        | false =>
          have HZ2 := Lib.hid (show ∀ j y, j < k + 1 → l[j]? = some y → (y.id == x) = false from fun j y' hj hy' => by
            by_cases hjk : j < k
            · exact HZ.out j y' hjk hy'
            · rw [show j = k by omega, Hy.out] at hy'
              obtain rfl := Option.some.inj hy'
              exact hd)
          clear HZ
          go_wp2_with fail
          refine ⟨⟨k + 1, by omega, by simp, HZ2.out, hbr.alloc hbr.size _⟩, ?_⟩
          simp only [intOf]; omega
      · obtain rfl : k = l.length := by omega
        have Hf := Lib.hid (show atP (fun p => p.id == x) l = -1 from atP_none fun j y hy => HZ.out j y (List.getElem?_eq_some_iff.1 hy).1 hy)
        go_wp2_with fail
        go_ret
        exact ⟨by rw [Hf.out]; rfl, hbr⟩
set_option maxHeartbeats 800000 in
set_option maxRecDepth 100000 in
theorem who15_calls {w : World} {B : Nat} {v : Value} {l : List Pr} (h : PeersAt w B v l) (hm : l.length ≤ 1000) (x : Int) :
    Calls Tryz.prog 73 #[v, .int .i64 x] w fun e w' => e = .returned (.int .i64 (atP (fun p => p.key == x) l)) ∧ Below w.heap.size w w' := by
  have Hr := Lib.hid h
  rcases h.nil with ⟨rfl, rfl⟩ | ⟨g, cap, rfl⟩
  · clear h
    go_enter Tryz.func73, Tryz.ntmps73
    go_wp2_with fail
    go_loopw [9] (fun i wr => i = .int .i64 0 ∧ wr = w) (fun i _ => 0)
    case atStart => exact ⟨rfl, rfl⟩
    case round =>
      obtain ⟨rfl, rfl⟩ := hrel
      go_wp2_with fail
      go_ret
      exact ⟨rfl, Below.refl _ _⟩
  · clear h
    go_enter Tryz.func73, Tryz.ntmps73
    go_wp2_with fail
    go_loopw [9] (fun i wr => ∃ k : Nat, k ≤ l.length ∧ i = .int .i64 k ∧ (∀ j y, j < k → l[j]? = some y → (y.key == x) = false) ∧ Below w.heap.size w wr) (fun i _ => (l.length - intOf i).toNat)
    case atStart => exact ⟨0, by omega, rfl, fun j y hj => absurd hj (Nat.not_lt_zero _), Below.refl _ _⟩
    case round =>
      obtain ⟨k, hk, rfl, hz, hbr⟩ := hrel
      have HZ := Lib.hid hz
      clear hz
      by_cases hlt : k < l.length
      · obtain ⟨y, hy⟩ : ∃ y, l[k]? = some y := ⟨_, List.getElem?_eq_getElem hlt⟩
        obtain ⟨q0, q1, q2⟩ := (Hr.out.below hbr).peer hy
        have ik : (k : Int) < l.length := by omega
        have lg := ((Hr.out.below hbr).lt g rfl).2
        have Hy := Lib.hid hy
        clear hy
        cases hd : (y.key == x) with
        | true =>
          have Hf := Lib.hid (show atP (fun p => p.key == x) l = k from atP_some HZ.out Hy.out hd)
          go_wp2_with fail
          go_ret
          exact ⟨by rw [Hf.out]; rfl, hbr.alloc hbr.size _⟩
        | false =>
          have HZ2 := Lib.hid (show ∀ j y, j < k + 1 → l[j]? = some y → (y.key == x) = false from fun j y' hj hy' => by
            by_cases hjk : j < k
            · exact HZ.out j y' hjk hy'
            · rw [show j = k by omega, Hy.out] at hy'
              obtain rfl := Option.some.inj hy'
              exact hd)
          clear HZ
          go_wp2_with fail
          refine ⟨⟨k + 1, by omega, by simp, HZ2.out, hbr.alloc hbr.size _⟩, ?_⟩
          simp only [intOf]; omega
      · obtain rfl : k = l.length := by omega
        have Hf := Lib.hid (show atP (fun p => p.key == x) l = -1 from atP_none fun j y hy => HZ.out j y (List.getElem?_eq_some_iff.1 hy).1 hy)
        go_wp2_with fail
        go_ret
        exact ⟨by rw [Hf.out]; rfl, hbr⟩
/-! One call of the law of layer 15 over the row of peers. -/
def doesQ (l : List Pr) (i j : Int) (k id ref : Int) : List Pr × Int :=
  if k = 0 then
    if id < 0 ∨ 999 < id ∨ ref < 1 then (l, 1) else if 0 ≤ i ∨ 0 ≤ j then (l, 4) else if 8 ≤ l.length then (l, 3) else (l ++ [⟨id, ref, 0⟩], 0)
  else if k = 1 then if i < 0 then (l, 4) else (l.take i.toNat ++ l.drop (i.toNat + 1), 0)
  else if i < 0 then (l, 4) else if ref < 1 then (l, 1) else (l.set i.toNat ⟨(l[i.toNat]!).id, (l[i.toNat]!).key, ref⟩, 0)
def doesP (l : List Pr) (k id ref : Int) : List Pr × Int := doesQ l (atP (fun p => p.id == id) l) (atP (fun p => p.key == ref) l) k id ref
def DoesPost (w : World) (v : Value) (l : List Pr) (k id ref : Int) (e : Ending) (w' : World) : Prop :=
  ∃ v', e = .returned (.tuple #[v', .int .i64 (doesP l k id ref).2]) ∧ Below w.heap.size w w' ∧ ((v' = v ∧ (doesP l k id ref).1 = l) ∨ PeersAt w' w.heap.size v' (doesP l k id ref).1)
def OpBox (w : World) (b : Nat) (k id ref : Int) : Prop := w.heap[b]? = some (.cells #[.int .i64 k, .int .i64 id, .int .i64 ref] 77 (0, 0))
theorem OpBox.cells {w : World} {b : Nat} {k id ref : Int} (h : OpBox w b k id ref) : w.cell? ⟨b, 0, none⟩ = some (.int .i64 k) ∧ w.cell? ⟨b, 1, none⟩ = some (.int .i64 id) ∧ w.cell? ⟨b, 2, none⟩ = some (.int .i64 ref) :=
  ⟨cell_of_heap h, cell_of_heap h, cell_of_heap h⟩
theorem OpBox.below {w w' : World} {b : Nat} {k id ref : Int} (h : OpBox w b k id ref) (u : Below w.heap.size w w') : OpBox w' b k id ref := (u.block b (lt_of_heap h)).trans h
theorem peers_one {l : List Pr} : ∀ u ∈ l.flatMap Pr.cells, u.oneCell' = true := fun u hu => by
  obtain ⟨y, _, hy⟩ := List.mem_flatMap.1 hu
  simp [Pr.cells] at hy
  rcases hy with rfl | rfl | rfl <;> rfl
theorem peers_len (l : List Pr) : (l.flatMap Pr.cells).length = l.length * 3 := by
  induction l with
  | nil => rfl
  | cons x l ih => rw [List.flatMap_cons, List.length_append, ih]; simp [Pr.cells]; omega
theorem peers_cat {w : World} {B : Nat} {v : Value} {a b : List Pr} (h : w.ownsRow B 44 3 v (0 + a.length + b.length) ([] ++ a.flatMap Pr.cells ++ b.flatMap Pr.cells)) {B' : Nat} (hB : B' ≤ B) : PeersAt w B' v (a ++ b) := by
  unfold PeersAt
  rw [List.flatMap_append, List.length_append]
  simp only [Nat.zero_add, List.nil_append] at h
  refine ⟨h.1, ?_⟩
  rcases h.2 with hn | ⟨g, cap, cur, hv, hB2, rest⟩
  · exact .inl hn
  · exact .inr ⟨g, cap, cur, hv, Nat.le_trans hB hB2, rest⟩
theorem peers_set {l : List Pr} {n : Nat} {x : Pr} (hx : l[n]? = some x) (r : Int) : (l.set n ⟨x.id, x.key, r⟩).flatMap Pr.cells = (l.flatMap Pr.cells).set (n * 3 + 2) (.int .i64 r) := by
  have hn : n < l.length := (List.getElem?_eq_some_iff.1 hx).1
  apply List.ext_getElem?
  intro j
  rw [flatMap_at Pr.cells 3 (by decide) (fun _ => rfl), List.getElem?_set, List.getElem?_set, peers_len, flatMap_at Pr.cells 3 (by decide) (fun _ => rfl)]
  by_cases h : n = j / 3
  · rw [if_pos h, if_pos hn, ← h, hx]
    by_cases h2 : n * 3 + 2 = j
    · rw [if_pos h2, if_pos (by omega), show j % 3 = 2 by omega]; rfl
    · rw [if_neg h2]
      have : j % 3 = 0 ∨ j % 3 = 1 := by omega
      rcases this with e | e <;> rw [e] <;> rfl
  · rw [if_neg h, if_neg (by omega)]
theorem peers_drop {w : World} {B g c : Nat} {l : List Pr} (h : PeersAt w B (.slice (some ⟨g, 0, none⟩) l.length c) l) (i : Nat) (hi : i ≤ l.length) : News w (some ⟨g, i * 3, none⟩) 3 (l.length - i) ((l.drop i).flatMap Pr.cells) := by
  refine ⟨by rw [peers_len]; simp, .inr ⟨_, rfl, fun j u hu => ?_⟩⟩
  have := h.cells (g := g) rfl (i * 3 + j) u (by
    rw [flatMap_at Pr.cells 3 (by decide) (fun _ => rfl)] at hu ⊢
    rw [List.getElem?_drop] at hu
    rw [show (i * 3 + j) / 3 = i + j / 3 by omega, show (i * 3 + j) % 3 = j % 3 by omega]; exact hu)
  rw [add_off] at this ⊢
  rwa [Nat.zero_add] at this
theorem peers_take {w : World} {B g c : Nat} {l : List Pr} (h : PeersAt w B (.slice (some ⟨g, 0, none⟩) l.length c) l) (i : Nat) (hi : i ≤ l.length) : News w (some ⟨g, 0, none⟩) 3 i ((l.take i).flatMap Pr.cells) := by
  refine ⟨by rw [peers_len, List.length_take]; omega, .inr ⟨_, rfl, fun j u hu => h.cells (g := g) rfl j u ?_⟩⟩
  rw [flatMap_at Pr.cells 3 (by decide) (fun _ => rfl)] at hu ⊢
  rw [List.getElem?_take] at hu
  split at hu
  · exact hu
  · simp at hu
set_option maxHeartbeats 3200000 in
set_option maxRecDepth 100000 in
theorem does_calls {w : World} {v : Value} {l : List Pr} (h : PeersAt w 0 v l) (hm : l.length ≤ 100) (k id ref : Int) :
    Calls Tryz.prog 38 #[v, .agg #[.int .i64 k, .int .i64 id, .int .i64 ref]] w (DoesPost w v l k id ref) := by
  have Hr := Lib.hid h
  obtain ⟨A, c, rfl, hn, hA⟩ := News.of_owns h
  have Hn := Lib.hid (And.intro hn hA)
  clear hn hA h
  go_enter Tryz.func38, Tryz.ntmps38
  go_wp2_with fail
  have hb0 := (Below.refl w.heap.size w).alloc (Nat.le_refl _) (.cells #[.int .i64 k, .int .i64 id, .int .i64 ref] 77)
  refine (at15_calls (Hr.out.below hb0) (by omega) id).mono ?_
  rintro e w1 ⟨rfl, hb1⟩
  have hbw := below_call hb0 hb1
  have ob : OpBox w1 w.heap.size k id ref := (hb1.block _ (by simp)).trans (new_at rfl)
  obtain ⟨o0, o1, o2⟩ := ob.cells
  have lo := lt_of_heap ob
  have Ho := Lib.hid ob
  have Hi := Lib.hid (show doesP l k id ref = doesQ l (atP (fun p => p.id == id) l) (atP (fun p => p.key == ref) l) k id ref from rfl)
  have hcs := atP_cases (fun p => p.id == id) l
  generalize atP (fun p => p.id == id) l = i at *
  clear ob hb0 hb1
  by_cases hk0 : k = 0
  · subst hk0
    by_cases hbad : id < 0 ∨ 999 < id ∨ ref < 1
    · have Hf := Lib.hid (show doesP l 0 id ref = (l, 1) by rw [Hi.out]; simp [doesQ, hbad])
      have hd : decide (id < 0) = true ∨ (decide (id < 0) = false ∧ decide (999 < id) = true) ∨ (decide (id < 0) = false ∧ decide (999 < id) = false ∧ decide (ref < 1) = true) := by
        by_cases h1 : id < 0
        · exact .inl (decide_eq_true h1)
        · by_cases h2 : 999 < id
          · exact .inr (.inl ⟨decide_eq_false h1, decide_eq_true h2⟩)
          · exact .inr (.inr ⟨decide_eq_false h1, decide_eq_false h2, decide_eq_true (by omega)⟩)
      clear hbad hcs
      rcases hd with hd | ⟨hd, hd2⟩ | ⟨hd, hd2, hd3⟩
      all_goals
        go_wp2_with fail
        go_ret2
        exact ⟨_, by rw [Hf.out]; rfl, hbw, .inl ⟨rfl, by rw [Hf.out]⟩⟩
    · have h1 : decide (id < 0) = false := decide_eq_false (by omega)
      have h2 : decide (999 < id) = false := decide_eq_false (by omega)
      have h3 : decide (ref < 1) = false := decide_eq_false (by omega)
      rcases hcs with rfl | ⟨n, x, rfl, hx, hp⟩
      · have Hi2 := Lib.hid (show doesP l 0 id ref = if 0 ≤ atP (fun p => p.key == ref) l then (l, 4) else if 8 ≤ l.length then (l, 3) else (l ++ [⟨id, ref, 0⟩], 0) by rw [Hi.out]; simp [doesQ, hbad])
        clear hbad Hi
        go_wp2_with fail
        refine (who15_calls (Hr.out.below hbw) (by omega) ref).mono ?_
        rintro e w2 ⟨rfl, hb2⟩
        have hbw2 := below_call hbw hb2
        have Ho2 := Lib.hid (Ho.out.below hb2)
        clear o0 o1 o2 lo Ho
        obtain ⟨o0, o1, o2⟩ := Ho2.out.cells
        have lo := lt_of_heap Ho2.out
        have hcs := atP_cases (fun p => p.key == ref) l
        generalize atP (fun p => p.key == ref) l = j at *
        rcases hcs with rfl | ⟨n, x, rfl, hx, hp⟩
        · by_cases h8 : 8 ≤ l.length
          · have Hf := Lib.hid (show doesP l 0 id ref = (l, 3) by rw [Hi2.out]; simp [h8])
            have hd : decide ((8 : Int) ≤ (l.length : Int)) = true := decide_eq_true (by omega)
            have hd2 : decide (8 ≤ l.length) = true := decide_eq_true h8
            clear h8
            go_wp2_with fail
            go_ret2
            exact ⟨_, by rw [Hf.out]; rfl, hbw2, .inl ⟨rfl, by rw [Hf.out]⟩⟩
          · have Hf := Lib.hid (show doesP l 0 id ref = (l ++ [⟨id, ref, 0⟩], 0) by rw [Hi2.out]; simp [h8])
            have hd : decide ((8 : Int) ≤ (l.length : Int)) = false := decide_eq_false (by omega)
            have hd2 : decide (8 ≤ l.length) = false := decide_eq_false h8
            clear h8
            have Hn2 := Lib.hid (Hn.out.1.upd hbw2 (fun ad e => (Hn.out.2 ad e).2))
            have Hlt := Lib.hid (fun ad (e : A = some ad) => Nat.lt_of_lt_of_le (Hn.out.2 ad e).2 hbw2.size)
            go_wp2_with fail
            go_region_law (first
              | (refine step_cat (W := w2) (by repeat (first | assumption | exact Below.refl _ _ | refine Below.drew ?_ | refine belowAlloc ?_ _)) rfl _ _ 40 rfl 44 (.agg #[.int .i64 0, .int .i64 0, .int .i64 0]) 3 24 rfl rfl rfl (by decide) (.slice (some ⟨_, 0, none⟩) 0 0) 0 [] rfl (owns_empty 3 (by first | exact Nat.le_refl _ | simp) (by first | exact new_at rfl | exact new_at (by simp) | exact old_at (new_at rfl))) A l.length c (l.flatMap Pr.cells) rfl (Hn2.out.upd (by repeat (first | assumption | exact Below.refl _ _ | refine Below.drew ?_ | refine belowAlloc ?_ _)) Hlt.out) peers_one (by unfold maxLen; omega) (by omega) ?_
                 intro v1 wa ho1 hb1 hk1
                 obtain ⟨o0, o1, o2⟩ := (Ho2.out.below hb1).cells)
              | (refine step_cat (W := w2) (by repeat (first | assumption | exact Below.refl _ _ | refine Below.drew ?_ | refine belowAlloc ?_ _)) rfl _ _ 40 rfl 44 (.agg #[.int .i64 0, .int .i64 0, .int .i64 0]) 3 24 rfl rfl rfl (by decide) v1 (0 + l.length) ([] ++ l.flatMap Pr.cells) rfl (by first | exact ho1 | exact ho1.alloc _) (some ⟨_, 0, none⟩) 1 1 (Pr.cells ⟨id, ref, 0⟩) rfl (News.block (t := 44) (fr := (0, 0)) (by first | exact new_at rfl | exact new_at (by simp) | exact hk1 _ _ (by first | exact new_at rfl | exact new_at (by simp) | exact old_at (new_at rfl)) (by simp [Value.ownBlock])) rfl) (by simp [Value.oneCell', Pr.cells]) (by unfold maxLen; omega) (by omega) ?_
                 intro v2 wb ho2 hb2 hk2)
              | (go_simp))
            all_goals go_wp2_with fail
            all_goals go_ret2
            all_goals
              have hb3 := below_call hbw2 hb2
              refine ⟨v2, by rw [Hf.out]; rfl, hb3, .inr ?_⟩
              rw [Hf.out]
              exact peers_cat (a := l) (b := [⟨id, ref, 0⟩]) ho2 hbw2.size
        · have Hf := Lib.hid (show doesP l 0 id ref = (l, 4) by rw [Hi2.out]; simp)
          go_wp2_with fail
          go_ret2
          exact ⟨_, by rw [Hf.out]; rfl, hbw2, .inl ⟨rfl, by rw [Hf.out]⟩⟩
      · have Hf := Lib.hid (show doesP l 0 id ref = (l, 4) by rw [Hi.out]; simp [doesQ, hbad])
        clear hbad
        go_wp2_with fail
        go_ret2
        exact ⟨_, by rw [Hf.out]; rfl, hbw, .inl ⟨rfl, by rw [Hf.out]⟩⟩
  · have hd0 : (k == 0) = false := by simpa using hk0
    by_cases hk1 : k = 1
    · subst hk1
      rcases hcs with rfl | ⟨n, x, rfl, hx, hp⟩
      · have Hf := Lib.hid (show doesP l 1 id ref = (l, 4) by rw [Hi.out]; simp [doesQ])
        go_wp2_with fail
        go_ret2
        exact ⟨_, by rw [Hf.out]; rfl, hbw, .inl ⟨rfl, by rw [Hf.out]⟩⟩
      · have Hf := Lib.hid (show doesP l 1 id ref = (l.take n ++ l.drop (n + 1), 0) by rw [Hi.out]; simp [doesQ])
        have hnl : n < l.length := (List.getElem?_eq_some_iff.1 hx).1
        obtain ⟨g, cap, hv⟩ := (Hr.out.nil).resolve_left (fun h => by rw [h.2] at hx; simp at hx)
        simp only [Value.slice.injEq, true_and] at hv
        obtain ⟨rfl, rfl⟩ := hv
        have hcap : l.length ≤ c := by
          rcases Hr.out.2 with ⟨h, _⟩ | ⟨g', cap', cur, h, _, _, h2, _⟩
          · simp at h
          · simp only [Value.slice.injEq] at h; omega
        have hr1 := Hr.out.below hbw
        have Ht := Lib.hid (And.intro (peers_take hr1 n (by omega)) (peers_drop hr1 (n + 1) (by omega)))
        have lg := (hr1.lt g rfl).2
        have hnc : n ≤ c := by omega
        have hn1 : n + 1 ≤ l.length := by omega
        have hnc1 : n + 1 ≤ c := by omega
        have ik : (n : Int) < l.length := by omega
        have ik1 : (n : Int) + 1 ≤ l.length := by omega
        have ik2 : (0 : Int) ≤ (n : Int) + 1 := by omega
        have ik3 : ((n : Int) + 1).toNat = n + 1 := by omega
        have ik4 : (n : Int) ≤ (n : Int) + 1 := by omega
        have hwr : IntKind.i64.wrap ((n : Int) + 1) = (n : Int) + 1 := by rw [IntKind.wrap_i64]; omega
        clear hr1 hx hp Hi hnl
        by_cases hce : c = n + 1
        · subst hce
          have Hz := Lib.hid (show News w1 (some ⟨g, 0, none⟩) 3 0 ((l.drop (n + 1)).flatMap Pr.cells) by
            have hl : l.drop (n + 1) = [] := List.drop_eq_nil_of_le (by omega)
            rw [hl]; exact ⟨by simp, .inr ⟨_, rfl, by simp⟩⟩)
          go_wp2_with fail
          go_region_law (first
                | (refine step_cat (W := w1) (by repeat (first | assumption | exact Below.refl _ _ | refine Below.drew ?_ | refine belowAlloc ?_ _)) rfl _ _ 40 rfl 44 (.agg #[.int .i64 0, .int .i64 0, .int .i64 0]) 3 24 rfl rfl rfl (by decide) (.slice (some ⟨_, 0, none⟩) 0 0) 0 [] rfl (owns_empty 3 (by first | exact Nat.le_refl _ | simp) (by first | exact new_at rfl | exact new_at (by simp) | exact old_at (new_at rfl))) (some ⟨g, 0, none⟩) n _ ((l.take n).flatMap Pr.cells) rfl (Ht.out.1.upd (by repeat (first | assumption | exact Below.refl _ _ | refine Below.drew ?_ | refine belowAlloc ?_ _)) (by rintro ad ⟨⟩; exact lg)) peers_one (by unfold maxLen; omega) (by omega) ?_
                   intro v1 wa ho1 hb1 hk1)
                | (refine step_cat (W := w1) (by repeat (first | assumption | exact Below.refl _ _ | refine Below.drew ?_ | refine belowAlloc ?_ _)) rfl _ _ 40 rfl 44 (.agg #[.int .i64 0, .int .i64 0, .int .i64 0]) 3 24 rfl rfl rfl (by decide) v1 (0 + n) ([] ++ (l.take n).flatMap Pr.cells) rfl (by first | exact ho1 | exact ho1.alloc _) (some ⟨g, 0, none⟩) 0 0 ((l.drop (n + 1)).flatMap Pr.cells) rfl (Hz.out.upd (by repeat (first | assumption | exact Below.refl _ _ | refine Below.drew ?_ | refine belowAlloc ?_ _)) (by rintro ad ⟨⟩; exact lg)) peers_one (by unfold maxLen; omega) (by omega) ?_
                   intro v2 wb ho2 hb2 hk2)
                | (go_simp))
          all_goals go_wp2_with fail
          all_goals go_ret2
          all_goals
            have hb3 := below_call hbw hb2
            refine ⟨v2, by rw [Hf.out]; rfl, hb3, .inr ?_⟩
            rw [Hf.out]
            refine peers_cat (a := l.take n) (b := l.drop (n + 1)) ?_ hbw.size
            rw [List.length_take, List.length_drop, Nat.min_eq_left (by omega), show l.length - (n + 1) = 0 by omega]
            exact ho2
        · go_wp2_with fail
          go_region_law (first
                | (refine step_cat (W := w1) (by repeat (first | assumption | exact Below.refl _ _ | refine Below.drew ?_ | refine belowAlloc ?_ _)) rfl _ _ 40 rfl 44 (.agg #[.int .i64 0, .int .i64 0, .int .i64 0]) 3 24 rfl rfl rfl (by decide) (.slice (some ⟨_, 0, none⟩) 0 0) 0 [] rfl (owns_empty 3 (by first | exact Nat.le_refl _ | simp) (by first | exact new_at rfl | exact new_at (by simp) | exact old_at (new_at rfl))) (some ⟨g, 0, none⟩) n _ ((l.take n).flatMap Pr.cells) rfl (Ht.out.1.upd (by repeat (first | assumption | exact Below.refl _ _ | refine Below.drew ?_ | refine belowAlloc ?_ _)) (by rintro ad ⟨⟩; exact lg)) peers_one (by unfold maxLen; omega) (by omega) ?_
                   intro v1 wa ho1 hb1 hk1)
                | (refine step_cat (W := w1) (by repeat (first | assumption | exact Below.refl _ _ | refine Below.drew ?_ | refine belowAlloc ?_ _)) rfl _ _ 40 rfl 44 (.agg #[.int .i64 0, .int .i64 0, .int .i64 0]) 3 24 rfl rfl rfl (by decide) v1 (0 + n) ([] ++ (l.take n).flatMap Pr.cells) rfl (by first | exact ho1 | exact ho1.alloc _) (some ⟨g, (n + 1) * 3, none⟩) (l.length - (n + 1)) (c - (n + 1)) ((l.drop (n + 1)).flatMap Pr.cells) rfl (Ht.out.2.upd (by repeat (first | assumption | exact Below.refl _ _ | refine Below.drew ?_ | refine belowAlloc ?_ _)) (by rintro ad ⟨⟩; exact lg)) peers_one (by unfold maxLen; omega) (by omega) ?_
                   intro v2 wb ho2 hb2 hk2)
                | (go_simp))
          all_goals go_wp2_with fail
          all_goals go_ret2
          all_goals
            have hb3 := below_call hbw hb2
            refine ⟨v2, by rw [Hf.out]; rfl, hb3, .inr ?_⟩
            rw [Hf.out]
            refine peers_cat (a := l.take n) (b := l.drop (n + 1)) ?_ hbw.size
            rw [List.length_take, List.length_drop, Nat.min_eq_left (by omega)]
            exact ho2
    · have hd1 : (k == 1) = false := by simpa using hk1
      rcases hcs with rfl | ⟨n, x, rfl, hx, hp⟩
      · have Hf := Lib.hid (show doesP l k id ref = (l, 4) by rw [Hi.out]; simp [doesQ, hk0, hk1])
        clear hk0 hk1
        go_wp2_with fail
        go_ret2
        exact ⟨_, by rw [Hf.out]; rfl, hbw, .inl ⟨rfl, by rw [Hf.out]⟩⟩
      · by_cases hr : ref < 1
        · have Hf := Lib.hid (show doesP l k id ref = (l, 1) by rw [Hi.out]; simp [doesQ, hk0, hk1, hr])
          have hd2 : decide (ref < 1) = true := decide_eq_true hr
          clear hk0 hk1 hr
          go_wp2_with fail
          go_ret2
          exact ⟨_, by rw [Hf.out]; rfl, hbw, .inl ⟨rfl, by rw [Hf.out]⟩⟩
        · have hnl : n < l.length := (List.getElem?_eq_some_iff.1 hx).1
          have Hf := Lib.hid (show doesP l k id ref = (l.set n ⟨x.id, x.key, ref⟩, 0) by
            rw [Hi.out]
            have : l[n]! = x := by rw [getElem!_def, hx]
            simp [doesQ, hk0, hk1, hr, this])
          have hd2 : decide (ref < 1) = false := decide_eq_false hr
          obtain ⟨g, cap, hv⟩ := (Hr.out.nil).resolve_left (fun h => by rw [h.2] at hx; simp at hx)
          simp only [Value.slice.injEq, true_and] at hv
          obtain ⟨rfl, rfl⟩ := hv
          have hn0 := News.of_owns (Hr.out.below hbw)
          have hr1 := Hr.out.below hbw
          have Ht := Lib.hid (peers_drop hr1 0 (by omega))
          have lg := (hr1.lt g rfl).2
          have Hx := Lib.hid hx
          clear hr1 hx hp Hi hk0 hk1 hr
          go_wp2_with (at_builtin; go_loud (refine wpList_cat (W := w1) (belowAlloc (Below.refl _ _) _) rfl _ _ 40 rfl 44 (.agg #[.int .i64 0, .int .i64 0, .int .i64 0]) 3 24 rfl rfl rfl (by decide) (.slice (some ⟨w1.heap.size, 0, none⟩) 0 0) 0 [] rfl (owns_empty 3 (Nat.le_refl _) (new_at rfl)) (some ⟨g, 0, none⟩) l.length c (l.flatMap Pr.cells) rfl (News.upd (by simpa using Ht.out) (belowAlloc (Below.refl _ _) _) (by rintro ad ⟨⟩; exact lg)) peers_one (by unfold maxLen; omega) (by omega) ?_))
          intro v1 wa ho1 hb2 hk2
          have hb3 := below_call hbw hb2
          have ho1 : wa.ownsRow w1.heap.size 44 3 v1 (0 + l.length) ([] ++ l.flatMap Pr.cells) := by simpa using ho1
          obtain ⟨g2, c2, rfl, hg2, hlt2⟩ := ho1.form (by omega)
          have Ho2 := Lib.hid (Ho.out.below hb2)
          clear o0 o1 o2 lo Ho
          obtain ⟨o0, o1, o2⟩ := Ho2.out.cells
          have lo := lt_of_heap Ho2.out
          have p1 : PeersAt wa w1.heap.size (.slice (some ⟨g2, 0, none⟩) l.length c2) l := by
            have := peers_cat (a := l) (b := []) (by simpa using ho1) (Nat.le_refl _)
            simpa using this
          obtain ⟨q0, q1, q2⟩ := p1.peer Hx.out
          have qf := fun j => World.ownsRow.frozenAt p1 j
          have ik : (n : Int) < l.length := by omega
          have P1 := Lib.hid p1
          clear p1 ho1
          simp only [Nat.zero_add]
          go_wp2_with fail
          go_ret2
          refine ⟨_, by rw [Hf.out]; rfl, hb3.setCell (Nat.le_trans hbw.size hg2) _, .inr ?_⟩
          rw [Hf.out]
          have := (World.ownsRow.stored P1.out (n * 3 + 2) (.int .i64 ref)).1
          unfold PeersAt
          rw [List.length_set, peers_set Hx.out]
          exact ⟨this.1, this.2.imp (fun h => h) fun ⟨g, cap, cur, h1, h2, h3⟩ => ⟨g, cap, cur, h1, Nat.le_trans hbw.size h2, h3⟩⟩
end Go.Proofs.YtfelbecofbdeaaaGreatDoor
