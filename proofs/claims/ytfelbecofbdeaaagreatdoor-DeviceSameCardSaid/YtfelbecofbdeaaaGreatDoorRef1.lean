/- The document's calls of layer 1 that only read: Has, part, Many, Compare. -/
import Derived.Test.YtfelbecofbdeaaaGreatDoorOwn
import Derived.Test.YtfelbecofbdeaaaGreatDoorAr
import Derived.Test.YtfelbecofbdeaaaGreatDoorOpen
import Derived.Lib.Hide
import Derived.Deep.QuietTactic
import Derived.BigQuiet
import Derived.Deep.RegionHeld3
import Derived.Deep.CutBlock
import Derived.Deep.DeepCutAuto
namespace Go.Proofs.YtfelbecofbdeaaaGreatDoor
open Go.RowKit

/-- The document's arena as a value: its terms lie in block g. -/
def refV (A : Ar) (g cap : Nat) : Value := .agg #[.int .i64 A.limit, .slice (some ⟨g, 0, none⟩) A.l.length cap]
def RefAt (w : World) (g cap : Nat) (l : List Nd) : Prop := w.ownsRow 0 65 5 (.slice (some ⟨g, 0, none⟩) l.length cap) l.length (l.flatMap Nd.cells)
theorem RefAt.below {w w' : World} {g cap : Nat} {l : List Nd} (h : RefAt w g cap l) (u : Below w.heap.size w w') : RefAt w' g cap l := ownsRow_upd' (S := None) h (Upd.of_below u) (fun _ _ h => h)
theorem RefAt.node {w : World} {g cap : Nat} {l : List Nd} (h : RefAt w g cap l) {i : Nat} {n : Nd} (hi : l[i]? = some n) :
    w.cell? ⟨g, i * 5, none⟩ = some (.int .i64 n.kind) ∧ w.cell? ⟨g, i * 5 + 1, none⟩ = some (.int .u64 n.n) ∧ w.cell? ⟨g, i * 5 + 2, none⟩ = some (.int .i64 n.a) ∧ w.cell? ⟨g, i * 5 + 3, none⟩ = some (.int .i64 n.b) ∧ w.cell? ⟨g, i * 5 + 4, none⟩ = some (.int .i64 n.c) := by
  have hc := h.cells (g := g) rfl
  have at_ : ∀ j u, n.cells[j]? = some u → w.cell? ⟨g, i * 5 + j, none⟩ = some u := fun j u hj => by
    have hj5 : j < 5 := (List.getElem?_eq_some_iff.1 hj).1
    have := hc (i * 5 + j) u (by
      rw [flatMap_at Nd.cells 5 (by decide) (fun _ => rfl), show (i * 5 + j) / 5 = i by omega, show (i * 5 + j) % 5 = j by omega, hi]
      exact hj)
    rwa [add_off, Nat.zero_add] at this
  exact ⟨at_ 0 _ rfl, at_ 1 _ rfl, at_ 2 _ rfl, at_ 3 _ rfl, at_ 4 _ rfl⟩

theorem ret_bool' {a b : Bool} (h : a = b) : Ending.returned (.bool a) = .returned (.bool b) := by rw [h]
set_option maxHeartbeats 400000 in
theorem rHas_calls (A : Ar) (g cap : Nat) (x : Int) (w : World) : Calls Tryz.prog 14 #[refV A g cap, .int .i64 x] w fun e w' => e = .returned (.bool (has A.l x)) ∧ Below w.heap.size w w' := by
  unfold refV
  by_cases h0 : 0 ≤ x
  · have hd : decide (0 ≤ x) = true := decide_eq_true h0
    have Hh := Lib.hid (show has A.l x = decide (x < A.l.length) by simp [has, h0])
    clear h0
    go_enter Tryz.func14, Tryz.ntmps14
    go_wp2_with (go_quiet (fail))
    go_ret
    exact ⟨by rw [Hh.out]; rfl, (Below.refl _ _).alloc (Nat.le_refl _) _⟩
  · have hd : decide (0 ≤ x) = false := decide_eq_false h0
    have Hh := Lib.hid (show has A.l x = false by simp [has, h0])
    clear h0
    go_enter Tryz.func14, Tryz.ntmps14
    go_wp2_with (go_quiet (fail))
    go_ret
    exact ⟨by rw [Hh.out]; rfl, (Below.refl _ _).alloc (Nat.le_refl _) _⟩
set_option maxHeartbeats 400000 in
theorem rPart_calls (x : Nd) (k : Nat) (w : World) : Calls Tryz.prog 90 #[x.val, .int .i64 k] w fun e w' => e = .returned (.int .i64 (x.part k)) ∧ Below w.heap.size w w' := by
  unfold Nd.val
  have hb := (Below.refl w.heap.size w).alloc (Nat.le_refl _) (.cells #[.int .i64 x.kind, .int .u64 x.n, .int .i64 x.a, .int .i64 x.b, .int .i64 x.c] 65)
  match k with
  | 0 =>
    go_enter Tryz.func90, Tryz.ntmps90
    go_wp2
    go_ret
    exact ⟨rfl, hb⟩
  | 1 =>
    go_enter Tryz.func90, Tryz.ntmps90
    go_wp2
    go_ret
    exact ⟨rfl, hb⟩
  | k + 2 =>
    have h0 : (((k + 2 : Nat) : Int) == 0) = false := by simp; omega
    have h1 : (((k + 2 : Nat) : Int) == 1) = false := by simp; omega
    have Hp := Lib.hid (show x.part (k + 2) = x.c from rfl)
    generalize ((k + 2 : Nat) : Int) = q at *
    go_enter Tryz.func90, Tryz.ntmps90
    go_wp2
    go_ret
    exact ⟨by rw [Hp.out]; rfl, hb⟩
def manyI (k : Int) : Int := if k < 0 ∨ 9 < k then -1 else many k
set_option maxHeartbeats 800000 in
theorem rMany_calls (k : Int) (w : World) : Calls Tryz.prog 52 #[.int .i64 k] w fun e w' => e = .returned (.int .i64 (manyI k)) ∧ w = w' := by
  by_cases h : 0 ≤ k ∧ k ≤ 9
  · have : k = 0 ∨ k = 1 ∨ k = 2 ∨ k = 3 ∨ k = 4 ∨ k = 5 ∨ k = 6 ∨ k = 7 ∨ k = 8 ∨ k = 9 := by omega
    rcases this with rfl | rfl | rfl | rfl | rfl | rfl | rfl | rfl | rfl | rfl
    all_goals
      go_enter Tryz.func52, Tryz.ntmps52
      go_wp2
      go_ret
      exact ⟨rfl, rfl⟩
  · have Hm := Lib.hid (show manyI k = -1 by unfold manyI; rw [if_pos (by omega)])
    have e0 : (k == 0) = false := by simp; omega
    have e1 : (k == 1) = false := by simp; omega
    have e2 : (k == 2) = false := by simp; omega
    have e3 : (k == 3) = false := by simp; omega
    have e4 : (k == 4) = false := by simp; omega
    have e5 : (k == 5) = false := by simp; omega
    have e6 : (k == 6) = false := by simp; omega
    have e7 : (k == 7) = false := by simp; omega
    have e8 : (k == 8) = false := by simp; omega
    have e9 : (k == 9) = false := by simp; omega
    clear h
    go_enter Tryz.func52, Tryz.ntmps52
    go_wp2
    go_ret
    exact ⟨by rw [Hm.out]; rfl, rfl⟩
/-! The document's Compare of layer 1. -/
def RNdAt (w : World) (b : Nat) (n : Nd) : Prop := w.heap[b]? = some (.cells #[.int .i64 n.kind, .int .u64 n.n, .int .i64 n.a, .int .i64 n.b, .int .i64 n.c] 65 (0, 0))
theorem RNdAt.below {w w' : World} {b : Nat} {n : Nd} (h : RNdAt w b n) (u : Below w.heap.size w w') : RNdAt w' b n := (u.block b (lt_of_heap h)).trans h
theorem RNdAt.cells {w : World} {b : Nat} {n : Nd} (h : RNdAt w b n) : w.cell? ⟨b, 0, none⟩ = some (.int .i64 n.kind) ∧ w.cell? ⟨b, 1, none⟩ = some (.int .u64 n.n) ∧ w.cell? ⟨b, 2, none⟩ = some (.int .i64 n.a) ∧ w.cell? ⟨b, 3, none⟩ = some (.int .i64 n.b) ∧ w.cell? ⟨b, 4, none⟩ = some (.int .i64 n.c) :=
  ⟨cell_of_heap h, cell_of_heap h, cell_of_heap h, cell_of_heap h, cell_of_heap h⟩
def RBox (w : World) (b : Nat) (A : Ar) (g cap : Nat) : Prop := w.heap[b]? = some (.cells #[.int .i64 A.limit, .slice (some ⟨g, 0, none⟩) A.l.length cap] 27 (0, 0))
theorem RBox.below {w w' : World} {b : Nat} {A : Ar} {g cap : Nat} (h : RBox w b A g cap) (u : Below w.heap.size w w') : RBox w' b A g cap := (u.block b (lt_of_heap h)).trans h
theorem RBox.cells {w : World} {b : Nat} {A : Ar} {g cap : Nat} (h : RBox w b A g cap) : w.cell? ⟨b, 0, none⟩ = some (.int .i64 A.limit) ∧ w.cell? ⟨b, 1, none⟩ = some (.slice (some ⟨g, 0, none⟩) A.l.length cap) := ⟨cell_of_heap h, cell_of_heap h⟩

def RCmpPost (l : List Nd) (f : Nat) (x y : Int) (w : World) (e : Ending) (w' : World) : Prop := e = .returned (.int .i64 (cmpF f l x y)) ∧ Below w.heap.size w w'
/-- The parts, one behind the other. -/
def zeroTo (f : Nat) (l : List Nd) (n m : Nd) (k : Nat) : Prop := ∀ j, j < k → cmpF f l (n.part j) (m.part j) = 0
theorem chain_hit {f : Nat} {l : List Nd} {n m : Nd} {k : Nat} (hk : k < 3) (hz : zeroTo f l n m k) (hne : cmpF f l (n.part k) (m.part k) ≠ 0) :
    (if cmpF f l n.a m.a ≠ 0 then cmpF f l n.a m.a else if cmpF f l n.b m.b ≠ 0 then cmpF f l n.b m.b else cmpF f l n.c m.c) = cmpF f l (n.part k) (m.part k) := by
  match k, hk with
  | 0, _ => exact if_pos hne
  | 1, _ =>
    have h0 : cmpF f l n.a m.a = 0 := hz 0 (by omega)
    rw [if_neg (by simp [h0])]; exact if_pos hne
  | 2, _ =>
    have h0 : cmpF f l n.a m.a = 0 := hz 0 (by omega)
    have h1 : cmpF f l n.b m.b = 0 := hz 1 (by omega)
    rw [if_neg (by simp [h0]), if_neg (by simp [h1])]; rfl
theorem chain_miss {f : Nat} {l : List Nd} {n m : Nd} (hz : zeroTo f l n m 3) :
    (if cmpF f l n.a m.a ≠ 0 then cmpF f l n.a m.a else if cmpF f l n.b m.b ≠ 0 then cmpF f l n.b m.b else cmpF f l n.c m.c) = 0 := by
  have h0 : cmpF f l n.a m.a = 0 := hz 0 (by omega)
  have h1 : cmpF f l n.b m.b = 0 := hz 1 (by omega)
  have h2 : cmpF f l n.c m.c = 0 := hz 2 (by omega)
  rw [if_neg (by simp [h0]), if_neg (by simp [h1]), h2]
theorem part_lt {n : Nd} {x : Int} (h : n.a < x ∧ n.b < x ∧ n.c < x) (k : Nat) : n.part k < x := by
  unfold Nd.part
  split
  · exact h.1
  · split
    · exact h.2.1
    · exact h.2.2
theorem ret_int' {k : IntKind} {a b : Int} (h : a = b) : Ending.returned (.int k a) = .returned (.int k b) := by rw [h]
theorem cmp_cases {f : Nat} {l : List Nd} {x y : Int} {n m : Nd} (hne : x ≠ y) (hx : has l x = true) (hy : has l y = true) (hn : nd l x = n) (hm : nd l y = m) :
    ((n.kind != m.kind) = true ∧ decide (n.kind < m.kind) = true ∧ cmpF (f + 1) l x y = -1) ∨ ((n.kind != m.kind) = true ∧ decide (n.kind < m.kind) = false ∧ cmpF (f + 1) l x y = 1) ∨
    ((n.kind != m.kind) = false ∧ (n.n != m.n) = true ∧ decide (n.n < m.n) = true ∧ cmpF (f + 1) l x y = -1) ∨ ((n.kind != m.kind) = false ∧ (n.n != m.n) = true ∧ decide (n.n < m.n) = false ∧ cmpF (f + 1) l x y = 1) ∨
    ((n.kind != m.kind) = false ∧ (n.n != m.n) = false ∧ n.kind = m.kind ∧ n.n = m.n) := by
  have ht := cmpF_top (f := f) hne hx hy hn hm
  by_cases hk : n.kind = m.kind
  · by_cases h2 : n.n = m.n
    · exact .inr (.inr (.inr (.inr ⟨by simp [hk], by simp [h2], hk, h2⟩)))
    · by_cases h3 : n.n < m.n
      · refine .inr (.inr (.inl ⟨by simp [hk], by simp [h2], decide_eq_true h3, ?_⟩))
        rw [ht]; simp [cmp2, hk, h3]
      · refine .inr (.inr (.inr (.inl ⟨by simp [hk], by simp [h2], decide_eq_false h3, ?_⟩)))
        have h4 : m.n < n.n := by omega
        rw [ht]; simp [cmp2, hk, h3, h4]
  · by_cases h3 : n.kind < m.kind
    · refine .inl ⟨by simp [hk], decide_eq_true h3, ?_⟩
      rw [ht]; simp [cmp2, h3]
    · refine .inr (.inl ⟨by simp [hk], decide_eq_false h3, ?_⟩)
      have h4 : m.kind < n.kind := by omega
      rw [ht]; simp [cmp2, h3, h4]
set_option maxHeartbeats 3200000 in
set_option maxRecDepth 100000 in
theorem rcompare_both {A : Ar} {g cap f : Nat} (ih : ∀ (x y : Int) (w : World), RefAt w g cap A.l → (has A.l x = true → has A.l y = true → x ≠ y → x.toNat < f) → 0 < f → Calls Tryz.prog 91 #[refV A g cap, .int .i64 x, .int .i64 y] w (RCmpPost A.l f x y w))
    {x y : Int} {w : World} (hr : RefAt w g cap A.l) (hwf : Wf A.l) (hm : A.l.length ≤ 65536) (hne : x ≠ y) (hx : has A.l x = true) (hy : has A.l y = true) (hf : x.toNat < f + 1) :
    Calls Tryz.prog 91 #[refV A g cap, .int .i64 x, .int .i64 y] w (RCmpPost A.l (f + 1) x y w) := by
  have Ih := Lib.hid ih
  have Hr := Lib.hid hr
  have Hd := Lib.hid (hwf.down hx hy hne)
  have Hne := Lib.hid hne
  clear ih hr hwf
  have hxy : (x == y) = false := by simp [hne]
  clear hne
  have hv : refV A g cap = .agg #[.int .i64 A.limit, .slice (some ⟨g, 0, none⟩) A.l.length cap] := rfl
  rw [hv]
  clear hv
  go_enter Tryz.func91, Tryz.ntmps91
  go_wp2_with fail
  refine (rHas_calls A g cap x _).mono ?_
  rintro e w1 ⟨rfl, hb1⟩
  have hbw1 : Below w.heap.size w w1 := below_call ((Below.refl _ _).alloc (Nat.le_refl _) _) hb1
  have bx1 : RBox w1 w.heap.size A g cap := (hb1.block w.heap.size (by simp)).trans (new_at rfl)
  rw [hx]
  obtain ⟨b0, b1⟩ := bx1.cells
  have lb := lt_of_heap bx1
  clear hb1
  go_wp2_with (go_quiet (fail))
  refine (rHas_calls A g cap y _).mono ?_
  rintro e w2 ⟨rfl, hb2⟩
  have hbw2 := below_call hbw1 hb2
  have bx2 := bx1.below hb2
  clear hbw1 hb2 bx1 b0 b1 lb
  rw [hy]
  obtain ⟨b0, b1⟩ := bx2.cells
  have lb := lt_of_heap bx2
  have hgx := (Hr.out.below hbw2).node (getElem?_of_has hx)
  have hgy := (Hr.out.below hbw2).node (getElem?_of_has hy)
  have hx0 := has_iff.1 hx
  have hy0 := has_iff.1 hy
  have Hx := Lib.hid hx
  have Hy := Lib.hid hy
  clear hx hy
  generalize hnn : nd A.l x = n at *
  generalize hmm : nd A.l y = m at *
  have Hn := Lib.hid hnn
  have Hm := Lib.hid hmm
  clear hnn hmm
  obtain ⟨kx, rfl⟩ := Int.eq_ofNat_of_zero_le hx0.1
  obtain ⟨ky, rfl⟩ := Int.eq_ofNat_of_zero_le hy0.1
  rw [Int.toNat_natCast] at *
  obtain ⟨gx0, gx1, gx2, gx3, gx4⟩ := hgx
  obtain ⟨gy0, gy1, gy2, gy3, gy4⟩ := hgy
  have lg := World.block_lt_of_cell? w2 _ gx0
  have ix : (kx : Int) < A.l.length := by omega
  have iy : (ky : Int) < A.l.length := by omega
  have Hcs := Lib.hid (cmp_cases (f := f) Hne.out Hx.out Hy.out Hn.out Hm.out)
  have hb4 : ∀ o1 o2 : Obj, Below w.heap.size w ((w2.alloc o1).alloc o2) := fun o1 o2 => (hbw2.alloc hbw2.size o1).alloc (by have := hbw2.size; simp; omega) o2
  have Hb4 := Lib.hid hb4
  clear hb4
  rcases Hcs.out with ⟨d1, d2, hV⟩ | ⟨d1, d2, hV⟩ | ⟨d1, d2, d3, hV⟩ | ⟨d1, d2, d3, hV⟩ | ⟨d1, d2, hk, hn⟩
  · have HV := Lib.hid hV
    clear hV Hcs
    go_wp2_with (go_quiet (fail))
    go_ret
    exact ⟨ret_int' HV.out.symm, Hb4.out _ _⟩
  · have HV := Lib.hid hV
    clear hV Hcs
    go_wp2_with (go_quiet (fail))
    go_ret
    exact ⟨ret_int' HV.out.symm, Hb4.out _ _⟩
  · have HV := Lib.hid hV
    clear hV Hcs
    go_wp2_with (go_quiet (fail))
    go_ret
    exact ⟨ret_int' HV.out.symm, Hb4.out _ _⟩
  · have HV := Lib.hid hV
    clear hV Hcs
    go_wp2_with (go_quiet (fail))
    go_ret
    exact ⟨ret_int' HV.out.symm, Hb4.out _ _⟩
  · have hdown := Hd.out hk
    have hf0 : 0 < f := by omega
    have HV := Lib.hid (cmpF_deep (f := f) Hne.out Hx.out Hy.out Hn.out Hm.out (by simp [cmp2, hk]) (by simp [cmp2, hn]))
    have Hlt := Lib.hid (show ∀ k, n.part k < (kx : Int) from part_lt ⟨hdown.2.1, hdown.2.2.1, hdown.2.2.2.1⟩)
    clear Hcs Hd hdown hk hn
    go_wp2_with (go_quiet (fail))
    have np : RNdAt ((w2.alloc (.cells #[.int .i64 n.kind, .int .u64 n.n, .int .i64 n.a, .int .i64 n.b, .int .i64 n.c] 65)).alloc (.cells #[.int .i64 m.kind, .int .u64 m.n, .int .i64 m.a, .int .i64 m.b, .int .i64 m.c] 65)) w2.heap.size n := (two_new w2 _ _).1
    have nq : RNdAt ((w2.alloc (.cells #[.int .i64 n.kind, .int .u64 n.n, .int .i64 n.a, .int .i64 n.b, .int .i64 n.c] 65)).alloc (.cells #[.int .i64 m.kind, .int .u64 m.n, .int .i64 m.a, .int .i64 m.b, .int .i64 m.c] 65)) (w2.heap.size + 1) m := (two_new w2 _ _).2
    have bx := (bx2.below (below2 w2 (.cells #[.int .i64 n.kind, .int .u64 n.n, .int .i64 n.a, .int .i64 n.b, .int .i64 n.c] 65) (.cells #[.int .i64 m.kind, .int .u64 m.n, .int .i64 m.a, .int .i64 m.b, .int .i64 m.c] 65)))
    have hbw := Hb4.out (.cells #[.int .i64 n.kind, .int .u64 n.n, .int .i64 n.a, .int .i64 n.b, .int .i64 n.c] 65) (.cells #[.int .i64 m.kind, .int .u64 m.n, .int .i64 m.a, .int .i64 m.b, .int .i64 m.c] 65)
    generalize (w2.alloc (.cells #[.int .i64 n.kind, .int .u64 n.n, .int .i64 n.a, .int .i64 n.b, .int .i64 n.c] 65)).alloc (.cells #[.int .i64 m.kind, .int .u64 m.n, .int .i64 m.a, .int .i64 m.b, .int .i64 m.c] 65) = wS at *
    clear gx0 gx1 gx2 gx3 gx4 gy0 gy1 gy2 gy3 gy4 lg ix iy b0 b1 lb Hb4 bx2 hbw2 d1 d2 hx0 hy0
    generalize w2.heap.size = p at *
    generalize hq : p + 1 = q at *
    have Np := Lib.hid np
    have Nq := Lib.hid nq
    have Bx := Lib.hid bx
    clear np nq bx hq
    go_loopw [9] (fun i wr => ∃ k : Nat, k ≤ 3 ∧ i = .int .i64 k ∧ zeroTo f A.l n m k ∧ Below wS.heap.size wS wr)
      (fun i _ => (3 - intOf i).toNat)
    case atStart => exact ⟨0, by omega, rfl, fun j hj => absurd hj (Nat.not_lt_zero _), Below.refl _ _⟩
    case round =>
      obtain ⟨k, hk, rfl, hz, hbr⟩ := hrel
      have HZ := Lib.hid hz
      clear hz
      by_cases hlt : k < 3
      · have np := Np.out.below hbr
        have nq := Nq.out.below hbr
        have bx := Bx.out.below hbr
        have Nr := Lib.hid (And.intro np (And.intro nq bx))
        obtain ⟨p0, p1, p2, p3, p4⟩ := np.cells
        obtain ⟨q0, q1, q2, q3, q4⟩ := nq.cells
        obtain ⟨b0, b1⟩ := bx.cells
        clear np nq bx
        have hrr : Below wr.heap.size wr wr := Below.refl _ _
        go_upto_region 20 with fail
        go_cut [10] (fun s wx => s = .int .i64 (cmpF f A.l (n.part k) (m.part k)) ∧ Below wr.heap.size wr wx)
        case first =>
          go_region_held3 (fun w' => Below wr.heap.size wr w' ∧ w'.cell? ⟨p, 0, none⟩ = some (.int .i64 n.kind) ∧ w'.cell? ⟨p, 1, none⟩ = some (.int .u64 n.n) ∧ w'.cell? ⟨p, 2, none⟩ = some (.int .i64 n.a) ∧ w'.cell? ⟨p, 3, none⟩ = some (.int .i64 n.b) ∧ w'.cell? ⟨p, 4, none⟩ = some (.int .i64 n.c) ∧
              w'.cell? ⟨q, 0, none⟩ = some (.int .i64 m.kind) ∧ w'.cell? ⟨q, 1, none⟩ = some (.int .u64 m.n) ∧ w'.cell? ⟨q, 2, none⟩ = some (.int .i64 m.a) ∧ w'.cell? ⟨q, 3, none⟩ = some (.int .i64 m.b) ∧ w'.cell? ⟨q, 4, none⟩ = some (.int .i64 m.c) ∧ w'.cell? ⟨w.heap.size, 0, none⟩ = some (.int .i64 A.limit) ∧ w'.cell? ⟨w.heap.size, 1, none⟩ = some (.slice (some ⟨g, 0, none⟩) A.l.length cap))
            (first | (refine ⟨(by first | assumption | exact Below.drew (by assumption)), ?_⟩; go_keep))
            (first
              | (go_at_call 90; refine (rPart_calls _ k _).mono ?_; rintro e w5 ⟨rfl, hb5⟩
                 have hx5 : Below wr.heap.size wr w5 := below_call (by first | assumption | exact Below.drew (by assumption)) hb5
                 obtain ⟨p0, p1, p2, p3, p4⟩ := (Nr.out.1.below hx5).cells
                 obtain ⟨q0, q1, q2, q3, q4⟩ := (Nr.out.2.1.below hx5).cells
                 obtain ⟨b0, b1⟩ := (Nr.out.2.2.below hx5).cells)
              | (go_at_call 91; refine (Ih.out (n.part k) (m.part k) _ (Hr.out.below (below_call hbw (below_call hbr (by first | assumption | exact Below.drew (by assumption))))) (fun _ _ _ => by have := Hlt.out k; omega) hf0).mono ?_; rintro e w7 ⟨rfl, hb7⟩
                 have hx7 : Below wr.heap.size wr w7 := below_call (by first | assumption | exact Below.drew (by assumption)) hb7
                 obtain ⟨p0, p1, p2, p3, p4⟩ := (Nr.out.1.below hx7).cells
                 obtain ⟨q0, q1, q2, q3, q4⟩ := (Nr.out.2.1.below hx7).cells
                 obtain ⟨b0, b1⟩ := (Nr.out.2.2.below hx7).cells))
          all_goals go_wp2_with fail
          all_goals go_meet
          all_goals exact ⟨rfl, by assumption⟩
        case rest =>
          obtain ⟨rfl, hbx⟩ := hcut
          have hbr2 := below_call hbr hbx
          clear p0 p1 p2 p3 p4 q0 q1 q2 q3 q4 b0 b1
          by_cases hv : cmpF f A.l (n.part k) (m.part k) = 0
          · have HZ2 := Lib.hid (show zeroTo f A.l n m (k + 1) from fun j hj => by
              by_cases hjk : j < k
              · exact HZ.out j hjk
              · rw [show j = k by omega]; exact hv)
            rw [hv]
            clear hv HZ
            go_wp2_with fail
            refine ⟨⟨k + 1, by omega, by simp, HZ2.out, hbr2⟩, ?_⟩
            simp only [intOf]; omega
          · have HV2 := Lib.hid (HV.out.trans (chain_hit hlt HZ.out hv))
            have hv1 : (cmpF f A.l (n.part k) (m.part k) != 0) = true := by simp [hv]
            clear HV HZ hv
            generalize cmpF f A.l (n.part k) (m.part k) = v at *
            go_wp2_with fail
            go_ret
            exact ⟨ret_int' HV2.out.symm, below_call hbw hbr2⟩
      · obtain rfl : k = 3 := by omega
        have HV2 := Lib.hid (HV.out.trans (chain_miss HZ.out))
        clear HV HZ
        go_wp2_with fail
        go_ret
        exact ⟨ret_int' HV2.out.symm, below_call hbw hbr⟩
set_option maxHeartbeats 3200000 in
set_option maxRecDepth 100000 in
theorem rcompare_other {A : Ar} {g cap f : Nat} {x y : Int} {w : World} (h : x = y ∨ (has A.l x && has A.l y) = false) :
    Calls Tryz.prog 91 #[refV A g cap, .int .i64 x, .int .i64 y] w (RCmpPost A.l (f + 1) x y w) := by
  by_cases hxy0 : x = y
  · subst hxy0
    have Hc := Lib.hid (show cmpF (f + 1) A.l x x = 0 by simp [cmpF])
    have hxy : (x == x) = true := by simp
    unfold refV
    go_enter Tryz.func91, Tryz.ntmps91
    go_wp2_with fail
    go_ret
    exact ⟨ret_int' Hc.out.symm, (Below.refl _ _).alloc (Nat.le_refl _) _⟩
  · have hno : (has A.l x && has A.l y) = false := h.resolve_left hxy0
    have hxy : (x == y) = false := by simp [hxy0]
    have hc : cmpF (f + 1) A.l x y = if has A.l x ≠ has A.l y then (if has A.l x then -1 else 1) else cmp2 x y := by simp [cmpF, hxy0, hno]
    have hv : refV A g cap = .agg #[.int .i64 A.limit, .slice (some ⟨g, 0, none⟩) A.l.length cap] := rfl
    rw [hv]
    clear hv h
    cases hx : has A.l x with
    | true =>
      have hy : has A.l y = false := by rw [hx] at hno; simpa using hno
      have Hc := Lib.hid (show cmpF (f + 1) A.l x y = -1 by rw [hc]; simp [hx, hy])
      clear hc hno hxy0
      go_enter Tryz.func91, Tryz.ntmps91
      go_wp2_with fail
      refine (rHas_calls A g cap x _).mono ?_
      rintro e w1 ⟨rfl, hb1⟩
      have hbw1 : Below w.heap.size w w1 := below_call ((Below.refl _ _).alloc (Nat.le_refl _) _) hb1
      have bx1 : RBox w1 w.heap.size A g cap := (hb1.block w.heap.size (by simp)).trans (new_at rfl)
      rw [hx]
      obtain ⟨b0, b1⟩ := bx1.cells
      have lb := lt_of_heap bx1
      clear hb1
      go_wp2_with fail
      refine (rHas_calls A g cap y _).mono ?_
      rintro e w2 ⟨rfl, hb2⟩
      have hbw2 := below_call hbw1 hb2
      have bx2 := bx1.below hb2
      clear hbw1 hb2 bx1 b0 b1 lb
      rw [hy]
      obtain ⟨b0, b1⟩ := bx2.cells
      have lb := lt_of_heap bx2
      go_wp2_with fail
      refine (rHas_calls A g cap x _).mono ?_
      rintro e w3 ⟨rfl, hb3⟩
      have hbw3 := below_call hbw2 hb3
      rw [hx]
      have bx3 := bx2.below hb3
      clear b0 b1 lb bx2 hb3
      obtain ⟨b0, b1⟩ := bx3.cells
      have lb := lt_of_heap bx3
      clear bx3
      go_wp2_with fail
      go_ret
      exact ⟨ret_int' Hc.out.symm, hbw3⟩
    | false =>
      cases hy : has A.l y with
      | true =>
        have Hc := Lib.hid (show cmpF (f + 1) A.l x y = 1 by rw [hc]; simp [hx, hy])
        clear hc hno hxy0
        go_enter Tryz.func91, Tryz.ntmps91
        go_wp2_with fail
        refine (rHas_calls A g cap x _).mono ?_
        rintro e w1 ⟨rfl, hb1⟩
        have hbw1 : Below w.heap.size w w1 := below_call ((Below.refl _ _).alloc (Nat.le_refl _) _) hb1
        have bx1 : RBox w1 w.heap.size A g cap := (hb1.block w.heap.size (by simp)).trans (new_at rfl)
        rw [hx]
        obtain ⟨b0, b1⟩ := bx1.cells
        have lb := lt_of_heap bx1
        clear hb1
        go_wp2_with fail
        refine (rHas_calls A g cap x _).mono ?_
        rintro e w2 ⟨rfl, hb2⟩
        have hbw2 := below_call hbw1 hb2
        have bx2 := bx1.below hb2
        clear hbw1 hb2 bx1 b0 b1 lb
        rw [hx]
        obtain ⟨b0, b1⟩ := bx2.cells
        have lb := lt_of_heap bx2
        go_wp2_with fail
        refine (rHas_calls A g cap y _).mono ?_
        rintro e w3 ⟨rfl, hb3⟩
        have hbw3 := below_call hbw2 hb3
        rw [hy]
        have bx3 := bx2.below hb3
        clear b0 b1 lb bx2 hb3
        obtain ⟨b0, b1⟩ := bx3.cells
        have lb := lt_of_heap bx3
        clear bx3
        go_wp2_with fail
        go_ret
        exact ⟨ret_int' Hc.out.symm, hbw3⟩
      | false =>
        have Hc := Lib.hid (show cmpF (f + 1) A.l x y = cmp2 x y by rw [hc]; simp [hx, hy])
        have hd : (decide (x < y) = true ∧ cmp2 x y = -1) ∨ (decide (x < y) = false ∧ cmp2 x y = 1) := by
          by_cases hlt : x < y
          · exact .inl ⟨decide_eq_true hlt, by simp [cmp2, hlt]⟩
          · have : y < x := by omega
            exact .inr ⟨decide_eq_false hlt, by simp [cmp2, hlt, this]⟩
        have Hd := Lib.hid hd
        clear hc hno hxy0 hd
        go_enter Tryz.func91, Tryz.ntmps91
        go_wp2_with fail
        refine (rHas_calls A g cap x _).mono ?_
        rintro e w1 ⟨rfl, hb1⟩
        have hbw1 : Below w.heap.size w w1 := below_call ((Below.refl _ _).alloc (Nat.le_refl _) _) hb1
        have bx1 : RBox w1 w.heap.size A g cap := (hb1.block w.heap.size (by simp)).trans (new_at rfl)
        rw [hx]
        obtain ⟨b0, b1⟩ := bx1.cells
        have lb := lt_of_heap bx1
        clear hb1
        go_wp2_with fail
        refine (rHas_calls A g cap x _).mono ?_
        rintro e w2 ⟨rfl, hb2⟩
        have hbw2 := below_call hbw1 hb2
        have bx2 := bx1.below hb2
        clear hbw1 hb2 bx1 b0 b1 lb
        rw [hx]
        obtain ⟨b0, b1⟩ := bx2.cells
        have lb := lt_of_heap bx2
        go_wp2_with fail
        refine (rHas_calls A g cap y _).mono ?_
        rintro e w3 ⟨rfl, hb3⟩
        have hbw3 := below_call hbw2 hb3
        rw [hy]
        have bx3 := bx2.below hb3
        clear b0 b1 lb bx2 hb3
        obtain ⟨b0, b1⟩ := bx3.cells
        have lb := lt_of_heap bx3
        clear bx3
        rcases Hd.out with ⟨hd, hcv⟩ | ⟨hd, hcv⟩
        · have Hc2 := Lib.hid (Hc.out.trans hcv)
          clear hcv Hc
          go_wp2_with fail
          go_ret
          exact ⟨ret_int' Hc2.out.symm, hbw3⟩
        · have Hc2 := Lib.hid (Hc.out.trans hcv)
          clear hcv Hc
          go_wp2_with fail
          go_ret
          exact ⟨ret_int' Hc2.out.symm, hbw3⟩
theorem rcompare_calls {A : Ar} {g cap : Nat} (hwf : Wf A.l) (hm : A.l.length ≤ 65536) : ∀ (f : Nat) (x y : Int) (w : World), RefAt w g cap A.l → (has A.l x = true → has A.l y = true → x ≠ y → x.toNat < f) → 0 < f →
    Calls Tryz.prog 91 #[refV A g cap, .int .i64 x, .int .i64 y] w (RCmpPost A.l f x y w)
  | 0, _, _, _, _, _, h => absurd h (Nat.lt_irrefl _)
  | f + 1, x, y, w, hr, hc, _ => by
    by_cases h : x = y ∨ (has A.l x && has A.l y) = false
    · exact rcompare_other h
    · have hx : has A.l x = true := by cases hx : has A.l x <;> simp_all
      have hy : has A.l y = true := by cases hy : has A.l y <;> simp_all
      have hne : x ≠ y := fun e => h (.inl e)
      exact rcompare_both (rcompare_calls hwf hm f) hr hwf hm hne hx hy (hc hx hy hne)
theorem rcmp_calls {A : Ar} {g cap : Nat} (x y : Int) {w : World} (hwf : Wf A.l) (hm : A.l.length ≤ 65536) (hr : RefAt w g cap A.l) :
    Calls Tryz.prog 91 #[refV A g cap, .int .i64 x, .int .i64 y] w fun e w' => e = .returned (.int .i64 (cmpA A.l x y)) ∧ Below w.heap.size w w' :=
  rcompare_calls hwf hm (A.l.length + 1) x y w hr (fun hx _ _ => by have := has_iff.1 hx; omega) (by omega)
end Go.Proofs.YtfelbecofbdeaaaGreatDoor
