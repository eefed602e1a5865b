/- Packed by packn.py: Term3, NdKey. -/
import Derived.Test.YtikimmgileffgaaGreatDoorQk03
import Derived.Test.YtikimmgileffgaaGreatDoorQk01
import Derived.Deep.RegionHeld3
import Derived.Deep.CutBlock
import Derived.Deep.DeepCutAuto
import Derived.Test.YtikimmgileffgaaGreatDoorQk02
/- Compare of layer 1: it only reads. -/
section
namespace Go.Proofs.YtikimmgileffgaaGreatDoor
open Go.RowKit

def or2 (x y : Int) : Int := if x ≠ 0 then x else y
theorem or2_zero {x y : Int} (h : or2 x y = 0) : x = 0 ∧ y = 0 := by
  unfold or2 at h; split at h <;> simp_all
set_option maxHeartbeats 800000 in
theorem or2_calls {x y : Int} {b c : Nat} {w : World} (h0 : w.cell? ⟨b, 0, none⟩ = some (.int .i64 x)) (h1 : w.cell? ⟨b, 1, none⟩ = some (.int .i64 y)) :
    Calls Tryz.prog 182 #[.slice (some ⟨b, 0, none⟩) 2 c] w fun e w' => e = .returned (.int .i64 (or2 x y)) ∧ w = w' := by
  go_enter Tryz.func182, Tryz.ntmps182
  go_wp2
  refine wp_loop_rounds 3 ?_
  repeat any_goals (rw [rounds_succ]; go_wp2)
  all_goals go_ret
  all_goals refine ⟨ret_int ?_, rfl⟩
  all_goals unfold or2
  all_goals simp_all
theorem index3 (a b c : Value) (w : World) : (Instr.index 238 (.agg #[a, b, c]) (.int .i64 0)).run Tryz.prog w = .ok a w ∧ (Instr.index 238 (.agg #[a, b, c]) (.int .i64 1)).run Tryz.prog w = .ok b w ∧ (Instr.index 238 (.agg #[a, b, c]) (.int .i64 2)).run Tryz.prog w = .ok c w :=
  ⟨by kernel_rfl, by kernel_rfl, by kernel_rfl⟩
/-- A node lies at block b. -/
def NdAt (w : World) (b : Nat) (n : Nd) : Prop := w.heap[b]? = some (.cells #[.int .i64 n.kind, .int .u64 n.n, .int .i64 n.a, .int .i64 n.b, .int .i64 n.c] 103 (0, 0))
theorem NdAt.below {w w' : World} {b : Nat} {n : Nd} (h : NdAt w b n) (u : Below w.heap.size w w') : NdAt w' b n := (u.block b (lt_of_heap h)).trans h
theorem NdAt.cells {w : World} {b : Nat} {n : Nd} (h : NdAt w b n) : w.cell? ⟨b, 0, none⟩ = some (.int .i64 n.kind) ∧ w.cell? ⟨b, 1, none⟩ = some (.int .u64 n.n) ∧ w.cell? ⟨b, 2, none⟩ = some (.int .i64 n.a) ∧ w.cell? ⟨b, 3, none⟩ = some (.int .i64 n.b) ∧ w.cell? ⟨b, 4, none⟩ = some (.int .i64 n.c) :=
  ⟨cell_of_heap h, cell_of_heap h, cell_of_heap h, cell_of_heap h, cell_of_heap h⟩
def CmpPost (l : List Nd) (f : Nat) (x y : Int) (w : World) (e : Ending) (w' : World) : Prop := e = .returned (.int .i64 (cmpF f l x y)) ∧ Below w.heap.size w w'
set_option maxHeartbeats 3200000 in
set_option maxRecDepth 100000 in
theorem compare_both {S : Nat → Prop} {r : Nat} {R : Ar} {f : Nat} (ih : ∀ (x y : Int) (w : World), IsArena w r R S → (has R.l x = true → has R.l y = true → x ≠ y → x.toNat < f) → 0 < f → Calls Tryz.prog 150 #[.pointer (some ⟨r, 0, none⟩), .int .i64 x, .int .i64 y] w (CmpPost R.l f x y w))
    {x y : Int} {w : World} (hr : IsArena w r R S) (hne : x ≠ y) (hx : has R.l x = true) (hy : has R.l y = true) (hf : x.toNat < f + 1) :
    Calls Tryz.prog 150 #[.pointer (some ⟨r, 0, none⟩), .int .i64 x, .int .i64 y] w (CmpPost R.l (f + 1) x y w) := by
  have Ih := Lib.hid ih
  clear ih
  have hxy : (x == y) = false := by simp [hne]
  go_enter Tryz.func150, Tryz.ntmps150
  go_wp2_with fail
  with_reducible refine (has_two (x := x) (y := y) (hr.below ((Below.refl _ _).alloc (Nat.le_refl _) _)) (by go_simp) (by go_simp)).mono ?_
  rintro e w1 ⟨rfl, hb1⟩
  have hb2 : Below w.heap.size w w1 := ((Below.refl _ _).alloc (Nat.le_refl _) _).trans (hb1.mono (by simp))
  have hr1 := hr.below hb2
  obtain ⟨g, cap, bm, h0, h1, h2, hn⟩ := hr1.cells
  have hgx := hn x.toNat (nd R.l x) (getElem?_of_has hx)
  have hgy := hn y.toNat (nd R.l y) (getElem?_of_has hy)
  have hx0 := has_iff.1 hx
  have hy0 := has_iff.1 hy
  have Hr := Lib.hid hr
  have Hd := Lib.hid (hr.wf.down hx hy hne)
  clear hn hb1 hr
  rw [hx, hy]
  have hxy' := hne
  generalize hnn : nd R.l x = n at *
  generalize hmm : nd R.l y = m at *
  have Hn := Lib.hid hnn
  have Hm := Lib.hid hmm
  clear hnn hmm
  obtain ⟨kx, rfl⟩ := Int.eq_ofNat_of_zero_le hx0.1
  obtain ⟨ky, rfl⟩ := Int.eq_ofNat_of_zero_le hy0.1
  rw [Int.toNat_natCast] at *
  obtain ⟨gx0, gx1, gx2, gx3, gx4⟩ := hgx
  obtain ⟨gy0, gy1, gy2, gy3, gy4⟩ := hgy
  have lg := World.block_lt_of_cell? w1 _ gx0
  have lr := World.block_lt_of_cell? w1 _ h1
  have ix : (kx : Int) < R.l.length := by omega
  have iy : (ky : Int) < R.l.length := by omega
  go_upto_region 7 with fail
  go_cut [7, 8] (fun s7 s8 wx => ∃ p q : Nat, s7 = .pointer (some ⟨p, 0, none⟩) ∧ s8 = .pointer (some ⟨q, 0, none⟩) ∧ w.heap.size ≤ p ∧ w.heap.size ≤ q ∧ NdAt wx p n ∧ NdAt wx q m ∧ Below w.heap.size w wx)
  case first =>
    go_region_held3 (fun w' => w'.cell? ⟨r, 1, none⟩ = some (.slice (some ⟨g, 0, none⟩) R.l.length cap) ∧ w'.cell? ⟨g, kx * 5, none⟩ = some (.int .i64 n.kind) ∧ w'.cell? ⟨g, kx * 5 + 1, none⟩ = some (.int .u64 n.n) ∧ w'.cell? ⟨g, kx * 5 + 2, none⟩ = some (.int .i64 n.a) ∧ w'.cell? ⟨g, kx * 5 + 3, none⟩ = some (.int .i64 n.b) ∧ w'.cell? ⟨g, kx * 5 + 4, none⟩ = some (.int .i64 n.c) ∧
       w'.cell? ⟨g, ky * 5, none⟩ = some (.int .i64 m.kind) ∧ w'.cell? ⟨g, ky * 5 + 1, none⟩ = some (.int .u64 m.n) ∧ w'.cell? ⟨g, ky * 5 + 2, none⟩ = some (.int .i64 m.a) ∧ w'.cell? ⟨g, ky * 5 + 3, none⟩ = some (.int .i64 m.b) ∧ w'.cell? ⟨g, ky * 5 + 4, none⟩ = some (.int .i64 m.c))
      (first | go_keep)
      ((fail))
    all_goals go_wp2_with fail
    all_goals go_meet
    all_goals refine ⟨_, _, rfl, rfl, ?_, ?_, ?_, ?_, below_two hb2 hb2.size _ _⟩
    all_goals first | exact (two_new w1 _ _).1 | exact (two_new w1 _ _).2 | (have := hb2.size; omega)
  case rest =>
    obtain ⟨p, q, rfl, rfl, hp, hq, np, nq, hbc⟩ := hcut
    clear gx0 gx1 gx2 gx3 gx4 gy0 gy1 gy2 gy3 gy4 lg lr ix iy h0 h1 h2 hb2 hr1
    have p0 := cell_of_heap (o := 0) np
    have p1 := cell_of_heap (o := 1) np
    have q0 := cell_of_heap (o := 0) nq
    have q1 := cell_of_heap (o := 1) nq
    simp only [List.getElem?_toArray, List.getElem?_cons_zero, List.getElem?_cons_succ] at p0 p1 q0 q1
    have lp := lt_of_heap np
    have lq := lt_of_heap nq
    have Np := Lib.hid np
    have Nq := Lib.hid nq
    clear np nq
    go_upto_region 8 with fail
    go_cut [9] (fun s9 wx => s9 = .int .i64 (or2 (cmp2 n.kind m.kind) (cmp2 n.n m.n)) ∧ Below wc.heap.size wc wx)
    case first =>
      go_region_held3 (fun w' => w'.cell? ⟨p, 0, none⟩ = some (.int .i64 n.kind) ∧ w'.cell? ⟨p, 1, none⟩ = some (.int .u64 n.n) ∧ w'.cell? ⟨q, 0, none⟩ = some (.int .i64 m.kind) ∧ w'.cell? ⟨q, 1, none⟩ = some (.int .u64 m.n))
        (first | go_keep)
        (first
          | (go_at_call 181; with_reducible refine (cmpInt_calls _ _ _).mono ?_; rintro e w' ⟨rfl, rfl⟩)
          | (go_at_call 183; with_reducible refine (cmpU64_calls _ _ _).mono ?_; rintro e w' ⟨rfl, rfl⟩)
          | (go_at_call 182; with_reducible refine (or2_calls (x := cmp2 n.kind m.kind) (y := cmp2 n.n m.n) (by go_simp) (by go_simp)).mono ?_; rintro e w' ⟨rfl, rfl⟩))
      all_goals go_wp2_with fail
      all_goals go_meet
      all_goals exact ⟨rfl, ((Below.refl _ _).alloc (Nat.le_refl _) _).drew⟩
    case rest =>
      obtain ⟨rfl, hbx⟩ := hcut
      clear p0 p1 q0 q1
      have hbw := hbc.trans (hbx.mono hbc.size)
      have np := Np.out.below hbx
      have nq := Nq.out.below hbx
      have lp := lt_of_heap np
      have lq := lt_of_heap nq
      clear hbx hbc Np Nq
      by_cases hz : or2 (cmp2 n.kind m.kind) (cmp2 n.n m.n) = 0
      · obtain ⟨hz1, hz2⟩ := or2_zero hz
        have hk := cmp2_zero hz1
        have hd := Hd.out hk
        have Hfz := Lib.hid (cmpF_deep (f := f) hxy' hx hy Hn.out Hm.out hz1 hz2)
        clear hz1 hz2 hk Hn Hm Hd
        rw [hz]
        clear hz
        have Np := Lib.hid np
        have Nq := Lib.hid nq
        obtain ⟨-, -, p2, p3, p4⟩ := np.cells
        clear np nq
        have i0 := fun a b c w => (index3 a b c w).1
        have i1 := fun a b c w => (index3 a b c w).2.1
        have i2 := fun a b c w => (index3 a b c w).2.2
        go_wp2_with fail
        refine wp_loop_rounds 4 ?_
        rw [rounds_succ]
        obtain ⟨-, -, q2, q3, q4⟩ := Nq.out.cells
        go_wp2_with fail
        have hf0 : 0 < f := by omega
        refine (Ih.out n.a m.a _ (Hr.out.below hbw) (fun _ _ _ => by omega) hf0).mono ?_
        rintro e w2 ⟨rfl, hb2⟩
        have hbw2 := hbw.trans (hb2.mono hbw.size)
        have nq2 := Nq.out.below hb2
        clear hb2 q2 q3 q4
        obtain ⟨-, -, q2, q3, q4⟩ := nq2.cells
        generalize cmpF f R.l n.a m.a = v1 at *
        by_cases h1 : v1 = 0
        · subst h1
          go_wp2_with fail
          rw [rounds_succ]
          go_wp2_with fail
          refine (Ih.out n.b m.b _ (Hr.out.below hbw2) (fun _ _ _ => by omega) hf0).mono ?_
          rintro e w3 ⟨rfl, hb3⟩
          have hbw3 := hbw2.trans (hb3.mono hbw2.size)
          have nq3 := nq2.below hb3
          clear hb3 q2 q3 q4 nq2
          obtain ⟨-, -, q2, q3, q4⟩ := nq3.cells
          generalize cmpF f R.l n.b m.b = v2 at *
          by_cases h2 : v2 = 0
          · subst h2
            go_wp2_with fail
            rw [rounds_succ]
            go_wp2_with fail
            refine (Ih.out n.c m.c _ (Hr.out.below hbw3) (fun _ _ _ => by omega) hf0).mono ?_
            rintro e w4 ⟨rfl, hb4⟩
            have hbw4 := hbw3.trans (hb4.mono hbw3.size)
            clear hb4 q2 q3 q4 nq3
            generalize cmpF f R.l n.c m.c = v3 at *
            by_cases h3 : v3 = 0
            · subst h3
              go_wp2_with fail
              rw [rounds_succ]
              go_wp2_with fail
              go_ret
              exact ⟨ret_int (by rw [Hfz.out]; simp), hbw4⟩
            · have h3' : (v3 != 0) = true := by simp [h3]
              go_wp2_with fail
              go_ret
              exact ⟨ret_int (by rw [Hfz.out]; simp), hbw4⟩
          · have h2' : (v2 != 0) = true := by simp [h2]
            go_wp2_with fail
            go_ret
            exact ⟨ret_int (by rw [Hfz.out]; simp [h2]), hbw3⟩
        · have h1' : (v1 != 0) = true := by simp [h1]
          go_wp2_with fail
          go_ret
          exact ⟨ret_int (by rw [Hfz.out]; simp [h1]), hbw2⟩
      · have hz' : (or2 (cmp2 n.kind m.kind) (cmp2 n.n m.n) != 0) = true := by simp [hz]
        have hfz := Lib.hid (cmpF_top (f := f) hxy' hx hy Hn.out Hm.out)
        have hor := Lib.hid (show or2 (cmp2 n.kind m.kind) (cmp2 n.n m.n) = cmpF (f + 1) R.l kx ky from by
          rw [hfz.out]
          unfold or2 at *
          split at hz <;> simp_all)
        clear hfz hz np nq Hn Hm Hd
        go_wp2_with fail
        go_ret
        exact ⟨ret_int hor.out, hbw⟩

set_option maxHeartbeats 3200000 in
set_option maxRecDepth 100000 in
theorem compare_other {S : Nat → Prop} {r : Nat} {R : Ar} {f : Nat} {x y : Int} {w : World} (hr : IsArena w r R S) (h : x = y ∨ (has R.l x && has R.l y) = false) :
    Calls Tryz.prog 150 #[.pointer (some ⟨r, 0, none⟩), .int .i64 x, .int .i64 y] w (CmpPost R.l (f + 1) x y w) := by
  by_cases hxy0 : x = y
  · subst hxy0
    have hc : cmpF (f + 1) R.l x x = 0 := by simp [cmpF]
    have Hc := Lib.hid hc
    have hxy : (x == x) = true := by simp
    clear hc
    go_enter Tryz.func150, Tryz.ntmps150
    go_wp2_with fail
    go_ret
    exact ⟨ret_int Hc.out.symm, Below.refl _ _⟩
  · have hno : (has R.l x && has R.l y) = false := h.resolve_left hxy0
    have hxy : (x == y) = false := by simp [hxy0]
    have hc : cmpF (f + 1) R.l x y = if has R.l x ≠ has R.l y then (if has R.l x then -1 else 1) else cmp2 x y := by simp [cmpF, hxy0, hno]
    have Hc := Lib.hid hc
    have hmap := @run_makeMap Tryz.prog
    clear hc h
    go_enter Tryz.func150, Tryz.ntmps150
    go_wp2_with fail
    with_reducible refine (has_two (x := x) (y := y) (hr.below ((Below.refl _ _).alloc (Nat.le_refl _) _)) (by go_simp) (by go_simp)).mono ?_
    rintro e w1 ⟨rfl, hb1⟩
    have hb2 : Below w.heap.size w w1 := ((Below.refl _ _).alloc (Nat.le_refl _) _).trans (hb1.mono (by simp))
    clear hb1
    rw [hno]
    go_wp2_with fail
    with_reducible refine (has_one (x := x) (hr.below (hb2.alloc hb2.size _)) (by go_simp)).mono ?_
    rintro e w3 ⟨rfl, hb3⟩
    have hb4 : Below w.heap.size w w3 := (hb2.alloc hb2.size _).trans (hb3.mono (by have := hb2.size; simp; omega))
    clear hb3 hb2
    go_wp2_with fail
    with_reducible refine (has_one (x := y) (hr.below (hb4.alloc hb4.size _)) (by go_simp)).mono ?_
    rintro e w5 ⟨rfl, hb5⟩
    have hb6 : Below w.heap.size w w5 := (hb4.alloc hb4.size _).trans (hb5.mono (by have := hb4.size; simp; omega))
    clear hb5 hb4
    have hcase : (has R.l x = false ∧ has R.l y = false ∧ cmpF (f + 1) R.l x y = cmp2 x y) ∨ (has R.l x = true ∧ has R.l y = false ∧ cmpF (f + 1) R.l x y = -1) ∨ (has R.l x = false ∧ has R.l y = true ∧ cmpF (f + 1) R.l x y = 1) := by
      rw [Hc.out]
      cases hx : has R.l x <;> cases hy : has R.l y <;> simp_all
    have Hcase := Lib.hid hcase
    clear Hc hcase hno
    by_cases hd : has R.l x = has R.l y
    · obtain ⟨hx, hy, hfin⟩ : has R.l x = false ∧ has R.l y = false ∧ cmpF (f + 1) R.l x y = cmp2 x y := by
        rcases Hcase.out with h | ⟨h1, h2, _⟩ | ⟨h1, h2, _⟩
        · exact h
        · rw [h1, h2] at hd; cases hd
        · rw [h1, h2] at hd; cases hd
      have Hfin := Lib.hid hfin
      rw [hx, hy]
      clear hmap hd hfin Hcase hx hy
      go_wp2_with fail
      refine (cmpInt_calls x y w5).mono ?_
      rintro e w' ⟨rfl, rfl⟩
      go_wp2_with fail
      go_ret
      exact ⟨ret_int Hfin.out.symm, hb6⟩
    · have hd1 : (!has R.l x == has R.l y) = true := by cases hx : has R.l x <;> cases hy : has R.l y <;> simp_all
      clear hd
      have m0 : MapIs Value.bool (w5.alloc (.map #[] 0)) w5.heap.size [] := ⟨#[], 0, heap_alloc_new w5 _, rfl⟩
      obtain ⟨w6, r6, m6, u6, s6, d6⟩ := update_ok (keyOk_bool Tryz.underlying4) Tryz.underlying285 m0 true (.int .i64 (-1))
      obtain ⟨w7, r7, m7, u7, s7, d7⟩ := update_ok (keyOk_bool Tryz.underlying4) Tryz.underlying285 m6 false (.int .i64 1)
      have hb7 : Below w.heap.size w w7 := (hb6.alloc hb6.size _).trans ((u6.trans u7).below (B := w.heap.size) (by have := hb6.size; simp; omega) (fun k hk e => by have := hb6.size; unfold One at e; omega))
      have hs7 : w7.heap.size = w5.heap.size + 1 := by rw [s7, s6]; simp
      have Hs7 := Lib.hid hs7
      clear hs7 s6 s7 d6 d7 u6 u7 m6 m0
      go_wp2_with fail
      with_reducible refine (has_one (x := x) (hr.below (hb7.alloc hb7.size _)) (by go_simp)).mono ?_
      rintro e w8 ⟨rfl, hb8⟩
      have hb9 : Below w.heap.size w w8 := (hb7.alloc hb7.size _).trans (hb8.mono (by have := hb7.size; simp; omega))
      have m8 := m7.upd (S := None) (Upd.of_below (((Below.refl _ _).alloc (Nat.le_refl _) _).trans (hb8.mono (by simp)))) (fun h => h)
      obtain ⟨iE, hE, hz, -, -⟩ := info_parts (show (Tryz.prog.info? 3).map (fun i => (i.zero, i.size, i.bytes)) = some (some (.int .i64 0), 1, 8) by kernel_rfl)
      have hl := lookup_plain (keyOk_bool Tryz.underlying4) Tryz.underlying285 hE hz m8 (has R.l x)
      clear hb8 hb7 m7 m8 r6 r7
      cases hx : has R.l x with
      | true =>
        rw [hx] at hl
        have Hfin := Lib.hid (show cmpF (f + 1) R.l x y = -1 by rcases Hcase.out with ⟨h, _⟩ | ⟨_, _, h⟩ | ⟨h, _⟩ <;> first | exact h | (rw [hx] at h; cases h))
        have hl' : (((findL true (setL false (.int .i64 1) (setL true (.int .i64 (-1)) [])) 0).map (·.2)).getD (.int .i64 0)) = .int .i64 (-1) := by simp [findL, setL]
        rw [hl'] at hl
        go_wp2_with fail
        go_ret
        exact ⟨ret_int Hfin.out.symm, hb9⟩
      | false =>
        rw [hx] at hl
        have Hfin := Lib.hid (show cmpF (f + 1) R.l x y = 1 by
          rcases Hcase.out with ⟨h1, h2, h⟩ | ⟨h, _⟩ | ⟨_, _, h⟩
          · rw [h1, h2] at hd1; cases hd1
          · rw [hx] at h; cases h
          · exact h)
        have hl' : (((findL false (setL false (.int .i64 1) (setL true (.int .i64 (-1)) [])) 0).map (·.2)).getD (.int .i64 0)) = .int .i64 1 := by simp [findL, setL]
        rw [hl'] at hl
        clear hd1
        go_wp2_with fail
        go_ret
        exact ⟨ret_int Hfin.out.symm, hb9⟩

theorem compare_calls {S : Nat → Prop} {r : Nat} {R : Ar} : ∀ (f : Nat) (x y : Int) (w : World), IsArena w r R S → (has R.l x = true → has R.l y = true → x ≠ y → x.toNat < f) → 0 < f →
    Calls Tryz.prog 150 #[.pointer (some ⟨r, 0, none⟩), .int .i64 x, .int .i64 y] w (CmpPost R.l f x y w)
  | 0, _, _, _, _, _, h => absurd h (Nat.lt_irrefl _)
  | f + 1, x, y, w, hr, hc, _ => by
    by_cases h : x = y ∨ (has R.l x && has R.l y) = false
    · exact compare_other hr h
    · have hx : has R.l x = true := by cases hx : has R.l x <;> simp_all
      have hy : has R.l y = true := by cases hy : has R.l y <;> simp_all
      have hne : x ≠ y := fun e => h (.inl e)
      exact compare_both (compare_calls f) hr hne hx hy (hc hx hy hne)
theorem cmp_calls {S : Nat → Prop} {r : Nat} {R : Ar} (x y : Int) {w : World} (hr : IsArena w r R S) :
    Calls Tryz.prog 150 #[.pointer (some ⟨r, 0, none⟩), .int .i64 x, .int .i64 y] w fun e w' => e = .returned (.int .i64 (cmpA R.l x y)) ∧ Below w.heap.size w w' :=
  compare_calls (R.l.length + 1) x y w hr (fun hx _ _ => by have := has_iff.1 hx; omega) (by omega)
/-! right of layer 1: it only reads. -/
theorem many_cases {k : Int} (h0 : 0 ≤ k) (h9 : k ≤ 9) : k = 0 ∨ k = 1 ∨ k = 2 ∨ k = 3 ∨ k = 4 ∨ k = 5 ∨ k = 6 ∨ k = 7 ∨ k = 8 ∨ k = 9 := by omega
theorem index10 {k : Int} (h0 : 0 ≤ k) (h9 : k ≤ 9) (w : World) : (Instr.index 250 tenV (.int .i64 k)).run Tryz.prog w = .ok (.int .i64 (many k)) w := by
  rcases many_cases h0 h9 with rfl | rfl | rfl | rfl | rfl | rfl | rfl | rfl | rfl | rfl <;> kernel_rfl
theorem index3k (x : Nd) {k : Nat} (hk : k < 3) (w : World) : (Instr.index 238 (.agg #[.int .i64 x.a, .int .i64 x.b, .int .i64 x.c]) (.int .i64 k)).run Tryz.prog w = .ok (.int .i64 (x.part k)) w := by
  match k, hk with
  | 0, _ => exact (index3 _ _ _ w).1
  | 1, _ => exact (index3 _ _ _ w).2.1
  | 2, _ => exact (index3 _ _ _ w).2.2
def okPart (l : List Nd) (x : Nd) (k : Nat) : Bool := if k < many x.kind then has l (x.part k) else decide (x.part k = 0)
theorem partsOk_iff (l : List Nd) (x : Nd) : partsOk l x = true ↔ ∀ k, k < 3 → okPart l x k = true := by
  unfold partsOk okPart
  rw [List.all_eq_true]
  exact ⟨fun h k hk => h k (List.mem_range.2 hk), fun h k hk => h k (List.mem_range.1 hk)⟩
def RightPost (l : List Nd) (x : Nd) (w : World) (e : Ending) (w' : World) : Prop := e = .returned (.bool (right l x)) ∧ Below w.heap.size w w'
theorem right_bad {l : List Nd} {x : Nd} (h : x.kind < 0 ∨ 9 < x.kind ∨ numberedP x = false ∨ partsOk l x = false) : right l x = false := by
  unfold right
  split
  · rfl
  · rename_i h1
    split
    · rfl
    · rename_i h2
      split
      · rfl
      · rename_i h3
        exfalso
        rcases h with h | h | h | h
        · exact h1 (.inl h)
        · exact h1 (.inr h)
        · exact h2 h
        · exact h3 h
set_option maxHeartbeats 3200000 in
set_option maxRecDepth 100000 in
theorem right_calls {S : Nat → Prop} {r : Nat} {R : Ar} {x : Nd} {w : World} (hr : IsArena w r R S) (hn0 : 0 ≤ x.n) (hn1 : x.n ≤ 18446744073709551615) :
    Calls Tryz.prog 92 #[.pointer (some ⟨r, 0, none⟩), x.val] w (RightPost R.l x w) := by
  by_cases hk : x.kind < 0
  · have hbad := Lib.hid (right_bad (l := R.l) (x := x) (.inl hk))
    have hd : decide (x.kind < 0) = true := decide_eq_true hk
    unfold Nd.val
    go_enter Tryz.func92, Tryz.ntmps92
    go_wp2_with fail
    go_ret
    exact ⟨ret_bool hbad.out.symm, (Below.refl _ _).alloc (Nat.le_refl _) _⟩
  by_cases hk9 : 9 < x.kind
  · have hbad := Lib.hid (right_bad (l := R.l) (x := x) (.inr (.inl hk9)))
    have hd : decide (x.kind < 0) = false := decide_eq_false hk
    have hd9 : decide (9 < x.kind) = true := decide_eq_true hk9
    unfold Nd.val
    go_enter Tryz.func92, Tryz.ntmps92
    go_wp2_with fail
    go_ret
    exact ⟨ret_bool hbad.out.symm, (Below.refl _ _).alloc (Nat.le_refl _) _⟩
  have hd : decide (x.kind < 0) = false := decide_eq_false hk
  have hd9 : decide (9 < x.kind) = false := decide_eq_false hk9
  have Hr := Lib.hid hr
  have hk0 : 0 ≤ x.kind := by omega
  have hk9' : x.kind ≤ 9 := by omega
  have hi10 := fun w => index10 hk0 hk9' w
  have Hbad := Lib.hid (right_bad (l := R.l) (x := x))
  clear hr hk hk9
  have hvx : x.val = .agg #[.int .i64 x.kind, .int .u64 x.n, .int .i64 x.a, .int .i64 x.b, .int .i64 x.c] := rfl
  rw [hvx]
  have Hvx := Lib.hid hvx
  clear hvx
  go_enter Tryz.func92, Tryz.ntmps92
  go_wp2_with fail
  refine (numbered_calls x _ hn0 hn1).mono ?_
  rintro e w1 ⟨rfl, hb1⟩
  have nx : NdAt w1 w.heap.size x := NdAt.below (w := w.alloc (.cells #[.int .i64 x.kind, .int .u64 x.n, .int .i64 x.a, .int .i64 x.b, .int .i64 x.c] 103)) (heap_alloc_new w _) hb1
  have hbw : Below w.heap.size w w1 := ((Below.refl _ _).alloc (Nat.le_refl _) _).trans (hb1.mono (by simp))
  clear hb1 hn0 hn1
  cases hnum : numberedP x with
  | false =>
    have hb := Lib.hid (Hbad.out (.inr (.inr (.inl hnum))))
    clear hi10 Hbad
    go_wp2_with fail
    go_ret
    exact ⟨ret_bool hb.out.symm, hbw⟩
  | true =>
    have lx := lt_of_heap nx
    obtain ⟨c0, -, c2, c3, c4⟩ := nx.cells
    go_upto_region 3 with fail
    go_cut [5] (fun s5 wx => s5 = .int .i64 (many x.kind) ∧ Below w1.heap.size w1 wx)
    case first =>
      go_region_held3 (fun w' => w'.cell? ⟨w.heap.size, 0, none⟩ = some (.int .i64 x.kind))
        (first | go_keep | exact (hbp.cell (p := ⟨w.heap.size, 0, none⟩) (by simpa using lx)).trans (by assumption))
        (first | (go_at_call 149; refine (parts_calls _).mono ?_; rintro e wp ⟨rfl, hbp⟩))
      all_goals go_wp2_with fail
      all_goals go_meet
      all_goals exact ⟨rfl, (Below.refl _ _).drew.trans hbp⟩
    case rest =>
      obtain ⟨rfl, hbc⟩ := hcut
      have nxc := nx.below hbc
      have hbw2 := hbw.trans (hbc.mono hbw.size)
      clear hbc hbw nx c0 c2 c3 c4 hi10
      have lx := lt_of_heap nxc
      obtain ⟨c0, -, c2, c3, c4⟩ := nxc.cells
      have Nx := Lib.hid nxc
      clear nxc
      have hi3 := fun (k : Nat) (hk : k < 3) (w : World) => index3k x hk w
      have Hi3 := Lib.hid hi3
      clear hi3
      have hmany : many x.kind ≤ 3 := by unfold many; (repeat' split) <;> omega
      generalize hmg : many x.kind = m at *
      have Hmg := Lib.hid hmg
      clear hmg
      go_wp2_with fail
      clear c0 c2 c3 c4
      go_loopw [32] (fun i wr => ∃ k : Nat, k ≤ 3 ∧ i = .int .i64 k ∧ Hid (∀ j, j < k → okPart R.l x j = true) ∧ Below wc.heap.size wc wr) (fun i _ => 3 - (intOf i).toNat)
      case atStart => exact ⟨0, by omega, rfl, fun j hj => absurd hj (by omega), Below.refl _ _⟩
      case round =>
        obtain ⟨k, hk, rfl, hall, hbr⟩ := hrel
        by_cases hk3 : k < 3
        · have hix := fun w => Hi3.out k hk3 w
          have hok : okPart R.l x k = if k < m then has R.l (x.part k) else decide (x.part k = 0) := by unfold okPart; rw [Hmg.out]
          have Hok := Lib.hid hok
          clear hok
          have hbad1 : okPart R.l x k = false → right R.l x = false := fun h => Hbad.out (.inr (.inr (.inr (by
            cases hp : partsOk R.l x with
            | false => rfl
            | true => rw [(partsOk_iff R.l x).1 hp k hk3] at h; cases h))))
          have Hbad1 := Lib.hid hbad1
          clear hbad1
          have hnext : okPart R.l x k = true → Hid (∀ j, j < k + 1 → okPart R.l x j = true) := fun h j hj => by
            rcases Nat.lt_or_ge j k with h' | h'
            · exact hall.out j h'
            · obtain rfl : j = k := by omega
              exact h
          have Hnext := Lib.hid hnext
          clear hnext hall
          generalize x.part k = q at *
          have hbwr := hbw2.trans (hbr.mono hbw2.size)
          by_cases hkm : k < m
          · have hkm1 : decide ((k : Int) < (m : Int)) = true := decide_eq_true (by omega)
            have hkm2 : decide ((m : Int) ≤ (k : Int)) = false := decide_eq_false (by omega)
            have Hok2 := Lib.hid (show okPart R.l x k = has R.l q by rw [Hok.out, if_pos hkm])
            clear Hok
            go_wp2_with fail
            with_reducible refine (has_one (x := q) (Hr.out.below (hbwr.alloc hbwr.size _)) (by go_simp)).mono ?_
            rintro e w4 ⟨rfl, hb4⟩
            have hbr4 := (hbr.alloc hbr.size _).trans (hb4.mono (by have := hbr.size; simp; omega))
            clear hb4
            cases hh : has R.l q with
            | true =>
              have hn := Hnext.out (by rw [Hok2.out, hh])
              clear Hnext Hbad1 Hok2
              go_wp2_with fail
              go_roundw
              case rel => exact ⟨k + 1, by omega, by go_num, hn, hbr4⟩
              case measure => simp [intOf]; omega
            | false =>
              have hb := Lib.hid (Hbad1.out (by rw [Hok2.out, hh]))
              clear Hnext Hbad1 Hok2
              go_wp2_with fail
              go_ret
              exact ⟨ret_bool hb.out.symm, hbw2.trans (hbr4.mono hbw2.size)⟩
          · have hkm1 : decide ((k : Int) < (m : Int)) = false := decide_eq_false (by omega)
            have hkm2 : decide ((m : Int) ≤ (k : Int)) = true := decide_eq_true (by omega)
            have Hok2 := Lib.hid (show okPart R.l x k = decide (q = 0) by rw [Hok.out, if_neg hkm])
            clear Hok
            by_cases hq : q = 0
            · have hq1 : (q != 0) = false := by simp [hq]
              have hn := Hnext.out (by rw [Hok2.out]; simp [hq])
              clear Hnext Hbad1 Hok2 hq
              go_wp2_with fail
              go_roundw
              case rel => exact ⟨k + 1, by omega, by go_num, hn, hbr⟩
              case measure => simp [intOf]; omega
            · have hq1 : (q != 0) = true := by simp [hq]
              have hb := Lib.hid (Hbad1.out (by rw [Hok2.out]; simp [hq]))
              clear Hnext Hbad1 Hok2
              go_wp2_with fail
              go_ret
              exact ⟨ret_bool hb.out.symm, hbwr⟩
        · have hall3 : partsOk R.l x = true := (partsOk_iff R.l x).2 (fun j hj => hall.out j (by omega))
          have hbwr := hbw2.trans (hbr.mono hbw2.size)
          have nr := Nx.out.below hbr
          have lr := lt_of_heap nr
          obtain ⟨c0, -, c2, c3, c4⟩ := nr.cells
          have hR : right R.l x = if x.kind = 3 then decide (cmpA R.l x.a x.b ≤ 0) else if x.kind = 4 then decide ((nd R.l x.b).kind ≠ 2) else true := by
            unfold right
            rw [if_neg (by omega), if_neg (by rw [hnum]; decide), if_neg (by rw [hall3]; decide)]
          have HR := Lib.hid hR
          clear hR hall Hbad hbr hbw2 Nx nr
          by_cases h3 : x.kind = 3
          · have h31 : (x.kind == 3) = true := by simp [h3]
            have HR2 := Lib.hid (show right R.l x = decide (cmpA R.l x.a x.b ≤ 0) by rw [HR.out, if_pos h3])
            clear h3 HR
            go_wp2_with fail
            refine (cmp_calls x.a x.b (Hr.out.below hbwr)).mono ?_
            rintro e w4 ⟨rfl, hb4⟩
            go_wp2_with fail
            go_ret
            exact ⟨ret_bool HR2.out.symm, hbwr.trans (hb4.mono hbwr.size)⟩
          · have h31 : (x.kind == 3) = false := by simp [h3]
            by_cases h4 : x.kind = 4
            · have h41 : (x.kind == 4) = true := by simp [h4]
              have hb1 : has R.l x.b = true := by
                have := (partsOk_iff R.l x).1 hall3 1 (by omega)
                unfold okPart at this
                rw [if_pos (by rw [h4]; decide)] at this
                exact this
              have HR2 := Lib.hid (show right R.l x = ((nd R.l x.b).kind != 2) by rw [HR.out, if_neg h3, if_pos h4, Bool.eq_iff_iff]; simp)
              obtain ⟨g, cap, bm, -, a1, -, an⟩ := (Hr.out.below hbwr).cells
              have hg := (an x.b.toNat (nd R.l x.b) (getElem?_of_has hb1)).1
              have hb2 := has_iff.1 hb1
              clear an h3 h4 HR
              generalize x.b = q at *
              obtain ⟨qn, rfl⟩ := Int.eq_ofNat_of_zero_le hb2.1
              rw [Int.toNat_natCast] at hg
              have hq2 : (qn : Int) < R.l.length := hb2.2
              generalize nd R.l qn = y at *
              go_wp2_with fail
              go_quiet (fail)
              go_wp2_with fail
              go_ret
              exact ⟨ret_bool HR2.out.symm, hbwr.trans (Upd.below (S := None) ((Upd.refl _ _).drewN _) hbwr.size (fun _ _ h => h))⟩
            · have h41 : (x.kind == 4) = false := by simp [h4]
              have HR2 := Lib.hid (show right R.l x = true by rw [HR.out, if_neg h3, if_neg h4])
              clear h3 h4 HR
              go_wp2_with fail
              go_ret
              exact ⟨ret_bool HR2.out.symm, hbwr⟩
end Go.Proofs.YtikimmgileffgaaGreatDoor
end
/- Nodes as keys of a map: they are compared field by field. -/
section
namespace Go.Proofs.YtikimmgileffgaaGreatDoor
open Go.RowKit

theorem part_of {P : Program} {t : TypeId} {d : TypeDesc} (ht : P.underlying t = some d) (hd : (match d with | .struct _ | .array _ _ => false | _ => true) = true) {cs : Array Value} {off : Nat} {v : Value} (h : cs[off]? = some v) (w : World) : (part t cs off).run P w = .ok v w := by
  unfold part isAgg
  cases d <;> simp_all [run_underlying ht]
set_option maxHeartbeats 1000000 in
theorem nd_equal (x y : Nd) (w : World) : (Op.equal 103 x.val y.val).run Tryz.prog w = .ok (decide (x = y)) w := by
  have hi : ∀ (n : Nat) (a b : Int) (w : World), (Op.equalIn (n + 1) 3 (.int .i64 a) (.int .i64 b)).run Tryz.prog w = .ok (a == b) w := fun n a b w => by simp [Op.equalIn, run_underlying Tryz.underlying3]
  have hu : ∀ (n : Nat) (a b : Int) (w : World), (Op.equalIn (n + 1) 22 (.int .u64 a) (.int .u64 b)).run Tryz.prog w = .ok (a == b) w := fun n a b w => by simp [Op.equalIn, run_underlying Tryz.underlying22]
  have p0 := fun (a b c d e : Value) (w : World) => part_of (P := Tryz.prog) Tryz.underlying3 rfl (cs := #[a, b, c, d, e]) (off := 0) (v := a) rfl w
  have p1 := fun (a b c d e : Value) (w : World) => part_of (P := Tryz.prog) Tryz.underlying22 rfl (cs := #[a, b, c, d, e]) (off := 1) (v := b) rfl w
  have p2 := fun (a b c d e : Value) (w : World) => part_of (P := Tryz.prog) Tryz.underlying3 rfl (cs := #[a, b, c, d, e]) (off := 2) (v := c) rfl w
  have p3 := fun (a b c d e : Value) (w : World) => part_of (P := Tryz.prog) Tryz.underlying3 rfl (cs := #[a, b, c, d, e]) (off := 3) (v := d) rfl w
  have p4 := fun (a b c d e : Value) (w : World) => part_of (P := Tryz.prog) Tryz.underlying3 rfl (cs := #[a, b, c, d, e]) (off := 4) (v := e) rfl w
  have hst : Program.stoodInHeld Tryz.prog 103 = false := by kernel_rfl
  have h : ∀ n : Nat, (Op.equalIn (n + 2) 103 x.val y.val).run Tryz.prog w = .ok (decide (x = y)) w := fun n => by
    unfold Op.equalIn
    obtain ⟨k, m, a, b, c⟩ := x
    obtain ⟨k', m', a', b', c'⟩ := y
    simp only [Nd.val]
    simp only [Sem.run_bind, run_underlying Tryz.underlying103, Result.andThen_ok]
    simp [p0, p1, p2, p3, p4, hi, hu, hst]
    by_cases h1 : k = k'
    · by_cases h2 : m = m'
      · by_cases h3 : a = a'
        · by_cases h4 : b = b'
          · by_cases h5 : c = c' <;> simp [h1, h2, h3, h4, h5]
          · simp [h1, h2, h3, h4]
        · simp [h1, h2, h3]
      · simp [h1, h2]
    · simp [h1]
  exact h 9998
theorem nd_check (b : Bool) (x : Nd) (w : World) : (Instr.checkKey b 10000 103 x.val).run Tryz.prog w = .ok () w := by
  have hi : ∀ (n : Nat) (a : Int) (w : World), (Instr.checkKey b (n + 1) 3 (.int .i64 a)).run Tryz.prog w = .ok () w := fun n a w => by simp [Instr.checkKey, run_underlying Tryz.underlying3]
  have hu : ∀ (n : Nat) (a : Int) (w : World), (Instr.checkKey b (n + 1) 22 (.int .u64 a)).run Tryz.prog w = .ok () w := fun n a w => by simp [Instr.checkKey, run_underlying Tryz.underlying22]
  have p0 := fun (a b c d e : Value) (w : World) => part_of (P := Tryz.prog) Tryz.underlying3 rfl (cs := #[a, b, c, d, e]) (off := 0) (v := a) rfl w
  have p1 := fun (a b c d e : Value) (w : World) => part_of (P := Tryz.prog) Tryz.underlying22 rfl (cs := #[a, b, c, d, e]) (off := 1) (v := b) rfl w
  have p2 := fun (a b c d e : Value) (w : World) => part_of (P := Tryz.prog) Tryz.underlying3 rfl (cs := #[a, b, c, d, e]) (off := 2) (v := c) rfl w
  have p3 := fun (a b c d e : Value) (w : World) => part_of (P := Tryz.prog) Tryz.underlying3 rfl (cs := #[a, b, c, d, e]) (off := 3) (v := d) rfl w
  have p4 := fun (a b c d e : Value) (w : World) => part_of (P := Tryz.prog) Tryz.underlying3 rfl (cs := #[a, b, c, d, e]) (off := 4) (v := e) rfl w
  have h : ∀ n : Nat, (Instr.checkKey b (n + 2) 103 x.val).run Tryz.prog w = .ok () w := fun n => by
    unfold Instr.checkKey
    simp [run_underlying Tryz.underlying103, p0, p1, p2, p3, p4, hi, hu, Nd.val]
  exact h 9998
theorem nd_same (x : Nd) : Instr.sameBits 10000 x.val x.val = true := by
  have h : ∀ n : Nat, Instr.sameBits (n + 2) x.val x.val = true := fun n => by simp [Instr.sameBits, Nd.val]
  exact h 9998
theorem keyOk_nd : KeyOk Tryz.prog 103 Nd.val := keyOk_struct Tryz.underlying103 nd_check nd_equal nd_same
end Go.Proofs.YtikimmgileffgaaGreatDoor
end
