/- The calls of layer 10: what they tell is Ci's; nothing but the arena changes. -/
import Derived.Test.YtgcjhmffndijhaaTerm6
import Derived.Test.YtgcjhmffndijhaaCi
namespace Go.Proofs.Ytgcjhmffndijhaa
open Go.RowKit

def CiAt (w : World) (b : Nat) (c : Ci) : Prop := w.heap[b]? = some (.cells #[.int .i64 c.key, .bool c.has, .int .u64 c.n] 31 (0, 0))
theorem CiAt.cells {w : World} {b : Nat} {c : Ci} (h : CiAt w b c) : w.cell? ⟨b, 0, none⟩ = some (.int .i64 c.key) ∧ w.cell? ⟨b, 1, none⟩ = some (.bool c.has) ∧ w.cell? ⟨b, 2, none⟩ = some (.int .u64 c.n) := ⟨cell_of_heap h, cell_of_heap h, cell_of_heap h⟩
theorem CiAt.below {w w' : World} {b : Nat} {c : Ci} (h : CiAt w b c) (u : Below w.heap.size w w') : CiAt w' b c := (u.block b (lt_of_heap h)).trans h

set_option maxHeartbeats 400000 in
theorem cNew_calls (k : Int) (w : World) : Calls Try.prog 10 #[.int .i64 k] w fun e w' => e = .returned (Ci.val ⟨k, true, 0⟩) ∧ Below w.heap.size w w' := by
  go_enter Try.func10, Try.ntmps10
  go_wp2
  exact bodyPost_ret (v := Ci.val ⟨k, true, 0⟩) (by simp [results, Try.results10, go_sem, Ci.val]) rfl ⟨rfl, by first | exact (Below.refl _ _).alloc (Nat.le_refl _) _ | exact ((Below.refl _ _).alloc (Nat.le_refl _) _).setCell (by simp) _⟩
set_option maxHeartbeats 400000 in
theorem cLater_calls (c : Ci) (w : World) (h0 : 0 ≤ c.n) (h1 : c.n < 18446744073709551615) : Calls Try.prog 42 #[c.val] w fun e w' => e = .returned (laterC c).val ∧ Below w.heap.size w w' := by
  unfold Ci.val
  go_enter Try.func42, Try.ntmps42
  go_wp2
  exact bodyPost_ret (v := (laterC c).val) (by simp [results, Try.results42, go_sem, Ci.val, laterC]) rfl ⟨rfl, by first | exact ((Below.refl _ _).alloc (Nat.le_refl _) _).alloc (by simp) _ | exact (((Below.refl _ _).alloc (Nat.le_refl _) _).alloc (by simp) _).setCell (by simp) _⟩
set_option maxHeartbeats 1600000 in
set_option maxRecDepth 100000 in
theorem cMay_calls {S : Nat → Prop} {r : Nat} {R : Ar} {c : Ci} {x y : Int} {b cap : Nat} {w : World} (hr : IsArena w r R S) (hx : w.cell? ⟨b, 0, none⟩ = some (.int .i64 x)) (hy : w.cell? ⟨b, 1, none⟩ = some (.int .i64 y)) :
    Calls Try.prog 41 #[c.val, .pointer (some ⟨r, 0, none⟩), .slice (some ⟨b, 0, none⟩) 2 cap] w fun e w' => e = .returned (.int .i64 (mayC R.l c [x, y])) ∧ Below w.heap.size w w' := by
  have hb1 : Below w.heap.size w (w.alloc (.cells #[.int .i64 c.key, .bool c.has, .int .u64 c.n] 31)) := (Below.refl _ _).alloc (Nat.le_refl _) _
  have hx1 := (hb1.cell (World.block_lt_of_cell? w _ hx)).trans hx
  have hy1 := (hb1.cell (World.block_lt_of_cell? w _ hy)).trans hy
  have Hr := Lib.hid hr
  have hci : CiAt (w.alloc (.cells #[.int .i64 c.key, .bool c.has, .int .u64 c.n] 31)) w.heap.size c := heap_alloc_new w _
  have hv : c.val = .agg #[.int .i64 c.key, .bool c.has, .int .u64 c.n] := rfl
  rw [hv]
  have Hm := Lib.hid (mayC_two R.l c x y)
  clear hv hr hx hy
  go_enter Try.func41, Try.ntmps41
  go_wp2_with fail
  with_reducible refine (has_two (Hr.out.below hb1) hx1 hy1).mono ?_
  rintro e w1 ⟨rfl, hb2⟩
  have hci1 := hci.below hb2
  have hbw := hb1.trans (hb2.mono (by simp))
  clear hb1 hb2 hx1 hy1 hci
  obtain ⟨c0, c1, c2⟩ := hci1.cells
  have lc := lt_of_heap hci1
  cases hh : (has R.l x && has R.l y) with
  | false =>
    have Hf := Lib.hid (show mayC R.l c [x, y] = 1 by rw [Hm.out]; simp [hh])
    clear Hm
    go_wp2_with fail
    go_ret
    exact ⟨ret_int Hf.out.symm, hbw⟩
  | true =>
    cases hc : c.has with
    | false =>
      rw [hc] at c1
      have Hf := Lib.hid (show mayC R.l c [x, y] = 0 by rw [Hm.out]; simp [hh, hc])
      clear Hm hci1
      go_wp2_with fail
      go_ret
      exact ⟨ret_int Hf.out.symm, hbw⟩
    | true =>
      rw [hc] at c1
      go_wp2_with fail
      with_reducible refine (has_one (x := c.key) (Hr.out.below (hbw.alloc hbw.size _)) (by go_simp)).mono ?_
      rintro e w3 ⟨rfl, hb3⟩
      have hci3 := (hci1.below ((Below.refl _ _).alloc (Nat.le_refl _) _)).below hb3
      have hbw3 := (hbw.alloc hbw.size _).trans (hb3.mono (by have := hbw.size; simp; omega))
      clear hb3 c0 c1 c2 hci1 hbw lc
      obtain ⟨c0, c1, c2⟩ := hci3.cells
      rw [hc] at c1
      clear hci3
      cases hk : has R.l c.key with
      | false =>
        have Hf := Lib.hid (show mayC R.l c [x, y] = 1 by rw [Hm.out]; simp [hh, hc, hk])
        clear Hm
        go_wp2_with fail
        go_ret
        exact ⟨ret_int Hf.out.symm, hbw3⟩
      | true =>
        by_cases hn : c.n = 18446744073709551615
        · have Hf := Lib.hid (show mayC R.l c [x, y] = 8 by rw [Hm.out]; simp [hh, hc, hk, hn])
          have hn1 : (c.n == 18446744073709551615) = true := by simp [hn]
          clear Hm hn
          go_wp2_with fail
          go_ret
          exact ⟨ret_int Hf.out.symm, hbw3⟩
        · have Hf := Lib.hid (show mayC R.l c [x, y] = 0 by rw [Hm.out]; simp [hh, hc, hk, hn])
          have hn1 : (c.n == 18446744073709551615) = false := by simp [hn]
          clear Hm hn
          go_wp2_with fail
          go_ret
          exact ⟨ret_int Hf.out.symm, hbw3⟩
end Go.Proofs.Ytgcjhmffndijhaa
