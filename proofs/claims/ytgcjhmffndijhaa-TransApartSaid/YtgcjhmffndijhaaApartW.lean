/- TransApart answers true. -/
import Derived.Test.YtgcjhmffndijhaaAwake13
import Derived.Test.YtgcjhmffndijhaaArLaw2
namespace Go.Proofs.Ytgcjhmffndijhaa
open Go.RowKit

set_option maxHeartbeats 3200000 in
set_option maxRecDepth 100000 in
theorem apart_walk (n m a : Int) (w : World) (hn0 : 0 ≤ n) (hn1 : n ≤ 18446744073709551615) (hm0 : 0 ≤ m) (hm1 : m ≤ 18446744073709551615) (ha0 : 0 ≤ a) (ha1 : a ≤ 255) :
    Calls Try.prog 4 #[.int .u64 n, .int .u64 m, .int .u8 a] w fun e w' => e = .returned (.bool true) ∧ Below w.heap.size w w' := by
  go_enter Try.func4, Try.ntmps4
  go_wp2_with fail
  refine (new_own (Own.start w) 100).mono ?_
  rintro e w1 ⟨r, rfl, o1⟩
  go_wp2_with fail
  refine (mk_own o1 0 rfl ⟨1, n, 0, 0, 0⟩ hn0 hn1).mono ?_
  rintro e w2 ⟨rfl, o2⟩
  rw [ap_start1] at o2 ⊢
  clear o1
  go_wp2_with fail
  refine (mk_own o2 0 rfl ⟨1, m, 0, 0, 0⟩ hm0 hm1).mono ?_
  rintro e w3 ⟨rfl, o3⟩
  rw [ap_start2] at o3 ⊢
  clear o2
  go_wp2_with fail
  refine (cNew_calls 1 _).mono ?_
  rintro e w4 ⟨rfl, b4⟩
  have o4 := o3.call b4
  clear b4 o3
  go_wp2_with fail
  refine (cNew_calls (apJ n m) _).mono ?_
  rintro e w5 ⟨rfl, b5⟩
  have o5 : Own w _ [blk w5.heap.size (trObj (apT n m 0)), arena r ⟨100, apL n m 0⟩] := (o4.call b5).alloc (trObj (apT n m 0))
  clear b5 o4
  simp only [Ci.val]
  go_wp2_with fail
  have Ha := Lib.hid (show 0 ≤ a % 9 ∧ a % 9 < 9 by omega)
  have hB' := o5.blk_le (i := 0) rfl
  generalize hB : w5.heap.size = B at *
  generalize hT : a % 9 = T at *
  go_loopw [48] (fun i wr => ∃ k : Nat, (k : Int) ≤ T ∧ i = .int .i64 k ∧ Own w wr [blk B (trObj (apT n m k)), arena r ⟨100, apL n m k⟩])
    (fun i _ => (T - intOf i).toNat)
  case atStart => exact ⟨0, Ha.out.1, rfl, o5⟩
  case round =>
    obtain ⟨k, hk, rfl, ol⟩ := hrel
    have h6 := ol.blk (i := 0) rfl
    have l6 := lt_of_heap h6
    obtain ⟨a0, a1, a2, a3, a4, a5⟩ := TrAt.cells h6
    simp only [apT] at a0 a1 a2 a3 a4 a5
    clear h6
    by_cases hlt : (k : Int) < T
    · go_wp2_with fail
      refine (tSeal_own ol 1 rfl (apT n m k) 1 (by simp only [apT]; omega) (by have := Ha.out.2; simp only [apT]; omega)).mono ?_
      rintro e w6 ⟨rfl, o6⟩
      rw [ap_seal n m k (by have := Ha.out.2; omega)] at o6 ⊢
      clear a0 a1 a2 a3 a4 a5 l6 ol
      have h6 := o6.blk (i := 0) rfl
      have l6 := lt_of_heap h6
      have f6 := fun o => frozen_of_heap (o := o) h6
      obtain ⟨a0, a1, a2, a3, a4, a5⟩ := TrAt.cells h6
      simp only [apT] at a0 a1 a2 a3 a4 a5
      clear h6
      simp only [Tr.val, apT]
      go_wp2_with fail
      refine ⟨⟨k + 1, by omega, by simp, ?_⟩, ?_⟩
      · exact ((Own.set6 0 o6 rfl (.int .i64 1) (.bool true) (.int .u64 ((k : Int) + 1)) (.int .i64 (apJ n m)) (.bool true) (.int .u64 0)).alloc (trObj (apT n m (k + 1)))).tail
      · simp only [intOf]; omega
    · have hk2 : T = (k : Int) := by omega
      subst hk2
      go_wp2_with fail
      refine (tSeal_own ol 1 rfl (apT n m k) 1 (by simp only [apT]; omega) (by have := Ha.out.2; simp only [apT]; omega)).mono ?_
      rintro e w6 ⟨rfl, o6⟩
      rw [ap_seal n m k (by have := Ha.out.2; omega)] at o6 ⊢
      clear a0 a1 a2 a3 a4 a5 l6 ol
      have h6 := o6.blk (i := 0) rfl
      have l6 := lt_of_heap h6
      obtain ⟨a0, a1, a2, a3, a4, a5⟩ := TrAt.cells h6
      simp only [apT] at a0 a1 a2 a3 a4 a5
      clear h6
      simp only [Tr.val, apT]
      go_wp2_with fail
      refine (tOpen_own (o6.alloc (trObj (apT n m (k + 1)))) 2 rfl (apT n m k) (apX n m k) (by simp [apT]) (by simp [apT])).mono ?_
      rintro e w8 ⟨rfl, o8⟩
      rw [ap_open n m k]
      by_cases h : n = m ∧ k = 0
      · rw [if_pos h]
        obtain ⟨rfl, rfl⟩ := h
        simp only [Tr.val]
        go_wp2_with (go_quiet (fail))
        refine (awake _).mono ?_
        rintro e w9 ⟨rfl, b9⟩
        go_wp2_with fail
        go_ret
        exact ⟨rfl, ((o8.alloc _).call b9).below⟩
      · rw [if_neg h]
        have hd : (n == m) = false ∨ ((n == m) = true ∧ ((k : Int) == 0) = false) := by
          by_cases hnm : n = m
          · right; exact ⟨by simp [hnm], by simp; intro h0; exact h ⟨hnm, by omega⟩⟩
          · left; simp [hnm]
        clear h
        simp only [Tr.val, Tr.zero, Ci.zero]
        rcases hd with hd | ⟨hd, hd2⟩
        · go_wp2_with (go_quiet (fail))
          refine (awake _).mono ?_
          rintro e w9 ⟨rfl, b9⟩
          go_wp2_with fail
          go_ret
          exact ⟨rfl, ((o8.alloc _).call b9).below⟩
        · go_wp2_with (go_quiet (fail))
          refine (awake _).mono ?_
          rintro e w9 ⟨rfl, b9⟩
          go_wp2_with fail
          go_ret
          exact ⟨rfl, ((o8.alloc _).call b9).below⟩
end Go.Proofs.Ytgcjhmffndijhaa
