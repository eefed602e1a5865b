/- TransNumbers answers true. -/
import Derived.Test.YtgcjhmffndijhaaAwake13
import Derived.Test.YtgcjhmffndijhaaArLaw
namespace Go.Proofs.Ytgcjhmffndijhaa
open Go.RowKit

def numT (i j : Nat) : Tr := ⟨⟨1, true, i⟩, ⟨0, true, j⟩⟩
set_option maxHeartbeats 3200000 in
set_option maxRecDepth 100000 in
theorem num_walk (n a b : Int) (w : World) (hn0 : 0 ≤ n) (hn1 : n ≤ 18446744073709551615) (ha0 : 0 ≤ a) (ha1 : a ≤ 255) (hb0 : 0 ≤ b) (hb1 : b ≤ 255) :
    Calls Try.prog 3 #[.int .u64 n, .int .u8 a, .int .u8 b] w fun e w' => e = .returned (.bool true) ∧ Below w.heap.size w w' := by
  go_enter Try.func3, Try.ntmps3
  go_wp2_with fail
  refine (new_own (Own.start w) 200).mono ?_
  rintro e w1 ⟨r, rfl, o1⟩
  go_wp2_with fail
  refine (mk_own o1 0 rfl ⟨1, n, 0, 0, 0⟩ hn0 hn1).mono ?_
  rintro e w2 ⟨rfl, o2⟩
  rw [num_start] at o2 ⊢
  clear o1
  go_wp2_with fail
  refine (cNew_calls 1 _).mono ?_
  rintro e w4 ⟨rfl, b4⟩
  have o4 := o2.call b4
  clear b4 o2
  go_wp2_with fail
  refine (cNew_calls 0 _).mono ?_
  rintro e w5 ⟨rfl, b5⟩
  have o5 : Own w _ [blk w5.heap.size (trObj (numT 0 0)), arena r ⟨200, numL n 0 0⟩] := (o4.call b5).alloc (trObj (numT 0 0))
  clear b5 o4
  simp only [Ci.val]
  go_wp2_with fail
  have ha2 : 0 ≤ a % 20 ∧ a % 20 < 20 := by omega
  have Ha := Lib.hid ha2
  have hb2 : 0 ≤ b % 20 ∧ b % 20 < 20 := by omega
  have Hb := Lib.hid hb2
  have hbk := o5.size
  simp at hbk
  have Hbk := Lib.hid (show w.heap.size ≤ w5.heap.size by have := o5.size; have := o5.blk_le (i := 0) rfl; exact this)
  clear ha2 hb2 hbk
  generalize hB : w5.heap.size = B at *
  generalize hT : a % 20 = T at *
  obtain ⟨wl, hwl⟩ : ∃ wl : World, wl = w5.alloc (trObj (numT 0 0)) := ⟨_, rfl⟩
  have o6 : Own w wl [blk B (trObj (numT 0 0)), arena r ⟨200, numL n 0 0⟩] := by rw [hwl]; exact o5
  go_loopw [40] (fun i wr => ∃ k : Nat, (k : Int) ≤ T ∧ i = .int .i64 k ∧ Own w wr [blk B (trObj (numT k 0)), arena r ⟨200, numL n k 0⟩])
    (fun i _ => (T - intOf i).toNat)
  case atStart => exact ⟨0, Ha.out.1, rfl, o5⟩
  case round =>
    obtain ⟨k, hk, rfl, ol⟩ := hrel
    by_cases hlt : (k : Int) < T
    · have h6 := ol.blk (i := 0) rfl
      have l6 := lt_of_heap h6
      obtain ⟨a0, a1, a2, a3, a4, a5⟩ := TrAt.cells h6
      simp only [numT] at a0 a1 a2 a3 a4 a5
      clear h6
      go_wp2_with fail
      refine (tSeal_own ol 1 rfl (numT k 0) 1 (by simp only [numT]; omega) (by have := Ha.out.2; simp only [numT]; omega)).mono ?_
      rintro e w6 ⟨rfl, o6⟩
      rw [show numT k 0 = ⟨⟨1, true, k⟩, ⟨0, true, 0⟩⟩ from rfl, num_seal n k (by have := Ha.out.2; omega)] at o6 ⊢
      have o7 := o6.alloc (trObj (numT (k + 1) 0))
      clear a0 a1 a2 a3 a4 a5 l6 o6
      simp only [Tr.val]
      go_wp2_with fail
      refine (get_own o7 2 rfl (2 + (k : Int))).mono ?_
      rintro e w8 ⟨rfl, o8⟩
      rw [num_get n k]
      generalize has (numL n (k + 1) 0) (2 + (k : Int)) = hh
      have h7 := o8.blk (i := 0) rfl
      have h6 := o8.blk (i := 1) rfl
      have l7 := lt_of_heap h7
      have l6 := lt_of_heap h6
      have f6 := fun o => frozen_of_heap (o := o) h6
      obtain ⟨a0, a1, a2, a3, a4, a5⟩ := TrAt.cells h7
      obtain ⟨c0, c1, c2, c3, c4, c5⟩ := TrAt.cells h6
      simp only [numT] at a0 a1 a2 a3 a4 a5 c0 c1 c2 c3 c4 c5
      have H6 := Lib.hid h6
      clear h7 h6 o7
      simp only [Nd.val]
      go_wp2_with (go_quiet (fail))
      refine ⟨⟨k + 1, by omega, by simp, ?_⟩, ?_⟩
      · exact ((Own.set6 1 o8 rfl (.int .i64 1) (.bool true) (.int .u64 ((k : Int) + 1)) (.int .i64 0) (.bool true) (.int .u64 0)).alloc (ndObj ⟨7, k, 1, 0, 1⟩)).tail.tail
      · simp only [intOf]; omega
    · have hk2 : T = (k : Int) := by omega
      subst hk2
      go_wp2_with fail
      clear hk hlt
      obtain ⟨wo, hwo⟩ : ∃ wo : World, wo = wr := ⟨_, rfl⟩
      subst hwo
      generalize hU : b % 20 = U at *
      go_loopw [93] (fun i wr => ∃ m : Nat, (m : Int) ≤ U ∧ i = .int .i64 m ∧ Own w wr [blk B (trObj (numT k m)), arena r ⟨200, numL n k m⟩])
        (fun i _ => (U - intOf i).toNat)
      case atStart => exact ⟨0, Hb.out.1, rfl, ol⟩
      case round =>
        obtain ⟨m, hm, rfl, ol⟩ := hrel
        by_cases hlt : (m : Int) < U
        · go_wp2_with fail
          refine (mk_own ol 1 rfl ⟨7, m, 0, 0, 1⟩ (by simp) (by simp; omega)).mono ?_
          rintro e w6 ⟨rfl, o6⟩
          rw [num_mk n k m (by have := Ha.out.2; omega) (by have := Hb.out.2; omega)] at o6 ⊢
          have h6 := o6.blk (i := 0) rfl
          have l6 := lt_of_heap h6
          obtain ⟨a0, a1, a2, a3, a4, a5⟩ := TrAt.cells h6
          simp only [numT] at a0 a1 a2 a3 a4 a5
          clear h6 ol
          go_wp2_with fail
          refine (tOpen_own o6 1 rfl (numT k m) (2 + (k : Int) + m) (by simp only [numT]; omega) (by have := Hb.out.2; simp only [numT]; omega)).mono ?_
          rintro e w8 ⟨rfl, o8⟩
          rw [show numT k m = ⟨⟨1, true, k⟩, ⟨0, true, m⟩⟩ from rfl, num_open n k m ⟨1, true, k⟩ (by have := Hb.out.2; omega)]
          have h6 := o8.blk (i := 0) rfl
          clear a0 a1 a2 a3 a4 a5 l6 o6
          have l6 := lt_of_heap h6
          have f6 := fun o => frozen_of_heap (o := o) h6
          obtain ⟨c0, c1, c2, c3, c4, c5⟩ := TrAt.cells h6
          simp only [numT] at c0 c1 c2 c3 c4 c5
          clear h6
          simp only [Tr.val]
          go_wp2_with (go_quiet (fail))
          refine ⟨⟨m + 1, by omega, by simp, ?_⟩, ?_⟩
          · exact ((Own.set6 0 o8 rfl (.int .i64 1) (.bool true) (.int .u64 k) (.int .i64 0) (.bool true) (.int .u64 ((m : Int) + 1))).alloc (trObj (numT k (m + 1)))).tail
          · simp only [intOf]; omega
        · have hk3 : U = (m : Int) := by omega
          subst hk3
          have h6 := ol.blk (i := 0) rfl
          have l6 := lt_of_heap h6
          obtain ⟨a0, a1, a2, a3, a4, a5⟩ := TrAt.cells h6
          simp only [numT] at a0 a1 a2 a3 a4 a5
          clear h6
          go_wp2_with fail
          refine (awake _).mono ?_
          rintro e w9 ⟨rfl, b9⟩
          go_wp2_with fail
          go_ret
          exact ⟨rfl, (ol.call b9).below⟩
end Go.Proofs.Ytgcjhmffndijhaa
