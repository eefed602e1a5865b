/- TransKeys answers true. -/
import Derived.Test.YtgcjhmffndijhaaAwake13
import Derived.Test.YtgcjhmffndijhaaArLaw2
namespace Go.Proofs.Ytgcjhmffndijhaa
open Go.RowKit

set_option maxHeartbeats 3200000 in
set_option maxRecDepth 100000 in
theorem keys_walk (n a b : Int) (w : World) (hn0 : 0 ≤ n) (hn1 : n ≤ 18446744073709551615) (ha0 : 0 ≤ a) (ha1 : a ≤ 255) (hb0 : 0 ≤ b) (hb1 : b ≤ 255) :
    Calls Try.prog 6 #[.int .u64 n, .int .u8 a, .int .u8 b] w fun e w' => e = .returned (.bool true) ∧ Below w.heap.size w w' := by
  go_enter Try.func6, Try.ntmps6
  go_wp2_with fail
  refine (new_own (Own.start w) 200).mono ?_
  rintro e w1 ⟨r, rfl, o1⟩
  go_wp2_with fail
  refine (mk_own o1 0 rfl ⟨1, n, 0, 0, 0⟩ hn0 hn1).mono ?_
  rintro e w2 ⟨rfl, o2⟩
  rw [ky_start] at o2 ⊢
  clear o1
  go_wp2_with fail
  refine (cNew_calls 1 _).mono ?_
  rintro e w4 ⟨rfl, b4⟩
  have o4 := o2.call b4
  clear b4 o2
  go_wp2_with fail
  refine (cNew_calls 1 _).mono ?_
  rintro e w5 ⟨rfl, b5⟩
  have o5 : Own w _ [blk w5.heap.size (trObj (kyT 0)), arena r ⟨200, kyL n 0⟩] := (o4.call b5).alloc (trObj (kyT 0))
  clear b5 o4
  simp only [Ci.val]
  go_wp2_with fail
  refine (turned_calls (kyT 0) _).mono ?_
  rintro e w6 ⟨rfl, b6⟩
  have o6 : Own w _ [blk w6.heap.size (trObj (kyU 0)), blk w5.heap.size (trObj (kyT 0)), arena r ⟨200, kyL n 0⟩] := (o5.call b6).alloc (trObj (kyU 0))
  clear b6 o5
  simp only [Tr.turned, Tr.val, kyT]
  go_wp2_with fail
  have Ha := Lib.hid (show 0 ≤ a % 9 ∧ a % 9 < 9 by omega)
  have Hb := Lib.hid (show 0 ≤ b % 9 ∧ b % 9 < 9 by omega)
  generalize hB : w5.heap.size = B at *
  generalize hC : w6.heap.size = C at *
  generalize hT : a % 9 = T at *
  go_loopw [38] (fun i wr => ∃ k : Nat, (k : Int) ≤ T ∧ i = .int .i64 k ∧ Own w wr [blk C (trObj (kyU 0)), blk B (trObj (kyT k)), arena r ⟨200, kyL n k⟩])
    (fun i _ => (T - intOf i).toNat)
  case atStart => exact ⟨0, Ha.out.1, rfl, o6⟩
  case round =>
    obtain ⟨k, hk, rfl, ol⟩ := hrel
    by_cases hlt : (k : Int) < T
    · have h6 := ol.blk (i := 1) rfl
      have l6 := lt_of_heap h6
      obtain ⟨a0, a1, a2, a3, a4, a5⟩ := TrAt.cells h6
      simp only [kyT] at a0 a1 a2 a3 a4 a5
      clear h6
      go_wp2_with fail
      refine (tRekey_own ol 2 rfl (kyT k) true).mono ?_
      rintro e w7 ⟨rfl, o7⟩
      rw [ky_send n k (by have := Ha.out.2; omega)] at o7 ⊢
      clear a0 a1 a2 a3 a4 a5 l6 ol
      have h6 := o7.blk (i := 1) rfl
      have l6 := lt_of_heap h6
      have f6 := fun o => frozen_of_heap (o := o) h6
      obtain ⟨a0, a1, a2, a3, a4, a5⟩ := TrAt.cells h6
      clear h6
      simp only [Tr.val, kyT]
      simp only [kyT] at a0 a1 a2 a3 a4 a5
      go_wp2_with fail
      refine ⟨⟨k + 1, by omega, by simp, ?_⟩, ?_⟩
      · exact Own.set6 1 o7 rfl (.int .i64 (((k + 1 : Nat) : Int) + 1)) (.bool true) (.int .u64 0) (.int .i64 1) (.bool true) (.int .u64 0)
      · simp only [intOf]; omega
    · have hk2 : T = (k : Int) := by omega
      subst hk2
      go_wp2_with fail
      clear hk hlt
      obtain ⟨wo, hwo⟩ : ∃ wo : World, wo = wr := ⟨_, rfl⟩
      subst hwo
      generalize hU : b % 9 = U at *
      go_loopw [50] (fun i wr => ∃ m : Nat, (m : Int) ≤ U ∧ i = .int .i64 m ∧ Own w wr [blk C (trObj (kyU m)), blk B (trObj (kyT k)), arena r ⟨200, kyL n (max k m)⟩])
        (fun i _ => (U - intOf i).toNat)
      case atStart => exact ⟨0, Hb.out.1, rfl, by rw [show max k 0 = k by omega]; exact ol⟩
      case round =>
        obtain ⟨m, hm, rfl, ol⟩ := hrel
        by_cases hlt : (m : Int) < U
        · have h6 := ol.blk (i := 0) rfl
          have l6 := lt_of_heap h6
          obtain ⟨a0, a1, a2, a3, a4, a5⟩ := TrAt.cells h6
          simp only [kyU] at a0 a1 a2 a3 a4 a5
          clear h6
          go_wp2_with fail
          refine (tRekey_own ol 2 rfl (kyU m) false).mono ?_
          rintro e w7 ⟨rfl, o7⟩
          rw [ky_recv n k m (by have := Ha.out.2; omega) (by have := Hb.out.2; omega)] at o7 ⊢
          clear a0 a1 a2 a3 a4 a5 l6 ol
          have h6 := o7.blk (i := 0) rfl
          have l6 := lt_of_heap h6
          have f6 := fun o => frozen_of_heap (o := o) h6
          obtain ⟨a0, a1, a2, a3, a4, a5⟩ := TrAt.cells h6
          clear h6
          simp only [Tr.val, kyU]
          simp only [kyU] at a0 a1 a2 a3 a4 a5
          go_wp2_with fail
          refine ⟨⟨m + 1, by omega, by simp, ?_⟩, ?_⟩
          · exact Own.set6 0 o7 rfl (.int .i64 1) (.bool true) (.int .u64 0) (.int .i64 (((m + 1 : Nat) : Int) + 1)) (.bool true) (.int .u64 0)
          · simp only [intOf]; omega
        · have hk3 : U = (m : Int) := by omega
          subst hk3
          have h6 := ol.blk (i := 1) rfl
          have l6 := lt_of_heap h6
          obtain ⟨a0, a1, a2, a3, a4, a5⟩ := TrAt.cells h6
          simp only [kyT] at a0 a1 a2 a3 a4 a5
          clear h6
          go_wp2_with fail
          refine (tSeal_own ol 2 rfl (kyT k) 1 (by simp only [kyT]; omega) (by simp only [kyT]; omega)).mono ?_
          rintro e w7 ⟨rfl, o7⟩
          rw [ky_seal n k (max k m) (by omega) (by have := Ha.out.2; have := Hb.out.2; omega)] at o7 ⊢
          clear a0 a1 a2 a3 a4 a5 l6 ol
          have h6 := o7.blk (i := 0) rfl
          have l6 := lt_of_heap h6
          obtain ⟨a0, a1, a2, a3, a4, a5⟩ := TrAt.cells h6
          simp only [kyU] at a0 a1 a2 a3 a4 a5
          clear h6
          simp only [Tr.val]
          generalize hM : 2 + ((max k m : Nat) : Int) = X at *
          go_wp2_with fail
          refine (tOpen_own (o7.alloc (trObj ⟨⟨(k : Int) + 1, true, 1⟩, ⟨1, true, 0⟩⟩)) 3 rfl (kyU m) X (by simp [kyU]) (by simp [kyU])).mono ?_
          rintro e w8 ⟨rfl, o8⟩
          rw [← hM, ky_open n k m (max k m) (by omega) (by omega)]
          by_cases h : k = m
          · rw [if_pos h]
            subst h
            simp only [Tr.val]
            go_wp2_with (go_quiet (fail))
            refine (awake _).mono ?_
            rintro e w9 ⟨rfl, b9⟩
            go_wp2_with fail
            go_ret
            exact ⟨rfl, ((o8.alloc _).call b9).below⟩
          · rw [if_neg h]
            have hd : ((k : Int) == (m : Int)) = false := by simp; omega
            clear h
            simp only [Tr.val, Tr.zero, Ci.zero]
            go_wp2_with (go_quiet (fail))
            refine (awake _).mono ?_
            rintro e w9 ⟨rfl, b9⟩
            go_wp2_with fail
            go_ret
            exact ⟨rfl, ((o8.alloc _).call b9).below⟩
end Go.Proofs.Ytgcjhmffndijhaa
