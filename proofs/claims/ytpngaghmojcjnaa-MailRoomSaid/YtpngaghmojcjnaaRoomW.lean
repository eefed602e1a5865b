/- The walk of MailRoom: for every room it answers true. -/
import Derived.Test.YtpngaghmojcjnaaAwake
namespace Go.Proofs.Ytpngaghmojcjnaa
open Go.RowKit

def xstr : Value := .string ⟨#[120]⟩
set_option maxHeartbeats 3200000 in
set_option maxRecDepth 100000 in
theorem room_walk (room : Int) (W : World) : Calls Try.prog 4 #[.int .i64 room] W fun e w' => e = .returned (.bool true) ∧ Below W.heap.size W w' := by
  have hr1 := roomOf_pos room
  have hr2 := roomOf_le room
  have hr3 := Lib.hid (roomOf_cast room)
  go_enter Try.func4, Try.ntmps4
  go_wp2_with fail
  refine (new_str _ _).mono ?_
  rintro e w1 ⟨rfl, hb1, hu1, hs1⟩
  clear hs1
  generalize roomOf room = R at *
  generalize W.heap.size + 1 = b at *
  go_wp2_with fail
  go_loopw [4, 9] (fun n i wr => ∃ k : Nat, k ≤ 70 ∧ i = .int .i64 k ∧ n = .int .i64 ((min k R : Nat) : Int) ∧ BoxIs 58 wr b W.heap.size R (List.replicate (min k R) (.string ⟨#[120]⟩)) ∧ Below W.heap.size W wr)
    (fun _ i _ => 70 - (intOf i).toNat)
  case atStart => exact ⟨0, Nat.zero_le _, rfl, by simp, by simpa using hb1, hu1⟩
  case round =>
    obtain ⟨k, hk, rfl, rfl, hbx, hu⟩ := hrel
    by_cases hlt : k < 70
    · by_cases hroom : k < R
      · have hm : min k R = k := by omega
        rw [hm] at hbx ⊢
        go_wp2_with fail
        refine (put_str_room _ hbx (by simpa using hroom)).mono ?_
        rintro e w2 ⟨rfl, hb2, ht2⟩
        rw [← List.replicate_succ'] at hb2
        go_wp2_with fail
        go_roundw
        case rel => exact ⟨k + 1, by omega, by go_num, by rw [show min (k + 1) R = k + 1 by omega]; go_num, by rw [show min (k + 1) R = k + 1 by omega]; exact hb2, hu.trans (ht2.below (Nat.le_refl _))⟩
        case measure => simp [intOf]; omega
      · have hm : min k R = R := by omega
        rw [hm] at hbx ⊢
        go_wp2_with fail
        refine (put_str_full _ hbx (by simp)).mono ?_
        rintro e w2 ⟨rfl, hb2, ht2⟩
        go_wp2_with fail
        go_roundw
        case rel => exact ⟨k + 1, by omega, by go_num, by rw [show min (k + 1) R = R by omega], by rw [show min (k + 1) R = R by omega]; exact hb2, hu.trans (ht2.below (Nat.le_refl _))⟩
        case measure => simp [intOf]; omega
    · have hm : min k R = R := by omega
      rw [hm] at hbx ⊢
      have hr4 := hr3.out
      have h1 : ((R : Int) == min (max room 1) 64) = true := by rw [beq_iff_eq]; exact hr4
      have h2 : ((R : Int) == (R : Int)) = true := beq_self_eq_true _
      clear hr4
      go_wp2_with fail
      refine (len_str hbx).mono ?_
      rintro e w2 ⟨rfl, rfl⟩
      rw [List.length_replicate]
      go_wp2_with fail
      refine (all_str hbx (by simp; omega) (by simp) (fun u hu => ⟨_, List.eq_of_mem_replicate hu⟩)).mono ?_
      rintro e w3 ⟨v, rfl, hown, hb3, hu3⟩
      rw [List.length_replicate] at hown
      have hu4 := hu.trans (hu3.below (B := W.heap.size) hu.size (fun k hk e => by unfold One at e; omega))
      obtain ⟨A, c, rfl, -, -⟩ := holds_of_owns hown
      clear hown hu3 hu hb1 hu1 hbx hb3
      go_wp2_with fail
      refine (awake _).mono ?_
      rintro e w5 ⟨rfl, hu5⟩
      go_wp2_with fail
      go_ret
      exact ⟨rfl, hu4.trans (hu5.mono hu4.size)⟩
end Go.Proofs.Ytpngaghmojcjnaa
