/- The law's own check of a box of room one: it answers true, and leaves what was there as it was. -/
import Derived.Test.YtpngaghmojcjnaaAll
namespace Go.Proofs.Ytpngaghmojcjnaa
open Go.RowKit

theorem room1 : roomOf 1 = 1 := by decide
set_option maxHeartbeats 1600000 in
set_option maxRecDepth 100000 in
theorem awake (w : World) : Calls Try.prog 8 #[] w fun e w' => e = .returned (.bool true) ∧ Below w.heap.size w w' := by
  go_enter Try.func8, Try.ntmps8
  go_wp2_with fail
  refine (new_int _ _).mono ?_
  rintro e w1 ⟨rfl, hb1, hu1, hs1⟩
  rw [room1] at hb1
  clear hs1
  go_wp2_with fail
  refine (put_int_room _ hb1 (by decide)).mono ?_
  rintro e w2 ⟨rfl, hb2, ht2⟩
  have hu2 := hu1.trans (ht2.below (Nat.le_refl _))
  clear hb1 hu1 ht2
  go_wp2_with fail
  refine (put_int_full _ hb2 (by decide)).mono ?_
  rintro e w3 ⟨rfl, hb3, ht3⟩
  have hu3 := hu2.trans (ht3.below (Nat.le_refl _))
  clear hb2 hu2 ht3
  go_wp2_with fail
  refine (take_int_some hb3).mono ?_
  rintro e w4 ⟨rfl, hb4, ht4⟩
  have hu4 := hu3.trans (ht4.below (Nat.le_refl _))
  clear hb3 hu3 ht4
  go_wp2_with fail
  refine (take_int_none hb4).mono ?_
  rintro e w5 ⟨rfl, hb5, ht5⟩
  have hu5 := hu4.trans (ht5.below (Nat.le_refl _))
  clear hb4 hu4 ht5
  go_wp2_with fail
  refine (len_int hb5).mono ?_
  rintro e w6 ⟨rfl, rfl⟩
  go_wp2_with fail
  go_ret
  exact ⟨rfl, hu5⟩
end Go.Proofs.Ytpngaghmojcjnaa
