/- The law's own check of a key that is there twice: it answers true, and leaves what was there as it was. -/
import Derived.Test.YtfelbecofbdeaaaGreatDoorDev
namespace Go.Proofs.YtfelbecofbdeaaaGreatDoor
open Go.RowKit

set_option maxHeartbeats 1600000 in
set_option maxRecDepth 100000 in
theorem awake15 (w : World) : Calls Tryz.prog 12 #[] w fun e w' => e = .returned (.bool true) ∧ Below w.heap.size w w' := by
  go_enter Tryz.func12, Tryz.ntmps12
  go_wp2_with fail
  refine (dNew_own (Own.start w) 3 1 1 rfl).mono ?_
  rintro e w1 ⟨d, r1, r2, rfl, o1⟩
  go_wp2_with fail
  refine (dAdd_own (D := ⟨3, 1, 1, [], []⟩) o1 0 2 rfl rfl 1 5).mono ?_
  rintro e w2 ⟨rfl, o2⟩
  have e2 : addD ⟨3, 1, 1, [], []⟩ 1 5 = ([(1, 5)], 0) := by rfl
  rw [e2] at o2 ⊢
  clear o1 e2
  go_wp2_with fail
  refine (dAdd_own (D := ⟨3, 1, 1, [(1, 5)], []⟩) o2 0 2 rfl rfl 2 5).mono ?_
  rintro e w3 ⟨rfl, o3⟩
  have e3 : addD ⟨3, 1, 1, [(1, 5)], []⟩ 2 5 = ([(1, 5)], 4) := by rfl
  rw [e3] at o3 ⊢
  clear o2 e3
  go_wp2_with fail
  obtain ⟨S, hs⟩ := o3.storeAt (i := 2) (r := r1) (s := stI [(1, 5)]) rfl
  refine (acc_calls (D := ⟨3, 1, 1, [(1, 5)], []⟩) (o3.blk (i := 0) rfl) hs 5).mono ?_
  rintro e w4 ⟨rfl, b4⟩
  have e4 : accD ⟨3, 1, 1, [(1, 5)], []⟩ 5 = (1, 0) := by rfl
  rw [e4]
  have o4 := o3.call b4
  clear hs b4 o3 e4
  go_wp2_with fail
  obtain ⟨S, hs⟩ := o4.storeAt (i := 2) (r := r1) (s := stI [(1, 5)]) rfl
  refine (acc_calls (D := ⟨3, 1, 1, [(1, 5)], []⟩) (o4.blk (i := 0) rfl) hs 6).mono ?_
  rintro e w5 ⟨rfl, b5⟩
  have e5 : accD ⟨3, 1, 1, [(1, 5)], []⟩ 6 = (0, 11) := by rfl
  rw [e5]
  have o5 := o4.call b5
  clear hs b5 o4 e5
  go_wp2_with fail
  refine (dPeers_own (D := ⟨3, 1, 1, [(1, 5)], []⟩) o5 0 2 rfl rfl).mono ?_
  rintro e w6 ⟨v, rfl, o6⟩
  obtain ⟨A, c, rfl⟩ := row_form (o6.row (i := 0) rfl)
  clear o5
  go_wp2_with fail
  refine (id_calls (D := ⟨3, 1, 1, [(1, 5)], []⟩) (o6.blk (i := 1) rfl)).mono ?_
  rintro e w7 ⟨rfl, rfl⟩
  go_wp2_with fail
  go_ret
  exact ⟨rfl, o6.below⟩
end Go.Proofs.YtfelbecofbdeaaaGreatDoor
