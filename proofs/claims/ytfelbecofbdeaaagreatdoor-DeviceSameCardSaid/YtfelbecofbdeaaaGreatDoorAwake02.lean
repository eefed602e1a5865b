/- The law's own check of a public key's text: it answers true, and leaves what was there as it was. -/
import Derived.Test.YtfelbecofbdeaaaGreatDoorCRead
namespace Go.Proofs.YtfelbecofbdeaaaGreatDoor
open Go.RowKit

theorem awake_read : readA (newAr 9) ⟨#[49, 32, 55, 59, 50, 32, 48, 32, 48, 59]⟩ = (⟨9, [Nd.zero, ⟨1, 7, 0, 0, 0⟩, ⟨2, 0, 1, 0, 0⟩]⟩, 2, 0) := by kernel_rfl
theorem awake_text : strO (text [Nd.zero, ⟨1, 7, 0, 0, 0⟩, ⟨2, 0, 1, 0, 0⟩] 2) = ⟨#[49, 32, 55, 59, 50, 32, 48, 32, 48, 59]⟩ := by kernel_rfl
theorem awake_size : (rowsA [Nd.zero, ⟨1, 7, 0, 0, 0⟩, ⟨2, 0, 1, 0, 0⟩] [] 2).length = 2 := by decide +kernel
set_option maxHeartbeats 1600000 in
set_option maxRecDepth 100000 in
theorem awake (w : World) (he : Env w) : Calls Tryz.prog 6 #[] w fun e w' => e = .returned (.bool true) ∧ Below w.heap.size w w' := by
  have HE := Lib.hid he
  clear he
  have HR := Lib.hid awake_read
  have HT := Lib.hid awake_text
  have HS := Lib.hid awake_size
  generalize hK : (⟨#[49, 32, 55, 59, 50, 32, 48, 32, 48, 59]⟩ : ByteArray) = K at *
  have Hsz := Lib.hid (show K.size ≤ maxLen by rw [← hK]; decide)
  have hKK : (K.toList == K.toList) = true := by simp
  go_enter Tryz.func6, Tryz.ntmps6
  go_wp2_with fail
  refine (new_own (Own.start w) 9).mono ?_
  rintro e w1 ⟨r, rfl, o1⟩
  have O1 := Lib.hid o1
  clear o1
  go_wp2_with fail
  refine (read_calls O1.out HE.out K Hsz.out).mono ?_
  rintro e w2 ⟨rfl, o2⟩
  rw [HR.out] at o2 ⊢
  have O2 := Lib.hid o2
  clear o2
  have HL := Lib.hid (show ([Nd.zero, ⟨1, 7, 0, 0, 0⟩, ⟨2, 0, 1, 0, 0⟩] : List Nd).length = 3 from rfl)
  generalize ([Nd.zero, ⟨1, 7, 0, 0, 0⟩, ⟨2, 0, 1, 0, 0⟩] : List Nd) = l at *
  dsimp only
  go_wp2_with fail
  refine (write_own O2.out HE.out 0 rfl 2).mono ?_
  rintro e w3 ⟨rfl, o3⟩
  rw [HT.out]
  have O3 := Lib.hid o3
  clear o3
  go_wp2_with fail
  refine (size_own O3.out 0 rfl 2).mono ?_
  rintro e w4 ⟨rfl, o4⟩
  rw [HS.out]
  have O4 := Lib.hid o4
  clear o4
  go_wp2_with fail
  obtain ⟨S, hr⟩ := O4.out.arena (i := 0) rfl
  refine (len_calls hr).mono ?_
  rintro e w5 ⟨rfl, rfl⟩
  dsimp only
  rw [HL.out]
  clear hr
  go_wp2_with fail
  go_ret
  exact ⟨rfl, O4.out.below⟩
end Go.Proofs.YtfelbecofbdeaaaGreatDoor
