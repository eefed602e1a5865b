/- The law's own check of two messages: it answers true, and leaves what was there as it was. -/
import Derived.Test.YtgcjhmffndijhaaOwnT
namespace Go.Proofs.Ytgcjhmffndijhaa
open Go.RowKit

set_option maxHeartbeats 3200000 in
set_option maxRecDepth 100000 in
theorem awake (w : World) : Calls Try.prog 14 #[] w fun e w' => e = .returned (.bool true) ∧ Below w.heap.size w w' := by
  go_enter Try.func14, Try.ntmps14
  go_wp2_with fail
  refine (new_own (Own.start w) 20).mono ?_
  rintro e w1 ⟨r, rfl, o1⟩
  go_wp2_with fail
  refine (mk_own o1 0 rfl ⟨1, 1, 0, 0, 0⟩ (by decide) (by decide)).mono ?_
  rintro e w2 ⟨rfl, o2⟩
  have e2 : mk (newAr 20) ⟨1, 1, 0, 0, 0⟩ = (⟨20, [Nd.zero, ⟨1, 1, 0, 0, 0⟩]⟩, 1, 0) := by rfl
  rw [e2] at o2 ⊢
  clear o1 e2
  go_wp2_with fail
  refine (mk_own o2 0 rfl ⟨1, 2, 0, 0, 0⟩ (by decide) (by decide)).mono ?_
  rintro e w3 ⟨rfl, o3⟩
  have e3 : mk ⟨20, [Nd.zero, ⟨1, 1, 0, 0, 0⟩]⟩ ⟨1, 2, 0, 0, 0⟩ = (⟨20, [Nd.zero, ⟨1, 1, 0, 0, 0⟩, ⟨1, 2, 0, 0, 0⟩]⟩, 2, 0) := by rfl
  rw [e3] at o3 ⊢
  clear o2 e3
  go_wp2_with fail
  refine (cNew_calls 1 _).mono ?_
  rintro e w4 ⟨rfl, b4⟩
  have o4 := o3.call b4
  clear b4 o3
  go_wp2_with fail
  refine (cNew_calls 2 _).mono ?_
  rintro e w5 ⟨rfl, b5⟩
  have o5 := (o4.call b5).alloc (trObj ⟨⟨1, true, 0⟩, ⟨2, true, 0⟩⟩)
  clear b5 o4
  simp only [Ci.val]
  go_wp2_with fail
  refine (tSeal_own o5 1 rfl ⟨⟨1, true, 0⟩, ⟨2, true, 0⟩⟩ 2 (by decide) (by decide)).mono ?_
  rintro e w6 ⟨rfl, o6⟩
  have e6 : sealT ⟨20, [Nd.zero, ⟨1, 1, 0, 0, 0⟩, ⟨1, 2, 0, 0, 0⟩]⟩ ⟨⟨1, true, 0⟩, ⟨2, true, 0⟩⟩ 2 = (⟨20, [Nd.zero, ⟨1, 1, 0, 0, 0⟩, ⟨1, 2, 0, 0, 0⟩, ⟨7, 0, 1, 0, 2⟩]⟩, ⟨⟨1, true, 1⟩, ⟨2, true, 0⟩⟩, 3, 0) := by rfl
  rw [e6] at o6 ⊢
  clear o5 e6
  have h6 := o6.blk (i := 0) rfl
  have l6 := lt_of_heap h6
  obtain ⟨a0, a1, a2, a3, a4, a5⟩ := TrAt.cells h6
  simp only [Tr.val]
  go_wp2_with fail
  refine (turned_calls ⟨⟨1, true, 0⟩, ⟨2, true, 0⟩⟩ _).mono ?_
  rintro e w7 ⟨rfl, b7⟩
  have o7 := (o6.alloc (trObj ⟨⟨1, true, 1⟩, ⟨2, true, 0⟩⟩)).call b7
  clear b7 o6 h6 l6 a0 a1 a2 a3 a4 a5
  simp only [Tr.turned]
  go_wp2_with fail
  refine (tOpen_own o7 2 rfl ⟨⟨2, true, 0⟩, ⟨1, true, 0⟩⟩ 3 (by decide) (by decide)).mono ?_
  rintro e w8 ⟨rfl, o8⟩
  have e8 : openT [Nd.zero, ⟨1, 1, 0, 0, 0⟩, ⟨1, 2, 0, 0, 0⟩, ⟨7, 0, 1, 0, 2⟩] ⟨⟨2, true, 0⟩, ⟨1, true, 0⟩⟩ 3 = (⟨⟨2, true, 0⟩, ⟨1, true, 1⟩⟩, 2, 0) := by rfl
  rw [e8]
  clear e8 o7
  simp only [Tr.val]
  go_wp2_with fail
  refine (tOpen_own (o8.alloc (trObj ⟨⟨2, true, 0⟩, ⟨1, true, 1⟩⟩)) 3 rfl ⟨⟨2, true, 0⟩, ⟨1, true, 1⟩⟩ 3 (by decide) (by decide)).mono ?_
  rintro e w9 ⟨rfl, o9⟩
  have e9 : openT [Nd.zero, ⟨1, 1, 0, 0, 0⟩, ⟨1, 2, 0, 0, 0⟩, ⟨7, 0, 1, 0, 2⟩] ⟨⟨2, true, 0⟩, ⟨1, true, 1⟩⟩ 3 = (Tr.zero, 0, 7) := by rfl
  rw [e9]
  clear e9 o8
  simp only [Tr.val, Tr.zero, Ci.zero]
  have h10 := o9.blk (i := 0) rfl
  have l10 := lt_of_heap h10
  obtain ⟨a0, a1, a2, a3, a4, a5⟩ := TrAt.cells h10
  have h7 := o9.blk (i := 1) rfl
  have l7 := lt_of_heap h7
  obtain ⟨c0, c1, c2, c3, c4, c5⟩ := TrAt.cells h7
  clear h10 h7
  go_wp2_with fail
  go_region_held3 (fun w' => w'.cell? ⟨w8.heap.size, 0, none⟩ = some (.int .i64 2) ∧ w'.cell? ⟨w8.heap.size, 1, none⟩ = some (.bool true) ∧ w'.cell? ⟨w8.heap.size, 2, none⟩ = some (.int .u64 0) ∧ w'.cell? ⟨w8.heap.size, 3, none⟩ = some (.int .i64 1) ∧ w'.cell? ⟨w8.heap.size, 4, none⟩ = some (.bool true) ∧ w'.cell? ⟨w8.heap.size, 5, none⟩ = some (.int .u64 1)
      ∧ w'.cell? ⟨w6.heap.size, 0, none⟩ = some (.int .i64 1) ∧ w'.cell? ⟨w6.heap.size, 1, none⟩ = some (.bool true) ∧ w'.cell? ⟨w6.heap.size, 2, none⟩ = some (.int .u64 1) ∧ w'.cell? ⟨w6.heap.size, 3, none⟩ = some (.int .i64 2) ∧ w'.cell? ⟨w6.heap.size, 4, none⟩ = some (.bool true) ∧ w'.cell? ⟨w6.heap.size, 5, none⟩ = some (.int .u64 0))
    (first | go_keep)
    (first | (go_at_call 17; refine (turned_calls ⟨⟨1, true, 1⟩, ⟨2, true, 0⟩⟩ _).mono ?_; rintro e w11 ⟨rfl, b11⟩
              have o11 := (o9.alloc (trObj ⟨⟨0, false, 0⟩, ⟨0, false, 0⟩⟩)).drew.call b11
              obtain ⟨x0, x1, x2, x3, x4, x5⟩ := TrAt.cells (o11.blk (i := 1) rfl)
              obtain ⟨y0, y1, y2, y3, y4, y5⟩ := TrAt.cells (o11.blk (i := 2) rfl)
              simp only [Tr.val, Tr.turned]))
  go_wp2_with fail
  go_ret
  exact ⟨rfl, o11.below⟩
end Go.Proofs.Ytgcjhmffndijhaa
