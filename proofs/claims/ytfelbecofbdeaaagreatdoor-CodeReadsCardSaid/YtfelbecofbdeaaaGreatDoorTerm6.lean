/- New of layer 1: an arena of its own, in new memory. -/
import Derived.Test.YtfelbecofbdeaaaGreatDoorTerm5
namespace Go.Proofs.YtfelbecofbdeaaaGreatDoor
open Go.RowKit

def NewPost (limit : Int) (w : World) (e : Ending) (w' : World) : Prop :=
  ∃ r S, e = .returned (.pointer (some ⟨r, 0, none⟩)) ∧ IsArena w' r (newAr limit) S ∧ Below w.heap.size w w' ∧ ∀ b, S b → w.heap.size ≤ b
theorem wf_new : Wf [Nd.zero] := by
  refine ⟨rfl, by simp, ?_, ?_, ?_⟩
  · intro i n hi k
    match i, hi with
    | 0, hi =>
      simp at hi; subst hi
      have : Nd.zero.part k = 0 := by unfold Nd.part Nd.zero; (repeat' split) <;> rfl
      omega
  · intro n hn; simp at hn; subst hn; simp [Nd.zero]
  · intro n hn; simp at hn; subst hn; simp [Nd.zero, numberedP]
set_option maxHeartbeats 1600000 in
set_option maxRecDepth 100000 in
theorem newArena_calls (limit : Int) (w : World) : Calls Tryz.prog 23 #[.int .i64 limit] w (NewPost limit w) := by
  have hmap := @run_makeMap Tryz.prog
  have m0 : MapIs Nd.val ((w.alloc (.cells #[.int .i64 0, .int .u64 0, .int .i64 0, .int .i64 0, .int .i64 0] 61)).alloc (.map #[] 0)) (w.heap.size + 1) [] := ⟨#[], 0, (two_new w _ _).2, rfl⟩
  obtain ⟨w2, r2, m2, u2, s2, d2⟩ := update_ok keyOk_nd Tryz.underlying99 m0 Nd.zero (.int .i64 0)
  simp only [Nd.val, Nd.zero] at r2
  have hs2 : w2.heap.size = w.heap.size + 2 := by rw [s2]; simp
  have Hs2 := Lib.hid hs2
  clear hs2 s2 d2
  have hlim : ((newAr limit).limit : Int) = min (max limit 1) 65536 := by simp [newAr]; omega
  have Hlim := Lib.hid hlim
  clear hlim
  go_enter Tryz.func23, Tryz.ntmps23
  go_wp2
  go_ret
  have hb2 : Below w.heap.size w w2 := (((Below.refl _ _).alloc (Nat.le_refl _) _).alloc (by simp) _).trans (u2.below (B := w.heap.size) (by simp; omega) (fun k hk e => by unfold One at e; omega))
  have hrow : w2.heap[w.heap.size]? = some (.cells #[.int .i64 0, .int .u64 0, .int .i64 0, .int .i64 0, .int .i64 0] 61 (0, 0)) :=
    u2.heap (two_new w _ _).1 (fun e => by unfold One at e; omega)
  refine ⟨w2.heap.size, fun b => b = w.heap.size ∨ b = w.heap.size + 1 ∨ b = w.heap.size + 2, by rw [Hs2.out]; rfl, ⟨w.heap.size, w.heap.size + 1, 1, ⟨?_, ?_, ?_, ?_, ?_⟩, .inr (.inr Hs2.out), .inl rfl, .inr (.inl rfl), ?_⟩, hb2.alloc hb2.size _, fun b hb => by omega⟩
  · rw [heap_alloc_new w2 _, Hlim.out]; rfl
  · refine World.ownsRow.alloc ⟨by simp [newAr, Nd.cells], .inr ⟨w.heap.size, 1, _, rfl, Nat.zero_le _, hrow, Nat.le_refl _, by simp [maxLen], rfl, ?_⟩⟩ _
    simp [newAr, Nd.cells, Nd.zero]
  · exact m2.upd (S := None) ((Upd.refl _ _).alloc _) (fun h => h)
  · exact wf_new
  · simp only [newAr, List.length_cons, List.length_nil]; omega
  · intro b hb; have := Hs2.out; simp; omega
end Go.Proofs.YtfelbecofbdeaaaGreatDoor
