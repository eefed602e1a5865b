/- The document's New of layer 1; a node as the document has it; the document's arena among the things that a law has made. -/
import Derived.Test.YtfelbecofbdeaaaGreatDoorRef4
import Derived.Test.YtfelbecofbdeaaaGreatDoorOwnA
import Derived.Test.YtfelbecofbdeaaaGreatDoorOwnA
namespace Go.Proofs.YtfelbecofbdeaaaGreatDoor
open Go.RowKit

def refT (g cap : Nat) (l : List Nd) : Thing where
  P w S := RefAt w g cap l ∧ ∀ k, S k ↔ k = g
  lt w S h k hk := by rw [h.2] at hk; subst hk; exact (h.1.lt k rfl).2
  keep w w' S T h u hd := ⟨ownsRow_upd' h.1 u (fun k hk => hd k ((h.2 k).2 (by simp [Value.ownBlock] at hk; exact hk.symm))), h.2⟩
theorem Own.ref {w0 w : World} {L : List Thing} {i g cap : Nat} {l : List Nd} (h : Own w0 w L) (hi : L[i]? = some (refT g cap l)) : RefAt w g cap l := by
  obtain ⟨S, h1, _⟩ := h.at hi; exact h1.1
theorem Own.newRef {w0 w w' : World} {L : List Thing} {i g cap g' cap' : Nat} {l l' : List Nd} (h : Own w0 w L) (hi : L[i]? = some (refT g cap l)) (hb : Below w.heap.size w w') (hr : RefAt w' g' cap' l') (hg : g' = g ∨ w.heap.size ≤ g') : Own w0 w' (L.set i (refT g' cap' l')) := by
  obtain ⟨S, hp, hk⟩ := h.upd hi
  exact hk w' (refT g' cap' l') (fun k => k = g') (Upd.of_below hb) ⟨hr, fun _ => Iff.rfl⟩ (fun b hb => hg.imp (fun e => (hp.2 b).2 (by omega)) (fun e => by omega))
def RNewPost (limit : Int) (w : World) (e : Ending) (w' : World) : Prop := ∃ g cap, e = .returned (refV (newAr limit) g cap) ∧ RefAt w' g cap [Nd.zero] ∧ Below w.heap.size w w' ∧ w.heap.size ≤ g
theorem refat_new {w : World} {g : Nat} (h : w.heap[g]? = some (.cells #[.int .i64 0, .int .u64 0, .int .i64 0, .int .i64 0, .int .i64 0] 65 (0, 0))) : RefAt w g 1 [Nd.zero] :=
  ⟨by simp [Nd.cells], .inr ⟨g, 1, _, rfl, Nat.zero_le _, h, Nat.le_refl _, by unfold maxLen; simp, rfl, rfl⟩⟩
set_option maxHeartbeats 800000 in
set_option maxRecDepth 100000 in
theorem rNew_calls (limit : Int) (w : World) : Calls Tryz.prog 11 #[.int .i64 limit] w (RNewPost limit w) := by
  by_cases h1 : limit < 1
  · have hd1 : decide (limit < 1) = true := decide_eq_true h1
    have Hl := Lib.hid (show newAr limit = ⟨1, [Nd.zero]⟩ by simp [newAr]; omega)
    clear h1
    go_enter Tryz.func11, Tryz.ntmps11
    go_wp2_with fail
    have hfin := (two_new w (.cells #[.int .i64 1, .slice (some ⟨w.heap.size + 1, 0, none⟩) 1 1] 27) (.cells #[.int .i64 0, .int .u64 0, .int .i64 0, .int .i64 0, .int .i64 0] 65))
    refine bodyPost_ret (v := refV (newAr limit) (w.heap.size + 1) 1) (by rw [Hl.out]; simp [results, Tryz.results11, go_sem, refV, cell_of_heap hfin.1]) rfl ⟨_, _, rfl, refat_new hfin.2, below2 w _ _, by omega⟩
  · by_cases h2 : 65536 < limit
    · have hd1 : decide (limit < 1) = false := decide_eq_false h1
      have hd2 : decide (65536 < limit) = true := decide_eq_true h2
      have Hl := Lib.hid (show newAr limit = ⟨65536, [Nd.zero]⟩ by simp [newAr]; omega)
      clear h1 h2
      go_enter Tryz.func11, Tryz.ntmps11
      go_wp2_with fail
      have hfin := (two_new w (.cells #[.int .i64 65536, .slice (some ⟨w.heap.size + 1, 0, none⟩) 1 1] 27) (.cells #[.int .i64 0, .int .u64 0, .int .i64 0, .int .i64 0, .int .i64 0] 65))
      refine bodyPost_ret (v := refV (newAr limit) (w.heap.size + 1) 1) (by rw [Hl.out]; simp [results, Tryz.results11, go_sem, refV, cell_of_heap hfin.1]) rfl ⟨_, _, rfl, refat_new hfin.2, below2 w _ _, by omega⟩
    · have hd1 : decide (limit < 1) = false := decide_eq_false h1
      have hd2 : decide (65536 < limit) = false := decide_eq_false h2
      obtain ⟨m, rfl⟩ : ∃ m : Nat, limit = m := ⟨limit.toNat, by omega⟩
      have Hl := Lib.hid (show newAr (m : Int) = ⟨m, [Nd.zero]⟩ by simp [newAr]; omega)
      clear h1 h2
      go_enter Tryz.func11, Tryz.ntmps11
      go_wp2_with fail
      have hfin := (two_new w (.cells #[.int .i64 m, .slice (some ⟨w.heap.size + 1, 0, none⟩) 1 1] 27) (.cells #[.int .i64 0, .int .u64 0, .int .i64 0, .int .i64 0, .int .i64 0] 65))
      refine bodyPost_ret (v := refV (newAr (m : Int)) (w.heap.size + 1) 1) (by rw [Hl.out]; simp [results, Tryz.results11, go_sem, refV, cell_of_heap hfin.1]) rfl ⟨_, _, rfl, refat_new hfin.2, below2 w _ _, by omega⟩
def OnePost (x : Nd) (w : World) (e : Ending) (w' : World) : Prop := e = .returned x.val ∧ Below w.heap.size w w'
set_option maxHeartbeats 800000 in
theorem one_calls (x : Nd) (w : World) : Calls Tryz.prog 29 #[x.val] w (OnePost x w) := by
  unfold Nd.val
  go_enter Tryz.func29, Tryz.ntmps29
  go_wp2_with fail
  have hfin := (two_new w (.cells #[.int .i64 x.kind, .int .u64 x.n, .int .i64 x.a, .int .i64 x.b, .int .i64 x.c] 61) (.cells #[.int .i64 x.kind, .int .u64 x.n, .int .i64 x.a, .int .i64 x.b, .int .i64 x.c] 65))
  refine bodyPost_ret (v := x.val) (by simp [results, Tryz.results29, go_sem, Nd.val, cell_of_heap hfin.2]) rfl ⟨rfl, below2 w _ _⟩
end Go.Proofs.YtfelbecofbdeaaaGreatDoor
