/- Copy of layer 1: another arena with the same terms. -/
import Derived.Test.YtfelbecofbdeaaaGreatDoorOwnA
import Derived.Test.YtfelbecofbdeaaaGreatDoorMth
import Derived.Shelf.SlMaps.Clone
import Derived.Lib.SliceRun
namespace Go.Proofs.YtfelbecofbdeaaaGreatDoor
open Go.RowKit

set_option maxHeartbeats 1000000 in
set_option maxRecDepth 100000 in
theorem cloneMap_calls {w : World} {bm : Nat} {l : List (Nd × Value)} (h : MapIs Nd.val w bm l) :
    Calls Tryz.prog 64 #[.map (some bm)] w fun e w' => e = .returned (.map (some w.heap.size)) ∧ MapIs Nd.val w' w.heap.size l ∧ Below w.heap.size w w' := by
  obtain ⟨es, clock, h1, h2⟩ := h
  have hq := fun w => run_eql_map_nil_sl (P := Tryz.prog) w 99 _ _ (some bm) Tryz.underlying99
  have H2 := Lib.hid h2
  clear h2
  go_enter Tryz.func64, Tryz.ntmps64
  go_wp2_with fail
  rw [run_callFunc_extern Tryz.func93 (by kernel_rfl) (by kernel_rfl) (by kernel_rfl) (e := Extern.MapsClone.clone) (by kernel_rfl), run_maps_clone_sl w 99 h1]
  simp only [Result.andThen]
  rw [Oper.upon_value]
  go_wp2_with fail
  rw [run_typeAssert_map_sl _ 99 20 _ _ _ Tryz.underlying99]
  simp only [Result.andThen]
  rw [Oper.upon_value]
  go_wp2_with fail
  go_ret
  exact ⟨rfl, ⟨es, clock, new_at rfl, H2.out⟩, (Below.refl _ _).alloc (Nat.le_refl _) _⟩
theorem ninfo : (Tryz.prog.info? 61).map (fun i => (i.zero, i.size, i.bytes)) = some (some (.agg #[.int .i64 0, .int .u64 0, .int .i64 0, .int .i64 0, .int .i64 0]), 5, 40) := by kernel_rfl
def CloneNPost (n : Nat) (xs : List Value) (w : World) (e : Ending) (w' : World) : Prop :=
  ∃ v, e = .returned v ∧ w'.ownsRow w.heap.size 61 5 v n xs ∧ Below w.heap.size w w'
set_option maxHeartbeats 1600000 in
set_option maxRecDepth 100000 in
theorem cloneNodes_calls {w : World} {g n c : Nat} {xs : List Value} (h : w.ownsRow 0 61 5 (.slice (some ⟨g, 0, none⟩) n c) n xs) (hn : n ≤ 65536) (h1 : ∀ u ∈ xs, u.oneCell' = true) :
    Calls Tryz.prog 63 #[.slice (some ⟨g, 0, none⟩) n c] w (CloneNPost n xs w) := by
  have hg := (h.lt g rfl).2
  have hnews : News w (some ⟨g, 0, none⟩) 5 n xs := by obtain ⟨A, c', e, hN, -⟩ := News.of_owns h; cases e; exact hN
  have HN := Lib.hid hnews
  have H1 := Lib.hid h1
  clear h hnews h1
  have hq := fun w => Lib.run_eql_slice_nil (P := Tryz.prog) w 22 61 (some ⟨g, 0, none⟩) n c 0 0 Tryz.underlying22
  go_enter Tryz.func63, Tryz.ntmps63
  go_wp2_with (at_builtin; go_loud (refine wpList_cat (W := w) (belowAlloc (Below.refl _ _) _) rfl (.tmp 5) (.tmp 6) 22 rfl 61 (.agg #[.int .i64 0, .int .u64 0, .int .i64 0, .int .i64 0, .int .i64 0]) 5 40 Tryz.underlying22 ninfo rfl (by decide) (.slice (some ⟨w.heap.size, 0, none⟩) 0 0) 0 [] rfl (owns_empty 5 (Nat.le_refl _) (new_at rfl)) (some ⟨g, 0, none⟩) n c xs rfl (News.upd HN.out (belowAlloc (Below.refl _ _) _) (by rintro ad ⟨⟩; exact hg)) H1.out (by unfold maxLen; omega) (by omega) ?_))
  intro v' w' h2 h3 h4
  obtain ⟨A2, c2, rfl⟩ : ∃ A c, v' = .slice A n c := by
    rcases h2.2 with ⟨h5, h6⟩ | ⟨g', cp, cur, h5, _⟩
    · exact ⟨none, 0, by rw [h5, h6]⟩
    · exact ⟨_, _, h5⟩
  have H2 := Lib.hid h2
  have H3 := Lib.hid h3
  clear h2 h3 h4
  go_wp2_with fail
  go_ret
  exact ⟨.slice A2 n c2, rfl, H2.out, H3.out⟩
theorem nd_one (l : List Nd) : ∀ u ∈ l.flatMap Nd.cells, u.oneCell' = true := by
  intro u hu
  rw [List.mem_flatMap] at hu
  obtain ⟨x, _, hx⟩ := hu
  simp only [Nd.cells, List.mem_cons, List.not_mem_nil, or_false] at hx
  rcases hx with rfl | rfl | rfl | rfl | rfl <;> rfl
def CopyPost (A : Ar) (w : World) (e : Ending) (w' : World) : Prop :=
  ∃ r S, e = .returned (.pointer (some ⟨r, 0, none⟩)) ∧ IsArena w' r A S ∧ Below w.heap.size w w' ∧ ∀ b, S b → w.heap.size ≤ b
theorem copy_end {w w' : World} {A : Ar} {r g bm cap : Nat} (hw : Wf A.l) (hr : A.l.length ≤ A.limit ∧ A.limit ≤ 65536)
    (O : Own w w' [blk r (.cells #[.int .i64 A.limit, .slice (some ⟨g, 0, none⟩) A.l.length cap, .map (some bm)] 101 (0, 0)), mapT Nd.val bm (entriesOf A.l), rowT 61 5 (.slice (some ⟨g, 0, none⟩) A.l.length cap) A.l.length (A.l.flatMap Nd.cells)]) :
    CopyPost A w (.returned (.pointer (some ⟨r, 0, none⟩))) w' := by
  obtain ⟨S0, h0, l0⟩ := O.at (i := 0) rfl
  obtain ⟨S1, h1, l1⟩ := O.at (i := 1) rfl
  obtain ⟨S2, h2, l2⟩ := O.at (i := 2) rfl
  refine ⟨r, fun b => b = r ∨ b = g ∨ b = bm, rfl, ⟨g, bm, cap, ⟨h0.1, h2.1, h1.1, hw, hr⟩, .inl rfl, .inr (.inl rfl), .inr (.inr rfl), fun b hb => ?_⟩, O.below, fun b hb => ?_⟩
  · rcases hb with rfl | rfl | rfl
    · exact lt_of_heap h0.1
    · exact (h2.1.lt b rfl).2
    · exact h1.1.lt
  · rcases hb with rfl | rfl | rfl
    · exact l0 b ((h0.2 b).2 rfl)
    · exact l2 b ((h2.2 b).2 rfl)
    · exact l1 b ((h1.2 b).2 rfl)
set_option maxHeartbeats 3200000 in
set_option maxRecDepth 100000 in
theorem copy_calls {S : Nat → Prop} {w : World} {r : Nat} {A : Ar} (h : IsArena w r A S) : Calls Tryz.prog 31 #[.pointer (some ⟨r, 0, none⟩)] w (CopyPost A w) := by
  obtain ⟨g, bm, cap, ha, -⟩ := h
  have HA := Lib.hid ha
  have rl := lt_of_heap ha.root
  have KS := Lib.hid (show ∀ w', Below w.heap.size w w' → (Below w.heap.size w w' ∧ w'.cell? ⟨r, 0, none⟩ = some (.int .i64 A.limit) ∧ w'.cell? ⟨r, 1, none⟩ = some (.slice (some ⟨g, 0, none⟩) A.l.length cap) ∧ w'.cell? ⟨r, 2, none⟩ = some (.map (some bm))) from fun w' hb => by
    have := (hb.block r rl).trans HA.out.root
    exact ⟨hb, cell_of_heap this, cell_of_heap this, cell_of_heap this⟩)
  obtain ⟨-, c0, c1, c2⟩ := KS.out _ (Below.refl _ _)
  have hbb : Below w.heap.size w w := Below.refl _ _
  have HK := Lib.hid (fun w' (hb : Below w.heap.size w w') => (show w'.ownsRow 0 61 5 (.slice (some ⟨g, 0, none⟩) A.l.length cap) A.l.length (A.l.flatMap Nd.cells) ∧ MapIs Nd.val w' bm (entriesOf A.l) from ⟨ownsRow_upd HA.out.row (Upd.of_below (S := None) hb) (fun _ _ h => h), HA.out.map.upd (Upd.of_below (S := None) hb) (fun h => h)⟩))
  have hroom : A.l.length ≤ 65536 := by have := HA.out.room; omega
  have O0 := Lib.hid (Own.start w)
  have hap : A.l.length ≠ 0 := by have := HA.out.wf.head; intro e; rw [List.eq_nil_of_length_eq_zero e] at this; cases this
  have HAP := Lib.hid hap
  clear ha hap
  go_enter Tryz.func31, Tryz.ntmps31
  go_wp2_with fail
  go_region_held3 (fun w' => Below w.heap.size w w' ∧ w'.cell? ⟨r, 0, none⟩ = some (.int .i64 A.limit) ∧ w'.cell? ⟨r, 1, none⟩ = some (.slice (some ⟨g, 0, none⟩) A.l.length cap) ∧ w'.cell? ⟨r, 2, none⟩ = some (.map (some bm)))
    (first | exact KS.out _ (by repeat (first | with_reducible assumption | with_reducible refine Below.drew ?_ | with_reducible refine belowAlloc ?_ _)))
    (first
      | (go_at_call 63; refine (cloneNodes_calls (HK.out _ (by repeat (first | with_reducible assumption | with_reducible refine Below.drew ?_ | with_reducible refine belowAlloc ?_ _))).1 hroom (nd_one _)).mono ?_; rintro e w5 ⟨v5, rfl, hr5, hb5⟩
         have hx5 : Below w.heap.size w w5 := below_call (by repeat (first | with_reducible assumption | with_reducible refine Below.drew ?_ | with_reducible refine belowAlloc ?_ _)) hb5
         obtain ⟨g5, cap5, rfl⟩ : ∃ g5 cap5, v5 = .slice (some ⟨g5, 0, none⟩) A.l.length cap5 := by
           rcases hr5.2 with ⟨_, h6⟩ | ⟨g', cp, cur, h5, _⟩
           · exact absurd h6 HAP.out
           · exact ⟨_, _, h5⟩
         have HR5 := Lib.hid hr5
         have HB5 := Lib.hid hb5
         clear hr5 hb5)
      | (go_at_call 64; refine (cloneMap_calls (HK.out _ (by repeat (first | with_reducible assumption | with_reducible refine Below.drew ?_ | with_reducible refine belowAlloc ?_ _))).2).mono ?_; rintro e w6 ⟨rfl, hm6, hb6⟩
         have hx6 : Below w.heap.size w w6 := below_call (by repeat (first | with_reducible assumption | with_reducible refine Below.drew ?_ | with_reducible refine belowAlloc ?_ _)) hb6
         have HM6 := Lib.hid hm6
         have HB6 := Lib.hid hb6
         clear hm6 hb6))
  all_goals go_wp2_with fail
  all_goals go_ret
  have o5 := O0.out.drew.newRow HB5.out HR5.out
  have o6 := o5.new HB6.out (Q := mapT Nd.val w5.heap.size (entriesOf A.l)) (S := One w5.heap.size) ⟨HM6.out, fun _ => Iff.rfl⟩ (fun b hb => by unfold One at hb; omega)
  exact copy_end HA.out.wf HA.out.room (o6.alloc _)
end Go.Proofs.YtfelbecofbdeaaaGreatDoor
