/- Built: an arena, and the document's, behind the same nodes. -/
import Derived.Test.YtfelbecofbdeaaaGreatDoorRef4
import Derived.Test.YtfelbecofbdeaaaGreatDoorOpen5
import Derived.OwnWalk
namespace Go.Proofs.YtfelbecofbdeaaaGreatDoor
open Go.RowKit

theorem Own.front {w0 w : World} {L : List Thing} (h : Own w0 w L) (n : Nat) : Own w0 w (L.take n) := by
  obtain ⟨hb, f, h1, h2, h3⟩ := h
  refine ⟨hb, f, fun i P hi => h1 i P ?_, fun i j b hi hj => h2 i j b ?_ ?_, fun i b hi => h3 i b ?_⟩
  · rw [List.getElem?_take] at hi
    split at hi
    · exact hi
    · simp at hi
  all_goals (simp only [List.length_take] at *; omega)
def bA (limit : Int) (xs : List Nd) : Ar := xs.foldl (fun A x => (mk A x).1) (newAr limit)
theorem bA_next {limit : Int} {xs : List Nd} {k : Nat} {x : Nd} (h : xs[k]? = some x) : bA limit (xs.take (k + 1)) = (mk (bA limit (xs.take k)) x).1 := by
  unfold bA
  rw [List.take_add_one, h]; simp [List.foldl_append]
def refObj (A : Ar) (g cap : Nat) : Obj := .cells #[.int .i64 A.limit, .slice (some ⟨g, 0, none⟩) A.l.length cap] 27 (0, 0)
def refZ : Obj := .cells #[.int .i64 0, .slice none 0 0] 27 (0, 0)
def BuiltPost (w : World) (limit : Int) (xs : List Nd) (e : Ending) (w' : World) : Prop :=
  ∃ r g cap, e = .returned (.tuple #[.pointer (some ⟨r, 0, none⟩), refV (bA limit xs) g cap, .bool true]) ∧ Own w w' [refT g cap (bA limit xs).l, arena r (bA limit xs)]
set_option maxHeartbeats 3200000 in
set_option maxRecDepth 100000 in
theorem built_calls (w : World) (limit : Int) (a : Option Addr) (c : Nat) (xs : List Nd) (hx : Holds w a (xs.flatMap Nd.cells)) (hm : xs.length ≤ 40) (hu : ∀ x ∈ xs, x.u64) :
    Calls Tryz.prog 7 #[.int .i64 limit, .slice a xs.length c] w (BuiltPost w limit xs) := by
  have Hx := Lib.hid hx
  have Hu := Lib.hid hu
  have hd : decide (40 < xs.length) = false := decide_eq_false (by omega)
  have hd2 : decide ((40 : Int) < (xs.length : Int)) = false := decide_eq_false (by omega)
  clear hx hu
  go_enter Tryz.func7, Tryz.ntmps7
  go_wp2_with fail
  have o0 : Own w _ [blk w.heap.size refZ] := (Own.start w).alloc refZ
  refine (new_own o0 limit).mono ?_
  rintro e w1 ⟨r, rfl, o1⟩
  go_wp2_with fail
  refine (rNew_calls limit w1).mono ?_
  rintro e w2 ⟨g, cap, rfl, hR, hb2, hg⟩
  have o2 : Own w w2 [refT g cap (newAr limit).l, arena r (newAr limit), blk w.heap.size refZ] := o1.new hb2 (Q := refT g cap (newAr limit).l) (S := fun k => k = g) ⟨hR, fun _ => Iff.rfl⟩ (fun b hb => by omega)
  simp only [refV]
  go_wp2_with fail
  have o3 : Own w _ [blk w2.heap.size (refObj (newAr limit) g cap), refT g cap (newAr limit).l, arena r (newAr limit), blk w.heap.size refZ] := o2.alloc (refObj (newAr limit) g cap)
  have O3 := Lib.hid o3
  generalize hB : w.heap.size = B5 at *
  generalize hB8 : w2.heap.size = B8 at *
  clear o0 o1 o2 o3 hR hb2 hg
  go_loopw [30] (fun i wr => ∃ (k : Nat) (g cap : Nat), k ≤ xs.length ∧ i = .int .i64 k ∧ Own w wr [blk B8 (refObj (bA limit (xs.take k)) g cap), refT g cap (bA limit (xs.take k)).l, arena r (bA limit (xs.take k)), blk B5 refZ])
    (fun i _ => (xs.length - intOf i).toNat)
  case atStart => exact ⟨0, g, cap, by omega, rfl, O3.out⟩
  case round =>
    obtain ⟨k, g, cap, hk, rfl, ol⟩ := hrel
    have OL := Lib.hid ol
    by_cases hlt : k < xs.length
    · obtain ⟨x, hxk⟩ : ∃ x, xs[k]? = some x := ⟨_, List.getElem?_eq_getElem hlt⟩
      have Hlt := Lib.hid hlt
      have hux := Hu.out x (List.mem_of_getElem? hxk)
      obtain ⟨ab, af, rfl, c0, c1, c2, c3, c4⟩ := node_at (Hx.out.below OL.out.below) hxk
      have ik : (k : Int) < xs.length := by omega
      have Hn := Lib.hid (bA_next (limit := limit) hxk)
      generalize bA limit (xs.take k) = A at *
      obtain ⟨S, hA⟩ := ol.arena (i := 2) rfl
      obtain ⟨_, _, _, hA, _⟩ := hA
      have HA := Lib.hid (And.intro hA.wf hA.room)
      clear ol hA hxk
      go_wp2_with fail
      have o4 : Own w _ [blk wr.heap.size (ndObj x), blk B8 (refObj A g cap), refT g cap A.l, arena r A, blk B5 refZ] := OL.out.alloc (ndObj x)
      refine (mk_own o4 3 rfl x hux.1 hux.2).mono ?_
      rintro e w5 ⟨rfl, o5⟩
      clear o4
      have O5 : Hid (Own w w5 [blk wr.heap.size (ndObj x), blk B8 (refObj A g cap), refT g cap A.l, arena r (mk A x).1, blk B5 refZ]) := Lib.hid o5
      have n5 := O5.out.blk (i := 0) rfl
      have b5 := O5.out.blk (i := 1) rfl
      have hr5 := Lib.hid (O5.out.ref (i := 2) rfl)
      have m0 := cell_of_heap (o := 0) n5
      have m1 := cell_of_heap (o := 1) n5
      have m2 := cell_of_heap (o := 2) n5
      have m3 := cell_of_heap (o := 3) n5
      have m4 := cell_of_heap (o := 4) n5
      have q0 := cell_of_heap (o := 0) b5
      have q1 := cell_of_heap (o := 1) b5
      simp only [List.getElem?_toArray, List.getElem?_cons_zero, List.getElem?_cons_succ] at m0 m1 m2 m3 m4 q0 q1
      have ln := lt_of_heap n5
      have lb := lt_of_heap b5
      have N5 := Lib.hid (And.intro n5 b5)
      have hbb : Below w5.heap.size w5 w5 := Below.refl _ _
      clear c0 c1 c2 c3 c4 o5 n5 b5 hlt ik
      generalize wr.heap.size = BN at *
      have ne5 : (¬ BN = w5.heap.size ∧ ¬ w5.heap.size = BN) ∧ (¬ B8 = w5.heap.size ∧ ¬ w5.heap.size = B8) := by omega
      obtain ⟨⟨ne51, ne52⟩, ne53, ne54⟩ := ne5
      go_upto_region 8 with fail
      go_cut [13, 14, 15] (fun p y f wx => ∃ g2 c2 b13, p = .pointer (some ⟨b13, 0, none⟩) ∧ y = .int .i64 (mk A x).2.1 ∧ f = .int .i64 (mk A x).2.2 ∧ Below w5.heap.size w5 wx ∧ w5.heap.size ≤ b13 ∧ wx.heap[b13]? = some (refObj (mk A x).1 g2 c2) ∧ RefAt wx g2 c2 (mk A x).1.l ∧ (g2 = g ∨ w5.heap.size ≤ g2))
      case first =>
        go_region_held3 (fun w' => Below w5.heap.size w5 w' ∧ w'.cell? ⟨BN, 0, none⟩ = some (.int .i64 x.kind) ∧ w'.cell? ⟨BN, 1, none⟩ = some (.int .u64 x.n) ∧ w'.cell? ⟨BN, 2, none⟩ = some (.int .i64 x.a) ∧ w'.cell? ⟨BN, 3, none⟩ = some (.int .i64 x.b) ∧ w'.cell? ⟨BN, 4, none⟩ = some (.int .i64 x.c) ∧ w'.cell? ⟨B8, 0, none⟩ = some (.int .i64 A.limit) ∧ w'.cell? ⟨B8, 1, none⟩ = some (.slice (some ⟨g, 0, none⟩) A.l.length cap))
          (first | (refine ⟨(by first | assumption | exact Below.drew (by assumption) | exact belowAlloc (by assumption) _ | exact (belowAlloc (by assumption) _).drew | exact Below.setCell (Below.setCell (by first | assumption | exact Below.drew (by assumption)) (by first | exact Nat.le_refl _ | assumption) _) (by first | exact Nat.le_refl _ | assumption) _), ?_⟩; go_keep))
          (first
            | (go_at_call 29; refine (one_calls x _).mono ?_; rintro e w6 ⟨rfl, hb6⟩
               have hx6 : Below w5.heap.size w5 w6 := below_call (by first | assumption | exact Below.drew (by assumption) | exact belowAlloc (by assumption) _ | exact (belowAlloc (by assumption) _).drew) hb6
               have n6 := (hx6.block _ ln).trans N5.out.1
               have b6 := (hx6.block _ lb).trans N5.out.2
               have m0 := cell_of_heap (o := 0) n6
               have m1 := cell_of_heap (o := 1) n6
               have m2 := cell_of_heap (o := 2) n6
               have m3 := cell_of_heap (o := 3) n6
               have m4 := cell_of_heap (o := 4) n6
               have q0 := cell_of_heap (o := 0) b6
               have q1 := cell_of_heap (o := 1) b6
               simp only [List.getElem?_toArray, List.getElem?_cons_zero, List.getElem?_cons_succ] at m0 m1 m2 m3 m4 q0 q1
               have lx6 := hx6.size
               have ln6 := lt_of_heap n6
               have lb6 := lt_of_heap b6
               have ne6 : (¬ BN = w6.heap.size ∧ ¬ w6.heap.size = BN) ∧ (¬ B8 = w6.heap.size ∧ ¬ w6.heap.size = B8) := by omega
               obtain ⟨⟨ne1, ne2⟩, ne3, ne4⟩ := ne6
               try have z13 : w6.heap[w5.heap.size]? = some refZ := (hb6.block _ (by simp)).trans (new_at rfl))
            | (go_at_call 28; refine (rMk_calls (A := A) (g := g) (cap := cap) (x := x) (hr5.out.below (by first | assumption | exact Below.drew (by assumption) | exact belowAlloc (by assumption) _ | exact (belowAlloc (by assumption) _).drew)) HA.out.1 HA.out.2 hux.1 hux.2).mono ?_; rintro e w7 ⟨g2, c2, rfl, hr7, hb7, hg7⟩
               have hx7 : Below w5.heap.size w5 w7 := below_call (by first | assumption | exact Below.drew (by assumption) | exact belowAlloc (by assumption) _ | exact (belowAlloc (by assumption) _).drew) hb7
               have n6 := (hx7.block _ ln).trans N5.out.1
               have b6 := (hx7.block _ lb).trans N5.out.2
               have m0 := cell_of_heap (o := 0) n6
               have m1 := cell_of_heap (o := 1) n6
               have m2 := cell_of_heap (o := 2) n6
               have m3 := cell_of_heap (o := 3) n6
               have m4 := cell_of_heap (o := 4) n6
               have q0 := cell_of_heap (o := 0) b6
               have q1 := cell_of_heap (o := 1) b6
               simp only [List.getElem?_toArray, List.getElem?_cons_zero, List.getElem?_cons_succ] at m0 m1 m2 m3 m4 q0 q1
               have lx7 := hx7.size
               have ln7 := lt_of_heap n6
               have lb7 := lt_of_heap b6
               first
                 | (have z14 : w7.heap[w5.heap.size]? = some refZ := (hb7.block _ (lt_of_heap z13)).trans z13
                    have z0 := cell_of_heap (o := 0) z14
                    have z1 := cell_of_heap (o := 1) z14
                    have zf := fun o => frozen_of_heap (o := o) z14
                    simp only [List.getElem?_toArray, List.getElem?_cons_zero, List.getElem?_cons_succ] at z0 z1)
                 | (have z14 : w7.heap[w6.heap.size]? = some refZ := (hb7.block _ (by simp)).trans (new_at rfl)
                    have z0 := cell_of_heap (o := 0) z14
                    have z1 := cell_of_heap (o := 1) z14
                    have zf := fun o => frozen_of_heap (o := o) z14
                    simp only [List.getElem?_toArray, List.getElem?_cons_zero, List.getElem?_cons_succ] at z0 z1)
                 | skip
               simp only [refV]))
        all_goals go_wp2_with fail
        all_goals go_meet
        · refine ⟨g2, c2, w7.heap.size, rfl, rfl, rfl, belowAlloc hx7 _, hx7.size, new_at rfl, hr7.below ((Below.refl _ _).alloc (Nat.le_refl _) _), hg7.imp (fun h => h) (fun h => ?_)⟩
          have : w6.heap.size ≤ g2 := h
          omega
        · have hne : g2 ≠ w6.heap.size := by
            have h1 := (hr5.out.lt g rfl).2
            rcases hg7 with h | h
            · omega
            · have h : w6.heap.size + 1 ≤ g2 := by simpa using h
              omega
          have hu : Upd (One w6.heap.size) w7 ((w7.setCell ⟨w6.heap.size, 0, none⟩ (.int .i64 (mk A x).1.limit)).setCell ⟨w6.heap.size, 1, none⟩ (.slice (some ⟨g2, 0, none⟩) (mk A x).1.l.length c2)) := ((Upd.refl (One w6.heap.size) w7).setCell (fun _ => rfl) _).setCell (fun _ => rfl) _
          refine ⟨g2, c2, w6.heap.size, rfl, rfl, rfl, (hx7.setCell lx6 _).setCell lx6 _, lx6, heap_set2 z14, hr7.upd hu hne, hg7.imp (fun h => h) (fun h => ?_)⟩
          have h : w6.heap.size + 1 ≤ g2 := by simpa using h
          omega
        · have hne : g2 ≠ w5.heap.size := by
            have h1 := (hr5.out.lt g rfl).2
            rcases hg7 with h | h
            · omega
            · have h : w6.heap.size ≤ g2 := h
              have := lt_of_heap z13
              omega
          have hu : Upd (One w5.heap.size) w7 ((w7.setCell ⟨w5.heap.size, 0, none⟩ (.int .i64 (mk A x).1.limit)).setCell ⟨w5.heap.size, 1, none⟩ (.slice (some ⟨g2, 0, none⟩) (mk A x).1.l.length c2)) := ((Upd.refl (One w5.heap.size) w7).setCell (fun _ => rfl) _).setCell (fun _ => rfl) _
          refine ⟨g2, c2, w5.heap.size, rfl, rfl, rfl, (hx7.setCell (Nat.le_refl _) _).setCell (Nat.le_refl _) _, Nat.le_refl _, heap_set2 z14, hr7.upd hu hne, hg7.imp (fun h => h) (fun h => ?_)⟩
          have h : w6.heap.size ≤ g2 := h
          omega
      case rest =>
        obtain ⟨g2, c2, b13, rfl, rfl, rfl, hbx, hb13, hz13, hr13, hg2⟩ := hcut
        have o6 : Own w wc [blk BN (ndObj x), blk B8 (refObj A g cap), refT g2 c2 (mk A x).1.l, arena r (mk A x).1, blk B5 refZ] := O5.out.newRef (i := 2) rfl hbx hr13 hg2
        clear m0 m1 m2 m3 m4 q0 q1 ln lb hbb ne51 ne52 ne53 ne54
        have q0 := cell_of_heap (o := 0) hz13
        have q1 := cell_of_heap (o := 1) hz13
        have b6 := o6.blk (i := 1) rfl
        have b0 := cell_of_heap (o := 0) b6
        have b1 := cell_of_heap (o := 1) b6
        have bf := fun o => frozen_of_heap (o := o) b6
        have lb := lt_of_heap b6
        simp only [List.getElem?_toArray, List.getElem?_cons_zero, List.getElem?_cons_succ] at q0 q1 b0 b1
        have O6 := Lib.hid (And.intro o6 b6)
        clear o6 hbx hb13 hz13 hr13 hg2 b6
        go_wp2_with fail
        have hlt := Hlt.out
        refine ⟨⟨k + 1, g2, c2, by omega, by simp, ?_⟩, ?_⟩
        · rw [Hn.out]
          have := (O6.out.1.store (i := 1) rfl (((Upd.refl (One B8) wc).setCell (fun _ => rfl) (.int .i64 (mk A x).1.limit)).setCell (fun _ => rfl) (.slice (some ⟨g2, 0, none⟩) (mk A x).1.l.length c2)) (heap_set2 O6.out.2)).tail
          exact this
        · simp only [intOf]; omega
    · obtain rfl : k = xs.length := by omega
      rw [List.take_length] at OL
      have h8 := OL.out.blk (i := 0) rfl
      have h5 := OL.out.blk (i := 3) rfl
      have q0 := cell_of_heap (o := 0) h8
      have q1 := cell_of_heap (o := 1) h8
      have z0 := cell_of_heap (o := 0) h5
      have z1 := cell_of_heap (o := 1) h5
      have zf := fun o => frozen_of_heap (o := o) h5
      simp only [List.getElem?_toArray, List.getElem?_cons_zero, List.getElem?_cons_succ] at q0 q1 z0 z1
      have l8 := lt_of_heap h8
      have l5 := lt_of_heap h5
      have H5 := Lib.hid h5
      clear h8 h5 ol
      go_wp2_with fail
      go_region
      all_goals go_wp2_with fail
      all_goals
        have hfin := heap_set2 (v0 := .int .i64 (bA limit xs).limit) (v1 := .slice (some ⟨g, 0, none⟩) (bA limit xs).l.length cap) H5.out
        have hu : Upd (One B5) wr ((wr.setCell ⟨B5, 0, none⟩ (.int .i64 (bA limit xs).limit)).setCell ⟨B5, 1, none⟩ (.slice (some ⟨g, 0, none⟩) (bA limit xs).l.length cap)) := ((Upd.refl (One B5) wr).setCell (fun _ => rfl) _).setCell (fun _ => rfl) _
        have o9 := (OL.out.store (i := 3) rfl hu hfin).tail
        have o9 : Own w _ [refT g cap (bA limit xs).l, arena r (bA limit xs)] := o9.front 2
        refine bodyPost_ret (v := .tuple #[.pointer (some ⟨r, 0, none⟩), refV (bA limit xs) g cap, .bool true]) (by simp [results, Tryz.results7, go_sem, refV, cell_of_heap hfin]) rfl ⟨r, g, cap, rfl, ?_⟩
        first | exact o9 | exact o9.drew | exact o9.drew.drew
end Go.Proofs.YtfelbecofbdeaaaGreatDoor
