/- The law's Same of layer 1: an arena has just the document's terms. -/
import Derived.Test.YtfelbecofbdeaaaGreatDoorRef6
import Derived.Deep.CutBlock
import Derived.Deep.DeepCutAuto
namespace Go.Proofs.YtfelbecofbdeaaaGreatDoor
open Go.RowKit

def SamePost (w : World) (e : Ending) (w' : World) : Prop := e = .returned (.bool true) ∧ Below w.heap.size w w'
set_option maxHeartbeats 3200000 in
set_option maxRecDepth 100000 in
theorem same_calls {S : Nat → Prop} {r g cap : Nat} {A : Ar} {w : World} (hr : IsArena w r A S) (hb : RefAt w g cap A.l) :
    Calls Tryz.prog 9 #[.pointer (some ⟨r, 0, none⟩), refV A g cap] w (SamePost w) := by
  have Hr := Lib.hid hr
  have Hb := Lib.hid hb
  have Hl := Lib.hid (show A.l.length ≤ 65536 by obtain ⟨_, _, _, h, _⟩ := hr; have := h.room; omega)
  clear hr hb
  unfold refV
  go_enter Tryz.func9, Tryz.ntmps9
  have hb0 := (Below.refl w.heap.size w).alloc (Nat.le_refl _) (.cells #[.int .i64 A.limit, .slice (some ⟨g, 0, none⟩) A.l.length cap] 27)
  have bx0 : RBox (w.alloc (.cells #[.int .i64 A.limit, .slice (some ⟨g, 0, none⟩) A.l.length cap] 27)) w.heap.size A g cap := new_at rfl
  have Hbx := Lib.hid bx0
  have Hb0 := Lib.hid hb0
  clear bx0
  go_upto_region 1 with fail
  go_cut [13] (fun s wx => s = .bool false ∧ Below w.heap.size w wx ∧ RBox wx w.heap.size A g cap)
  case first =>
    obtain ⟨q0, q1⟩ := Hbx.out.cells
    go_region_held3 (fun w' => (Below w.heap.size w w' ∧ RBox w' w.heap.size A g cap) ∧ w'.cell? ⟨w.heap.size, 0, none⟩ = some (.int .i64 A.limit) ∧ w'.cell? ⟨w.heap.size, 1, none⟩ = some (.slice (some ⟨g, 0, none⟩) A.l.length cap))
      (first | (refine ⟨⟨(by first | assumption | exact Below.drew (by assumption)), (by first | assumption | exact Hbx.out)⟩, ?_⟩; go_keep))
      (first
        | (go_at_call 26; refine (len_calls (Hr.out.below (by first | assumption | exact Below.drew (by assumption)))).mono ?_; rintro e w5 ⟨rfl, rfl⟩))
    all_goals go_wp2_with fail
    all_goals go_meet
    all_goals exact ⟨by simp, (by first | exact Hb0.out | exact Hb0.out.drew), (by first | exact Hbx.out)⟩
  case rest =>
    obtain ⟨rfl, hbx, bx⟩ := hcut
    have B1 := Lib.hid (And.intro hbx bx)
    obtain ⟨q0, q1⟩ := bx.cells
    clear hbx bx
    go_wp2_with fail
    go_loopw [17] (fun i wr => ∃ k : Nat, k ≤ A.l.length ∧ i = .int .i64 k ∧ Below w.heap.size w wr ∧ RBox wr w.heap.size A g cap) (fun i _ => (A.l.length - intOf i).toNat)
    case atStart => exact ⟨0, by omega, rfl, B1.out.1, B1.out.2⟩
    case round =>
      obtain ⟨k, hk, rfl, hbr, bxr⟩ := hrel
      have BR := Lib.hid (And.intro hbr bxr)
      clear q0 q1 hbr bxr
      by_cases hlt : k < A.l.length
      · obtain ⟨y, hy⟩ : ∃ y, A.l[k]? = some y := ⟨_, List.getElem?_eq_getElem hlt⟩
        have hh : has A.l (k : Int) = true := has_iff.2 ⟨by omega, by omega⟩
        have hgy : getNd A.l (k : Int) = y := by rw [getNd_of_has hh]; exact nd_of_getElem? hy
        have ik : (k : Int) < A.l.length := by omega
        have Hlt := Lib.hid hlt
        go_wp2_with fail
        refine (get_calls (k : Int) (Hr.out.below BR.out.1)).mono ?_
        rintro e w2 ⟨rfl, hb2⟩
        rw [hh, hgy]
        have hb3 := below_call BR.out.1 hb2
        have bx2 := BR.out.2.below hb2
        have hb4 : Below w.heap.size w (w2.alloc (.cells #[.int .i64 y.kind, .int .u64 y.n, .int .i64 y.a, .int .i64 y.b, .int .i64 y.c] 61)) := hb3.alloc hb3.size _
        have bx4 : RBox (w2.alloc (.cells #[.int .i64 y.kind, .int .u64 y.n, .int .i64 y.a, .int .i64 y.b, .int .i64 y.c] 61)) w.heap.size A g cap := old_at bx2
        have n4 : (w2.alloc (.cells #[.int .i64 y.kind, .int .u64 y.n, .int .i64 y.a, .int .i64 y.b, .int .i64 y.c] 61)).heap[w2.heap.size]? = some (ndObj y) := new_at rfl
        have hr4 := (Hb.out.below hb4)
        have C4 := Lib.hid (And.intro hb4 (And.intro bx4 (And.intro n4 (And.intro hy hr4))))
        clear hh hgy hb2 hb3 bx2 hb4 bx4 n4 hr4 hy hlt
        simp only [Nd.val]
        go_upto_region 7 with fail
        generalize hW4 : w2.alloc (.cells #[.int .i64 y.kind, .int .u64 y.n, .int .i64 y.a, .int .i64 y.b, .int .i64 y.c] 61) = W4 at *
        clear hW4
        obtain ⟨q0, q1⟩ := RBox.cells C4.out.2.1
        obtain ⟨r0, r1, r2, r3, r4⟩ := RefAt.node C4.out.2.2.2.2 C4.out.2.2.2.1
        have m0 := cell_of_heap (o := 0) C4.out.2.2.1
        have m1 := cell_of_heap (o := 1) C4.out.2.2.1
        have m2 := cell_of_heap (o := 2) C4.out.2.2.1
        have m3 := cell_of_heap (o := 3) C4.out.2.2.1
        have m4 := cell_of_heap (o := 4) C4.out.2.2.1
        simp only [List.getElem?_toArray, List.getElem?_cons_zero, List.getElem?_cons_succ] at m0 m1 m2 m3 m4
        have hbb : Below W4.heap.size W4 W4 := Below.refl _ _
        go_cut [37] (fun s wx => s = .bool false ∧ Below W4.heap.size W4 wx)
        case first =>
          go_region_held3 (fun w' => Below W4.heap.size W4 w' ∧ w'.cell? ⟨w2.heap.size, 0, none⟩ = some (.int .i64 y.kind) ∧ w'.cell? ⟨w2.heap.size, 1, none⟩ = some (.int .u64 y.n) ∧ w'.cell? ⟨w2.heap.size, 2, none⟩ = some (.int .i64 y.a) ∧ w'.cell? ⟨w2.heap.size, 3, none⟩ = some (.int .i64 y.b) ∧ w'.cell? ⟨w2.heap.size, 4, none⟩ = some (.int .i64 y.c) ∧ w'.cell? ⟨w.heap.size, 0, none⟩ = some (.int .i64 A.limit) ∧ w'.cell? ⟨w.heap.size, 1, none⟩ = some (.slice (some ⟨g, 0, none⟩) A.l.length cap) ∧ w'.cell? ⟨g, k * 5, none⟩ = some (.int .i64 y.kind) ∧ w'.cell? ⟨g, k * 5 + 1, none⟩ = some (.int .u64 y.n) ∧ w'.cell? ⟨g, k * 5 + 2, none⟩ = some (.int .i64 y.a) ∧ w'.cell? ⟨g, k * 5 + 3, none⟩ = some (.int .i64 y.b) ∧ w'.cell? ⟨g, k * 5 + 4, none⟩ = some (.int .i64 y.c))
            (first | (refine ⟨(by first | assumption | exact Below.drew (by assumption)), ?_⟩; go_keep))
            (first
              | (go_at_call 29; refine (one_calls y _).mono ?_; rintro e w6 ⟨rfl, hb6⟩
                 have hx6 : Below W4.heap.size W4 w6 := below_call (by first | assumption | exact Below.drew (by assumption)) hb6
                 obtain ⟨q0, q1⟩ := RBox.cells (C4.out.2.1.below hx6)
                 obtain ⟨r0, r1, r2, r3, r4⟩ := RefAt.node (C4.out.2.2.2.2.below hx6) C4.out.2.2.2.1
                 have n6 := (hx6.block _ (lt_of_heap C4.out.2.2.1)).trans C4.out.2.2.1
                 have m0 := cell_of_heap (o := 0) n6
                 have m1 := cell_of_heap (o := 1) n6
                 have m2 := cell_of_heap (o := 2) n6
                 have m3 := cell_of_heap (o := 3) n6
                 have m4 := cell_of_heap (o := 4) n6
                 simp only [List.getElem?_toArray, List.getElem?_cons_zero, List.getElem?_cons_succ] at m0 m1 m2 m3 m4
                 simp only [Nd.val]))
          all_goals go_wp2_with fail
          all_goals go_meet
          all_goals exact ⟨by simp, by first | assumption | exact Below.drew (by assumption)⟩
        case rest =>
          obtain ⟨rfl, hbx⟩ := hcut
          clear q0 q1 r0 r1 r2 r3 r4 m0 m1 m2 m3 m4 hbb
          have hb9 := C4.out.1.trans (hbx.mono C4.out.1.size)
          have bx9 := C4.out.2.1.below hbx
          have H9 := Lib.hid (And.intro hb9 bx9)
          clear hb9 bx9 hbx
          have hl6 := Hl.out
          go_wp2_with fail
          refine ⟨⟨k + 1, by have := Hlt.out; omega, by simp, H9.out.1, H9.out.2⟩, ?_⟩
          have := Hlt.out
          simp only [intOf]; omega
      · obtain rfl : k = A.l.length := by omega
        obtain ⟨q0, q1⟩ := BR.out.2.cells
        go_wp2_with fail
        go_ret
        exact ⟨rfl, BR.out.1⟩
end Go.Proofs.YtfelbecofbdeaaaGreatDoor
