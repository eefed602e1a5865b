/- The document's Mk of layer 1. -/
import Derived.Test.YtfelbecofbdeaaaGreatDoorRef3
import Derived.Test.YtfelbecofbdeaaaGreatDoorTerm5
import Derived.Deep.CutBlock
import Derived.Deep.DeepCutAuto
import Derived.Test.YtfelbecofbdeaaaGreatDoorCat
import Derived.Test.YtfelbecofbdeaaaGreatDoorOwnA
namespace Go.Proofs.YtfelbecofbdeaaaGreatDoor
open Go.RowKit

theorem refat_of {w : World} {B g2 c2 : Nat} {l : List Nd} {x : Nd} (h : w.ownsRow B 65 5 (.slice (some ⟨g2, 0, none⟩) (0 + l.length + 1) c2) (0 + l.length + 1) ([] ++ l.flatMap Nd.cells ++ x.cells)) : RefAt w g2 c2 (l ++ [x]) := by
  unfold RefAt
  rw [List.flatMap_append, List.length_append]
  simp only [List.flatMap_cons, List.flatMap_nil, List.append_nil, List.length_cons, List.length_nil, Nat.zero_add, List.nil_append] at h ⊢
  refine ⟨h.1, ?_⟩
  rcases h.2 with ⟨hn, _⟩ | ⟨g, cap, cur, hv, hB, rest⟩
  · cases hn
  · exact .inr ⟨g, cap, cur, hv, Nat.zero_le _, rest⟩
theorem RefAt.upd {w w' : World} {g cap b : Nat} {l : List Nd} (h : RefAt w g cap l) (u : Upd (One b) w w') (hne : g ≠ b) : RefAt w' g cap l :=
  ownsRow_upd' h u (fun k hk => by simp [Value.ownBlock] at hk; unfold One; omega)
def RMkPost (A : Ar) (x : Nd) (g cap : Nat) (w : World) (e : Ending) (w' : World) : Prop :=
  ∃ g' cap', e = .returned (.tuple #[refV (mk A x).1 g' cap', .int .i64 (mk A x).2.1, .int .i64 (mk A x).2.2]) ∧ RefAt w' g' cap' (mk A x).1.l ∧ Below w.heap.size w w' ∧ (g' = g ∨ w.heap.size ≤ g')
theorem mk_first {A : Ar} {x : Nd} {k : Nat} (hR : right A.l x = true) (hz : ∀ j, j < k → A.l[j]? ≠ some x) (hk : A.l[k]? = some x) : mk A x = (A, ((k : Nat) : Int), (0 : Int)) := by
  have hi : A.l.idxOf? x = some k := by
    rw [List.idxOf?, List.findIdx?_eq_some_iff_getElem]
    obtain ⟨h1, h2⟩ := List.getElem?_eq_some_iff.1 hk
    refine ⟨h1, by simp [h2], fun j hj => ?_⟩
    have := hz j hj
    rw [List.getElem?_eq_getElem (by omega)] at this
    simpa using this
  simp [mk, hR, hi]
theorem nd_ne_cases {y x : Nd} (h : ¬ y = x) : (y.kind == x.kind) = false ∨ ((y.kind == x.kind) = true ∧ (y.n == x.n) = false) ∨ ((y.kind == x.kind) = true ∧ (y.n == x.n) = true ∧ (y.a == x.a) = false) ∨ ((y.kind == x.kind) = true ∧ (y.n == x.n) = true ∧ (y.a == x.a) = true ∧ (y.b == x.b) = false) ∨ ((y.kind == x.kind) = true ∧ (y.n == x.n) = true ∧ (y.a == x.a) = true ∧ (y.b == x.b) = true ∧ (y.c == x.c) = false) := by
  obtain ⟨a, b, c, d, e⟩ := y
  obtain ⟨a', b', c', d', e'⟩ := x
  simp only [Nd.mk.injEq] at h
  simp only [beq_eq_false_iff_ne, beq_iff_eq]
  by_cases h1 : a = a' <;> by_cases h2 : b = b' <;> by_cases h3 : c = c' <;> by_cases h4 : d = d' <;> simp_all
theorem heap_set2 {w : World} {b : Nat} {a0 a1 v0 v1 : Value} {e : TypeId} {f : Nat × Nat} (h : w.heap[b]? = some (.cells #[a0, a1] e f)) :
    ((w.setCell ⟨b, 0, none⟩ v0).setCell ⟨b, 1, none⟩ v1).heap[b]? = some (.cells #[v0, v1] e f) := by
  have := heap_setCell_at (o := 1) (heap_setCell_at (o := 0) h v0) v1
  simpa using this
set_option maxHeartbeats 3200000 in
set_option maxRecDepth 100000 in
theorem rMk_calls {A : Ar} {g cap : Nat} {x : Nd} {w : World} (hr : RefAt w g cap A.l) (hwf : Wf A.l) (hm : A.l.length ≤ A.limit ∧ A.limit ≤ 65536) (hn0 : 0 ≤ x.n) (hn1 : x.n ≤ 18446744073709551615) :
    Calls Tryz.prog 28 #[refV A g cap, x.val] w (RMkPost A x g cap w) := by
  have hv : refV A g cap = .agg #[.int .i64 A.limit, .slice (some ⟨g, 0, none⟩) A.l.length cap] := rfl
  have hvx : x.val = .agg #[.int .i64 x.kind, .int .u64 x.n, .int .i64 x.a, .int .i64 x.b, .int .i64 x.c] := rfl
  rw [hv, hvx]
  clear hv hvx
  have Hr := Lib.hid hr
  clear hr
  go_enter Tryz.func28, Tryz.ntmps28
  go_wp2_with fail
  have hb3 := below3 w (.cells #[.int .i64 A.limit, .slice (some ⟨g, 0, none⟩) A.l.length cap] 27) (.cells #[.int .i64 x.kind, .int .u64 x.n, .int .i64 x.a, .int .i64 x.b, .int .i64 x.c] 65) (.cells #[.int .i64 0, .slice none 0 0] 27)
  refine (rRight_calls (A := A) (g := g) (cap := cap) (x := x) (Hr.out.below hb3) hwf (by omega) hn0 hn1).mono ?_
  rintro e w1 ⟨rfl, hb1⟩
  have hbw := below_call hb3 hb1
  have bx : RBox w1 w.heap.size A g cap := (hb1.block _ (by simp; omega)).trans (new3 w _ _ _).1
  have nx : RNdAt w1 (w.heap.size + 1) x := (hb1.block _ (by simp)).trans (new3 w _ _ _).2.1
  have zx : w1.heap[w.heap.size + 2]? = some (.cells #[.int .i64 0, .slice none 0 0] 27 (0, 0)) := (hb1.block _ (by simp)).trans (new3 w _ _ _).2.2
  obtain ⟨b0, b1⟩ := bx.cells
  obtain ⟨p0, p1, p2, p3, p4⟩ := nx.cells
  have z0 := cell_of_heap (o := 0) zx
  have z1 := cell_of_heap (o := 1) zx
  have zf := fun o => frozen_of_heap (o := o) zx
  simp only [List.getElem?_toArray, List.getElem?_cons_zero, List.getElem?_cons_succ] at z0 z1
  have lb := lt_of_heap bx
  have lx := lt_of_heap nx
  have lz := lt_of_heap zx
  have Hb := Lib.hid (And.intro bx (And.intro nx zx))
  clear bx nx zx hb1
  cases hR : right A.l x with
  | false =>
    have Hf := Lib.hid (show mk A x = (A, 0, 1) by simp [mk, hR])
    go_wp2_with fail
    have hfin := heap_set2 (v0 := .int .i64 A.limit) (v1 := .slice (some ⟨g, 0, none⟩) A.l.length cap) Hb.out.2.2
    have hbe : Below w.heap.size w ((w1.setCell ⟨w.heap.size + 2, 0, none⟩ (.int .i64 A.limit)).setCell ⟨w.heap.size + 2, 1, none⟩ (.slice (some ⟨g, 0, none⟩) A.l.length cap)) := (hbw.setCell (by simp) _).setCell (by simp) _
    refine bodyPost_ret (v := .tuple #[refV A g cap, .int .i64 0, .int .i64 1]) (by simp [results, Tryz.results28, go_sem, refV, cell_of_heap hfin]) rfl ⟨g, cap, by rw [Hf.out], by rw [Hf.out]; exact Hr.out.below hbe, hbe, .inl rfl⟩
  | true =>
    go_wp2_with fail
    go_loopw [7] (fun i wr => ∃ k : Nat, k ≤ A.l.length ∧ i = .int .i64 k ∧ (∀ j, j < k → A.l[j]? ≠ some x) ∧ Below w1.heap.size w1 wr)
      (fun i _ => (A.l.length - intOf i).toNat)
    case atStart => exact ⟨0, by omega, rfl, fun j hj => absurd hj (Nat.not_lt_zero _), Below.refl _ _⟩
    case round =>
      obtain ⟨k, hk, rfl, hz, hbr⟩ := hrel
      have HZ := Lib.hid hz
      have hbr2 := below_call hbw hbr
      obtain ⟨bx, nx, zx⟩ := Hb.out
      have bx := bx.below hbr
      have nx := nx.below hbr
      have zx := (hbr.block _ (lt_of_heap zx)).trans zx
      clear b0 b1 p0 p1 p2 p3 p4 z0 z1 zf lb lx lz hz
      obtain ⟨b0, b1⟩ := bx.cells
      obtain ⟨p0, p1, p2, p3, p4⟩ := nx.cells
      have z0 := cell_of_heap (o := 0) zx
      have z1 := cell_of_heap (o := 1) zx
      have zf := fun o => frozen_of_heap (o := o) zx
      simp only [List.getElem?_toArray, List.getElem?_cons_zero, List.getElem?_cons_succ] at z0 z1
      have lb := lt_of_heap bx
      have lx := lt_of_heap nx
      have lz := lt_of_heap zx
      have Hb2 := Lib.hid (And.intro bx (And.intro nx zx))
      clear bx nx zx
      by_cases hlt : k < A.l.length
      · obtain ⟨y, hy⟩ : ∃ y, A.l[k]? = some y := ⟨_, List.getElem?_eq_getElem hlt⟩
        obtain ⟨q0, q1, q2, q3, q4⟩ := (Hr.out.below hbr2).node hy
        have ik : (k : Int) < A.l.length := by omega
        by_cases hyx : y = x
        · subst hyx
          have Hf := Lib.hid (show mk A y = (A, (k : Int), 0) from mk_first hR HZ.out hy)
          go_wp2_with (go_quiet (fail))
          have hfin := heap_set2 (w := wr.drewN nq) (v0 := .int .i64 A.limit) (v1 := .slice (some ⟨g, 0, none⟩) A.l.length cap) Hb2.out.2.2
          have hbe : Below w.heap.size w (((wr.drewN nq).setCell ⟨w.heap.size + 2, 0, none⟩ (.int .i64 A.limit)).setCell ⟨w.heap.size + 2, 1, none⟩ (.slice (some ⟨g, 0, none⟩) A.l.length cap)) := ((hbr2.trans (Upd.below (S := None) ((Upd.refl _ _).drewN _) hbr2.size (fun _ _ h => h))).setCell (by simp) _).setCell (by simp) _
          refine bodyPost_ret (v := .tuple #[refV A g cap, .int .i64 k, .int .i64 0]) (by simp [results, Tryz.results28, go_sem, refV, cell_of_heap hfin]) rfl ⟨g, cap, by rw [Hf.out], by rw [Hf.out]; exact Hr.out.below hbe, hbe, .inl rfl⟩
        · have HZ2 := Lib.hid (show ∀ j, j < k + 1 → A.l[j]? ≠ some x from fun j hj => by
            by_cases hjk : j < k
            · exact HZ.out j hjk
            · rw [show j = k by omega, hy]; simpa using hyx)
          have hcs := nd_ne_cases hyx
          clear hyx HZ
          rcases hcs with hd | ⟨h1, hd⟩ | ⟨h1, h2, hd⟩ | ⟨h1, h2, h3, hd⟩ | ⟨h1, h2, h3, h4, hd⟩
          all_goals
            go_wp2_with (go_quiet (fail))
            refine ⟨⟨k + 1, by omega, by simp, HZ2.out, hbr.trans (Upd.below (S := None) ((Upd.refl _ _).drewN _) hbr.size (fun _ _ h => h))⟩, ?_⟩
            simp only [intOf]; omega
      · have hkl : k = A.l.length := by omega
        subst hkl
        have hnm : x ∉ A.l := fun h => by
          obtain ⟨i, hi, rfl⟩ := List.getElem_of_mem h
          exact HZ.out i hi (List.getElem?_eq_getElem hi)
        have hidx : A.l.idxOf? x = none := List.idxOf?_eq_none_iff.2 hnm
        by_cases hfull : A.limit ≤ A.l.length
        · have Hf := Lib.hid (show mk A x = (A, 0, 3) by simp [mk, hR, hidx, hfull])
          have hd : decide ((A.limit : Int) ≤ (A.l.length : Int)) = true := decide_eq_true (by omega)
          have hd2 : decide (A.limit ≤ A.l.length) = true := decide_eq_true hfull
          clear hfull hidx hnm
          go_wp2_with fail
          have hfin := heap_set2 (w := wr) (v0 := .int .i64 A.limit) (v1 := .slice (some ⟨g, 0, none⟩) A.l.length cap) Hb2.out.2.2
          have hbe : Below w.heap.size w ((wr.setCell ⟨w.heap.size + 2, 0, none⟩ (.int .i64 A.limit)).setCell ⟨w.heap.size + 2, 1, none⟩ (.slice (some ⟨g, 0, none⟩) A.l.length cap)) := (hbr2.setCell (by simp) _).setCell (by simp) _
          refine bodyPost_ret (v := .tuple #[refV A g cap, .int .i64 0, .int .i64 3]) (by simp [results, Tryz.results28, go_sem, refV, cell_of_heap hfin]) rfl ⟨g, cap, by rw [Hf.out], by rw [Hf.out]; exact Hr.out.below hbe, hbe, .inl rfl⟩
        · have Hf := Lib.hid (show mk A x = (⟨A.limit, A.l ++ [x]⟩, (A.l.length : Int), 0) by simp [mk, hR, hidx, hfull])
          have hd : decide ((A.limit : Int) ≤ (A.l.length : Int)) = false := decide_eq_false (by omega)
          have hd2 : decide (A.limit ≤ A.l.length) = false := decide_eq_false hfull
          have hroom : A.l.length + 1 ≤ A.limit := by omega
          clear hfull hidx hnm
          have Hw := Lib.hid (show News wr (some ⟨g, 0, none⟩) 5 A.l.length (A.l.flatMap Nd.cells) ∧ ∀ u ∈ A.l.flatMap Nd.cells, u.oneCell' = true from by
            have hrr := Hr.out.below hbr2
            refine ⟨⟨hrr.1, .inr ⟨_, rfl, hrr.cells rfl⟩⟩, fun u hu => ?_⟩
            obtain ⟨y, _, hy⟩ := List.mem_flatMap.1 hu
            simp [Nd.cells] at hy
            rcases hy with rfl | rfl | rfl | rfl | rfl <;> rfl)
          have Hg := Lib.hid (show g < wr.heap.size from ((Hr.out.below hbr2).lt g rfl).2)
          go_upto_region 10 with fail
          go_cut [] (fun wx => ∃ g2 c2, wx.heap[w.heap.size]? = some (.cells #[.int .i64 A.limit, .slice (some ⟨g2, 0, none⟩) (A.l.length + 1 : Nat) c2] 27 (0, 0)) ∧ wx.heap[w.heap.size + 2]? = some (.cells #[.int .i64 0, .slice none 0 0] 27 (0, 0)) ∧ RefAt wx g2 c2 (A.l ++ [x]) ∧ Below w.heap.size w wx ∧ w.heap.size + 3 ≤ g2)
          case first =>
            go_region_law (first
              | (refine step_cat (W := wr) (by repeat (first | assumption | exact Below.refl _ _ | refine Below.drew ?_ | refine belowAlloc ?_ _)) rfl _ _ 25 rfl 65 (.agg #[.int .i64 0, .int .u64 0, .int .i64 0, .int .i64 0, .int .i64 0]) 5 40 rfl rfl rfl (by decide) (.slice (some ⟨_, 0, none⟩) 0 0) 0 [] rfl (owns_empty 5 (by first | exact Nat.le_refl _ | simp) (by first | exact new_at rfl | exact new_at (by simp) | exact old_at (new_at rfl))) (some ⟨g, 0, none⟩) A.l.length cap (A.l.flatMap Nd.cells) rfl (Hw.out.1.upd (by repeat (first | assumption | exact Below.refl _ _ | refine Below.drew ?_ | refine belowAlloc ?_ _)) (by rintro ad ⟨⟩; exact Hg.out)) Hw.out.2 (by unfold maxLen; omega) (by omega) ?_
                 intro v1 wa ho1 hb1 hk1
                 obtain ⟨pa0, pa1, pa2, pa3, pa4⟩ := (Hb2.out.2.1.below hb1).cells)
              | (refine step_cat (W := wr) (by repeat (first | assumption | exact Below.refl _ _ | refine Below.drew ?_ | refine belowAlloc ?_ _)) rfl _ _ 25 rfl 65 (.agg #[.int .i64 0, .int .u64 0, .int .i64 0, .int .i64 0, .int .i64 0]) 5 40 rfl rfl rfl (by decide) v1 (0 + A.l.length) ([] ++ A.l.flatMap Nd.cells) rfl (by first | exact ho1 | exact ho1.alloc _) (some ⟨_, 0, none⟩) 1 1 x.cells rfl (News.block (t := 65) (fr := (0, 0)) (by first | exact new_at rfl | exact new_at (by simp) | exact hk1 _ _ (by first | exact new_at rfl | exact new_at (by simp) | exact old_at (new_at rfl)) (by simp [Value.ownBlock])) rfl) (by simp [Value.oneCell', Nd.cells]) (by unfold maxLen; omega) (by omega) ?_
                 intro v2 wb ho2 hb2 hk2
                 obtain ⟨bb0, bb1⟩ := (Hb2.out.1.below hb2).cells
                 have bbf := fun o => frozen_of_heap (o := o) (Hb2.out.1.below hb2)
                 obtain ⟨g2, c2, rfl, hg2, hlt2⟩ := ho2.form (by omega))
              | (go_simp))
            all_goals go_wp2_with fail
            all_goals go_meet
            all_goals
              have hlb := lt_of_heap Hb2.out.1
              have hR2 := refat_of ho2
              have hup : Upd (One w.heap.size) wb (wb.setCell ⟨w.heap.size, 1, none⟩ (.slice (some ⟨g2, 0, none⟩) (A.l.length + 1) c2)) := (Upd.refl (One w.heap.size) wb).setCell (fun _ => rfl) _
              refine ⟨g2, c2, ?_, ?_, ?_, ?_, by omega⟩
              · have := heap_setCell_at (o := 1) (Hb2.out.1.below hb2) (.slice (some ⟨g2, 0, none⟩) (A.l.length + 1) c2)
                simpa using this
              · have h2 := (hb2.block _ lz).trans Hb2.out.2.2
                have := hup.heap h2 (by unfold One; omega)
                simpa using this
              · have := hR2.upd hup (by omega)
                simpa only [Nat.zero_add] using this
              · have := (below_call hbr2 hb2).setCell (p := ⟨w.heap.size, 1, none⟩) (Nat.le_refl _) (.slice (some ⟨g2, 0, none⟩) (A.l.length + 1) c2)
                simpa using this
          case rest =>
            obtain ⟨g2, c2, hx0, hz0, hR2, hbx, hge⟩ := hcut
            clear b0 b1 p0 p1 p2 p3 p4 z0 z1 zf lb lx lz
            have b0 := cell_of_heap (o := 0) hx0
            have b1 := cell_of_heap (o := 1) hx0
            have z0 := cell_of_heap (o := 0) hz0
            have z1 := cell_of_heap (o := 1) hz0
            have zf := fun o => frozen_of_heap (o := o) hz0
            simp only [List.getElem?_toArray, List.getElem?_cons_zero, List.getElem?_cons_succ] at b0 b1 z0 z1
            have lz := lt_of_heap hz0
            have Hx := Lib.hid (And.intro hz0 (And.intro hR2 (And.intro hbx hge)))
            clear hx0 hz0 hR2 hbx hge
            go_wp2_with fail
            go_region
            all_goals go_wp2_with fail
            all_goals
              have hfin := heap_set2 (v0 := .int .i64 A.limit) (v1 := .slice (some ⟨g2, 0, none⟩) (A.l.length + 1) c2) Hx.out.1
              have hu : Upd (One (w.heap.size + 2)) wc ((wc.setCell ⟨w.heap.size + 2, 0, none⟩ (.int .i64 A.limit)).setCell ⟨w.heap.size + 2, 1, none⟩ (.slice (some ⟨g2, 0, none⟩) (A.l.length + 1) c2)) := ((Upd.refl (One (w.heap.size + 2)) wc).setCell (fun _ => rfl) _).setCell (fun _ => rfl) _
              refine bodyPost_ret (v := .tuple #[refV ⟨A.limit, A.l ++ [x]⟩ g2 c2, .int .i64 A.l.length, .int .i64 0]) (by simp [results, Tryz.results28, go_sem, refV, cell_of_heap hfin]) rfl ⟨g2, c2, by rw [Hf.out], ?_, ?_, .inr (by have := Hx.out.2.2.2; omega)⟩
              · rw [Hf.out]
                first | exact RefAt.upd (b := w.heap.size + 2) Hx.out.2.1 hu (by have := Hx.out.2.2.2; omega) | exact RefAt.upd (b := w.heap.size + 2) Hx.out.2.1 hu.drew (by have := Hx.out.2.2.2; omega) | exact RefAt.upd (b := w.heap.size + 2) Hx.out.2.1 hu.drew.drew (by have := Hx.out.2.2.2; omega)
              · have h2 := (Hx.out.2.2.1.setCell (p := ⟨w.heap.size + 2, 0, none⟩) (by simp only; omega) (.int .i64 A.limit)).setCell (p := ⟨w.heap.size + 2, 1, none⟩) (by simp only; omega) (.slice (some ⟨g2, 0, none⟩) (A.l.length + 1) c2)
                first | exact h2 | exact h2.drew | exact h2.drew.drew
/-! The document's New of layer 1; a node as the document has it; the document's arena among the things that a law has made. -/
def refT (g cap : Nat) (l : List Nd) : Thing where
  P w S := RefAt w g cap l ∧ ∀ k, S k ↔ k = g
  lt w S h k hk := by rw [h.2] at hk; subst hk; exact (h.1.lt k rfl).2
  keep w w' S T h u hd := ⟨ownsRow_upd' h.1 u (fun k hk => hd k ((h.2 k).2 (by simp [Value.ownBlock] at hk; exact hk.symm))), h.2⟩
theorem Own.ref {w0 w : World} {L : List Thing} {i g cap : Nat} {l : List Nd} (h : Own w0 w L) (hi : L[i]? = some (refT g cap l)) : RefAt w g cap l := by
  obtain ⟨S, h1, _⟩ := h.at hi; exact h1.1
theorem Own.newRef {w0 w w' : World} {L : List Thing} {i g cap g' cap' : Nat} {l l' : List Nd} (h : Own w0 w L) (hi : L[i]? = some (refT g cap l)) (hb : Below w.heap.size w w') (hr : RefAt w' g' cap' l') (hg : g' = g ∨ w.heap.size ≤ g') : Own w0 w' (L.set i (refT g' cap' l')) := by
  obtain ⟨S, hp, hk⟩ := h.upd hi
  exact hk w' (refT g' cap' l') (fun k => k = g') (Upd.of_below hb) ⟨hr, fun _ => Iff.rfl⟩ (fun b hb => hg.imp (fun e => (hp.2 b).2 (by omega)) (fun e => by omega))
def RNewPost (limit : Int) (w : World) (e : Ending) (w' : World) : Prop := ∃ g cap, e = .returned (refV (newAr limit) g cap) ∧ RefAt w' g cap [Nd.zero] ∧ Below w.heap.size w w' ∧ w.heap.size ≤ g
theorem refat_new {w : World} {g : Nat} (h : w.heap[g]? = some (.cells #[.int .i64 0, .int .u64 0, .int .i64 0, .int .i64 0, .int .i64 0] 65 (0, 0))) : RefAt w g 1 [Nd.zero] :=
  ⟨by simp [Nd.cells], .inr ⟨g, 1, _, rfl, Nat.zero_le _, h, Nat.le_refl _, by unfold maxLen; simp, rfl, rfl⟩⟩
set_option maxHeartbeats 800000 in
set_option maxRecDepth 100000 in
theorem rNew_calls (limit : Int) (w : World) : Calls Tryz.prog 11 #[.int .i64 limit] w (RNewPost limit w) := by
  by_cases h1 : limit < 1
  · have hd1 : decide (limit < 1) = true := decide_eq_true h1
    have Hl := Lib.hid (show newAr limit = ⟨1, [Nd.zero]⟩ by simp [newAr]; omega)
    clear h1
    go_enter Tryz.func11, Tryz.ntmps11
    go_wp2_with fail
    have hfin := (two_new w (.cells #[.int .i64 1, .slice (some ⟨w.heap.size + 1, 0, none⟩) 1 1] 27) (.cells #[.int .i64 0, .int .u64 0, .int .i64 0, .int .i64 0, .int .i64 0] 65))
    refine bodyPost_ret (v := refV (newAr limit) (w.heap.size + 1) 1) (by rw [Hl.out]; simp [results, Tryz.results11, go_sem, refV, cell_of_heap hfin.1]) rfl ⟨_, _, rfl, refat_new hfin.2, below2 w _ _, by omega⟩
  · by_cases h2 : 65536 < limit
    · have hd1 : decide (limit < 1) = false := decide_eq_false h1
      have hd2 : decide (65536 < limit) = true := decide_eq_true h2
      have Hl := Lib.hid (show newAr limit = ⟨65536, [Nd.zero]⟩ by simp [newAr]; omega)
      clear h1 h2
      go_enter Tryz.func11, Tryz.ntmps11
      go_wp2_with fail
      have hfin := (two_new w (.cells #[.int .i64 65536, .slice (some ⟨w.heap.size + 1, 0, none⟩) 1 1] 27) (.cells #[.int .i64 0, .int .u64 0, .int .i64 0, .int .i64 0, .int .i64 0] 65))
      refine bodyPost_ret (v := refV (newAr limit) (w.heap.size + 1) 1) (by rw [Hl.out]; simp [results, Tryz.results11, go_sem, refV, cell_of_heap hfin.1]) rfl ⟨_, _, rfl, refat_new hfin.2, below2 w _ _, by omega⟩
    · have hd1 : decide (limit < 1) = false := decide_eq_false h1
      have hd2 : decide (65536 < limit) = false := decide_eq_false h2
      obtain ⟨m, rfl⟩ : ∃ m : Nat, limit = m := ⟨limit.toNat, by omega⟩
      have Hl := Lib.hid (show newAr (m : Int) = ⟨m, [Nd.zero]⟩ by simp [newAr]; omega)
      clear h1 h2
      go_enter Tryz.func11, Tryz.ntmps11
      go_wp2_with fail
      have hfin := (two_new w (.cells #[.int .i64 m, .slice (some ⟨w.heap.size + 1, 0, none⟩) 1 1] 27) (.cells #[.int .i64 0, .int .u64 0, .int .i64 0, .int .i64 0, .int .i64 0] 65))
      refine bodyPost_ret (v := refV (newAr (m : Int)) (w.heap.size + 1) 1) (by rw [Hl.out]; simp [results, Tryz.results11, go_sem, refV, cell_of_heap hfin.1]) rfl ⟨_, _, rfl, refat_new hfin.2, below2 w _ _, by omega⟩
def OnePost (x : Nd) (w : World) (e : Ending) (w' : World) : Prop := e = .returned x.val ∧ Below w.heap.size w w'
set_option maxHeartbeats 800000 in
theorem one_calls (x : Nd) (w : World) : Calls Tryz.prog 29 #[x.val] w (OnePost x w) := by
  unfold Nd.val
  go_enter Tryz.func29, Tryz.ntmps29
  go_wp2_with fail
  have hfin := (two_new w (.cells #[.int .i64 x.kind, .int .u64 x.n, .int .i64 x.a, .int .i64 x.b, .int .i64 x.c] 61) (.cells #[.int .i64 x.kind, .int .u64 x.n, .int .i64 x.a, .int .i64 x.b, .int .i64 x.c] 65))
  refine bodyPost_ret (v := x.val) (by simp [results, Tryz.results29, go_sem, Nd.val, cell_of_heap hfin.2]) rfl ⟨rfl, below2 w _ _⟩
end Go.Proofs.YtfelbecofbdeaaaGreatDoor
