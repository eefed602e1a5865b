/- Packed for this claim by packm.py: Tok10, Bas1, LaidEnv5, Val1. -/
import Derived.Test.YtikimmgileffgaaGreatDoorPk05
import Derived.Deep.DeepCutAuto
import Derived.Deep.AppendLies
import Derived.Lib.SmallJoins
import Derived.Stop.LaidErr
import Derived.Lib.LaidTab
import Derived.Shelf.Vars
import Derived.Lay
import Derived.HandedShaped
import Derived.LaidLaws
import Derived.Test.YtikimmgileffgaaGreatDoorPk01
import Derived.Test.YtikimmgileffgaaGreatDoorPk03
import Derived.Test.YtikimmgileffgaaGreatDoorPk02
import Derived.Lib.Hide
import Derived.Deep.RegionHeld3
/- A row of a text read (layer 5): row. -/
section
namespace Go.Proofs.YtikimmgileffgaaGreatDoor
open Go.RowKit

theorem einfo_int5 : (Tryz.prog.info? 3).map (fun i => (i.zero, i.size, i.bytes)) = some (some (.int .i64 0), 1, 8) := by kernel_rfl
theorem Upd.setOne5 {a w : World} {b o : Nat} {v : Value} (h : Upd (One b) a w) : Upd (One b) a (w.setCell ⟨b, o, none⟩ v) := h.setCell (fun _ => rfl) v
theorem Upd.of_below5 {S : Nat → Prop} {a w : World} (h : Below a.heap.size a w) : Upd S a w := ⟨h.os, h.tape, h.output, h.size, fun k hk _ => h.block k hk⟩
theorem heap_two {w : World} {b : Nat} {a0 a1 v0 v1 : Value} {e : TypeId} {f : Nat × Nat} (h : w.heap[b]? = some (.cells #[a0, a1] e f)) :
    ((w.setCell ⟨b, 0, none⟩ v0).setCell ⟨b, 1, none⟩ v1).heap[b]? = some (.cells #[v0, v1] e f) := by
  have := heap_setCell_at (o := 1) (heap_setCell_at (o := 0) h v0) v1
  simpa using this
theorem Own.setTwo {w0 w : World} {L : List Thing} {i b : Nat} {a0 a1 : Value} {e : TypeId} (h : Own w0 w L) (hi : L[i]? = some (Go.Proofs.YtikimmgileffgaaGreatDoor.blk b (.cells #[a0, a1] e (0, 0)))) (v0 v1 : Value) :
    Own w0 ((w.setCell ⟨b, 0, none⟩ v0).setCell ⟨b, 1, none⟩ v1) (L.set i (Go.Proofs.YtikimmgileffgaaGreatDoor.blk b (.cells #[v0, v1] e (0, 0)))) :=
  h.store hi (((Upd.refl (One b) w).setCell (fun _ => rfl) _).setCell (fun _ => rfl) _) (heap_two (h.blk hi))
theorem row_form5 {w : World} {base : Nat} {e : TypeId} {v : Value} {n : Nat} {xs : List Value} {size : Nat} (h : w.ownsRow base e size v n xs) : ∃ A cap, v = .slice A n cap := by
  rcases h.2 with ⟨rfl, rfl⟩ | ⟨g, cap, _, rfl, _⟩
  · exact ⟨_, _, rfl⟩
  · exact ⟨_, _, rfl⟩
def namesL : List (List UInt8) := [[63], [101], [115], [101, 101], [101, 115], [115, 101], [115, 115], [112, 115, 107]]
def namesO : Obj := .cells #[.string ⟨#[63]⟩, .string ⟨#[101]⟩, .string ⟨#[115]⟩, .string ⟨#[101, 101]⟩, .string ⟨#[101, 115]⟩, .string ⟨#[115, 101]⟩, .string ⟨#[115, 115]⟩, .string ⟨#[112, 115, 107]⟩] 262 (0, 0)
theorem names_index {w : World} {b : Nat} (h : w.heap[b]? = some namesO) (x : List UInt8) :
    Calls Tryz.prog 53 #[.slice (some ⟨b, 0, none⟩) 8 8, .string (strO x)] w fun e w' => e = .returned (.int .i64 (tokI x)) ∧ w' = w := by
  have := index5_calls namesL x b 0 8 w (by decide) (fun j s hj => by
    have hc : ∀ o, w.cell? ⟨b, o, none⟩ = _ := fun o => cell_of_heap (o := o) h
    rw [Nat.zero_add, hc]
    match j, hj with
    | 0, hj => cases hj; rfl
    | 1, hj => cases hj; rfl
    | 2, hj => cases hj; rfl
    | 3, hj => cases hj; rfl
    | 4, hj => cases hj; rfl
    | 5, hj => cases hj; rfl
    | 6, hj => cases hj; rfl
    | 7, hj => cases hj; rfl)
  rw [show namesL.map strO = [strO [63], strO [101], strO [115], strO [101, 101], strO [101, 115], strO [115, 101], strO [115, 115], strO [112, 115, 107]] from rfl, tokI_eq] at this
  exact this
theorem arrow_index {w : World} {b : Nat} (h : w.heap[b]? = some (.cells #[.string ⟨#[45, 62]⟩, .string ⟨#[60, 45]⟩] 9 (0, 0))) (x : List UInt8) :
    Calls Tryz.prog 53 #[.slice (some ⟨b, 0, none⟩) 2 2, .string (strO x)] w fun e w' => e = .returned (.int .i64 (arrowI x)) ∧ w' = w := by
  have := index5_calls [[45, 62], [60, 45]] x b 0 2 w (by decide) (fun j s hj => by
    have hc : ∀ o, w.cell? ⟨b, o, none⟩ = _ := fun o => cell_of_heap (o := o) h
    rw [Nat.zero_add, hc]
    match j, hj with
    | 0, hj => cases hj; rfl
    | 1, hj => cases hj; rfl)
  rw [show [[45, 62], [60, 45]].map strO = [strO [45, 62], strO [60, 45]] from rfl, arrowI_eq] at this
  exact this
def RowPost (s : List UInt8) (w : World) (e : Ending) (w' : World) : Prop :=
  ∃ v, e = .returned (.tuple #[.agg #[.int .i64 (rowM s).frm, v], .bool (rowB (rowM s))]) ∧ Own w w' [rowT 3 1 v (rowM s).t.length (intsV (rowM s).t)]
set_option warningAsError false in
set_option maxHeartbeats 3200000 in
set_option maxRecDepth 100000 in
theorem row_calls (s : List UInt8) (w : World) (he : EnvS w) (hs : s.length ≤ 100000) : Calls Tryz.prog 120 #[.string (strO s)] w (RowPost s w) := by
  have HE := Lib.hid he
  have hcl : (Lib.cut s [32]).2.1.length ≤ s.length := by
    unfold Lib.cut; split
    · simp
    · simp
  have HC := Lib.hid (fun (w' : World) (b : Below w.heap.size w w') => cut5_calls s [32] w' (HE.out.below b) (by omega))
  have HSp := Lib.hid (fun (w' : World) (L : List Thing) (h : Own w w' L) => split5_calls (Lib.cut s [32]).2.1 [44, 32] w' (HE.out.below h.below) (by omega) (by decide))
  have HM := Lib.hid (show rowM s = ⟨arrowI (Lib.cut s [32]).1, (Lib.split (Lib.cut s [32]).2.1 [44, 32]).map tokI⟩ from rfl)
  have Hsl := Lib.hid (show (Lib.split (Lib.cut s [32]).2.1 [44, 32]).length ≤ 100001 by
    rw [split_len _ _ (by decide)]
    have : ∀ (n : Nat) (l : List UInt8), l.length ≤ n → Lib.count l [44, 32] ≤ l.length := by
      intro n
      induction n with
      | zero => intro l hl; have := List.eq_nil_of_length_eq_zero (Nat.le_zero.1 hl); subst this; decide
      | succ n ih =>
        intro l hl
        rcases Lib.index_spec l [44, 32] with ⟨hm, _⟩ | ⟨i, hi, hle, hocc, _⟩
        · rw [Lib.count_miss hm]; omega
        · rw [Lib.count_hit (by decide) hi]
          have hp : [44, 32] <+: l.drop i := by rw [← List.isPrefixOf_iff_prefix]; exact hocc
          have h2 := hp.length_le
          rw [List.length_drop] at h2
          have h3 := ih (l.drop (i + [44, 32].length)) (by rw [List.length_drop]; simp at h2 ⊢; omega)
          rw [List.length_drop] at h3
          simp at h2 h3 ⊢; omega
    have := this _ (Lib.cut s [32]).2.1 (Nat.le_refl _)
    omega)
  unfold CutPost at HC
  unfold SplitPost at HSp
  unfold RowPost
  rw [HM.out]
  clear he hcl hs HM HE
  generalize (Lib.cut s [32]).1 = ca at *
  generalize (Lib.cut s [32]).2.1 = cr at *
  generalize (Lib.cut s [32]).2.2 = cb at *
  generalize Lib.split cr [44, 32] = sp at *
  generalize strO s = s0 at *
  have z1 : strO [32] = ⟨#[32]⟩ := rfl
  have z2 : strO [44, 32] = ⟨#[44, 32]⟩ := rfl
  rw [z1] at HC
  rw [z2] at HSp
  clear z1 z2
  go_enter Tryz.func120, Tryz.ntmps120
  go_wp2_with fail
  refine (HC.out _ ((Below.refl _ _).alloc (Nat.le_refl _) _)).mono ?_
  rintro e w1 ⟨rfl, b1⟩
  have O1 := Lib.hid (((Own.start w).alloc (.cells #[.int .i64 0, .slice none 0 0] 61)).call b1)
  clear b1 HC
  have HA := Lib.hid (fun (w' : World) (b : Nat) (h : w'.heap[b]? = some (.cells #[.string ⟨#[45, 62]⟩, .string ⟨#[60, 45]⟩] 9 (0, 0))) => arrow_index h ca)
  generalize w.heap.size = X at *
  generalize strO ca = ca' at *
  generalize strO cr = cr' at *
  go_wp2_with fail
  refine (HA.out _ _ (new_at rfl)).mono ?_
  rintro e w2 ⟨rfl, rfl⟩
  have O2 := Lib.hid (O1.out.alloc (.cells #[.string ⟨#[45, 62]⟩, .string ⟨#[60, 45]⟩] 9))
  generalize w1.alloc (.cells #[.string ⟨#[45, 62]⟩, .string ⟨#[60, 45]⟩] 9) = W2 at *
  clear HA O1
  go_wp2_with fail
  have O3 := Lib.hid (O2.out.alloc (.cells #[.int .i64 (arrowI ca), .slice none 0 0] 61))
  refine (HSp.out _ _ O3.out).mono ?_
  rintro e w2 ⟨rfl, rfl⟩
  have O4 := Lib.hid ((O3.out.alloc (.cells (strsV sp).toArray 9)).nilRow 3 1)
  clear O2 O3 HSp
  generalize W2.heap.size = Y at *
  generalize W2.alloc (.cells #[.int .i64 (arrowI ca), .slice none 0 0] 61) = W3 at *
  generalize W3.heap.size = Z at *
  generalize W3.alloc (.cells (strsV sp).toArray 9) = W4 at *
  go_wp2_with fail
  go_loopw [24] (fun i wr => ∃ (k : Nat) (v : Value) (M : List Thing), k ≤ sp.length ∧ i = .int .i64 k ∧ Own w wr (rowT 3 1 v k (intsV ((sp.take k).map tokI)) :: blk Z (.cells (strsV sp).toArray 9) :: blk Y (.cells #[.int .i64 (arrowI ca), v] 61) :: blk X (.cells #[.int .i64 0, .slice none 0 0] 61) :: M))
    (fun i _ => sp.length - (intOf i).toNat)
  case atStart => exact ⟨0, .slice none 0 0, [], by omega, rfl, O4.out.pick [0, 1, 2, 4] (by rfl)⟩
  case round =>
    clear O4
    obtain ⟨k, v, M, hk, rfl, ok⟩ := hrel
    have Ok := Lib.hid ok
    clear ok
    by_cases hlt : k < sp.length
    · obtain ⟨x, hx⟩ : ∃ x, sp[k]? = some x := ⟨_, List.getElem?_eq_getElem hlt⟩
      have hik : (k : Int) < sp.length := by omega
      have hc : wr.cell? ⟨Z, k, none⟩ = some (.string (strO x)) := by
        rw [cell_of_heap (Ok.out.blk (i := 1) rfl)]; simp [strsV, hx]
      have Htk := Lib.hid (show intsV ((sp.take (k + 1)).map tokI) = intsV ((sp.take k).map tokI) ++ [.int .i64 (tokI x)] by rw [List.take_add_one, hx]; simp [intsV])
      have Hlt := Lib.hid hlt
      have hk6 : k ≤ 100001 := by have := Hsl.out; omega
      have HN := Lib.hid (fun (w' : World) (b : Nat) (h : w'.heap[b]? = some namesO) => names_index h x)
      clear hx hlt hk
      generalize intsV ((sp.take k).map tokI) = L at *
      generalize strO x = sx at *
      generalize tokI x = tx at *
      go_wp2_with fail
      refine (names_calls wr).mono ?_
      rintro e w5 ⟨rfl, b5⟩
      have O5 := Lib.hid ((Ok.out.call b5).alloc namesO)
      clear b5 Ok hc
      unfold namesV
      go_upto_region 7 with fail
      unfold namesO at O5 HN
      generalize w5.heap.size = B at *
      generalize w5.alloc (.cells #[.string ⟨#[63]⟩, .string ⟨#[101]⟩, .string ⟨#[115]⟩, .string ⟨#[101, 101]⟩, .string ⟨#[101, 115]⟩, .string ⟨#[115, 101]⟩, .string ⟨#[115, 115]⟩, .string ⟨#[112, 115, 107]⟩] 262) = W at *
      have y0 := cell_of_heap (o := 0) (O5.out.blk (i := 3) rfl)
      have y1 := cell_of_heap (o := 1) (O5.out.blk (i := 3) rfl)
      simp only [List.getElem?_toArray, List.getElem?_cons_zero, List.getElem?_cons_succ] at y0 y1
      have hbb : Below W.heap.size W W := Below.refl _ _
      have KS := Lib.hid (show ∀ w', Below W.heap.size W w' → (w'.cell? ⟨Y, 1, none⟩ = some v) from fun w' h => (h.cell (World.block_lt_of_cell? W _ y1)).trans y1)
      have HNN := Lib.hid (show ∀ w', Below W.heap.size W w' → Calls Tryz.prog 53 #[.slice (some ⟨B, 0, none⟩) 8 8, .string sx] w' (fun e w'' => e = .returned (.int .i64 tx) ∧ w'' = w') from fun w' h => HN.out w' B ((O5.out.call h).blk (i := 0) rfl))
      have oo := O5.out
      have y1a : (W.alloc (.cells #[.int .i64 tx] 3)).cell? ⟨Y, 1, none⟩ = some v := KS.out _ (belowAlloc hbb _)
      have y1b : (W.alloc (.cells #[.int .i64 tx] 3)).drew.cell? ⟨Y, 1, none⟩ = some v := y1a
      have lY := World.block_lt_of_cell? W _ y1
      go_region_law (first
        | (go_simp; go_at_call 53; with_reducible refine (HNN.out _ (by repeat (first | with_reducible assumption | with_reducible refine Below.drew ?_ | with_reducible refine belowAlloc ?_ _))).mono ?_; rintro e wa ⟨rfl, rfl⟩)
        | (have oc := (oo.alloc (.cells #[.int .i64 tx] 3)).drew
           refine step_ocat oc _ _ 29 rfl rfl 3 (.int .i64 0) 1 8 Tryz.underlying29 einfo_int5 rfl (by decide) v k L rfl 2 rfl (some ⟨_, 0, none⟩) 1 1 [.int .i64 tx] rfl (News.block (cs := [.int .i64 tx]) (oc.blk (i := 0) rfl) rfl) (by simp [Value.oneCell']) (by unfold maxLen; omega) (by omega) ?_
           intro v6 w6 o7
           obtain ⟨A6, c6, rfl⟩ := row_form5 (o7.row (i := 2) rfl)
           have z0 := cell_of_heap (o := 0) (o7.blk (i := 4) rfl)
           have z1 := cell_of_heap (o := 1) (o7.blk (i := 4) rfl)
           have f4 := fun o => frozen_of_heap (o := o) (o7.blk (i := 4) rfl)
           have l4 := lt_of_heap (o7.blk (i := 4) rfl)
           simp only [List.getElem?_toArray, List.getElem?_cons_zero, List.getElem?_cons_succ] at z0 z1)
        | (go_simp))
      all_goals
        have o8 := o7.store (i := 4) rfl ((Upd.refl (One Y) w6).setCell (fun _ => rfl) (.slice A6 (k + 1) c6)) (heap_setCell_at (o := 1) (o7.blk (i := 4) rfl) _)
        have O9 := Lib.hid o8
        clear o7 o8 oo y0 y1 hbb KS HNN O5 HN oc
        go_wp2_with fail
        go_roundw
      all_goals first
        | (have := Hlt.out; exact ⟨k + 1, _, M, by omega, by go_num, by rw [Htk.out]; exact O9.out.tail.tail⟩)
        | (have := Hlt.out; simp only [intOf]; omega)
    · obtain rfl : k = sp.length := by omega
      have ok := Ok.out
      rw [List.take_length] at ok
      obtain ⟨A, c, rfl⟩ := row_form5 (ok.row (i := 0) rfl)
      have hh : Holds wr A (intsV (sp.map tokI)) := by
        obtain ⟨A', c', e1, e2, -⟩ := holds_of_owns (ok.row (i := 0) rfl)
        cases e1; exact e2
      have nXY : Y ≠ X := ok.ne (i := 2) (j := 3) rfl rfl (by decide)
      have y0 := cell_of_heap (o := 0) (ok.blk (i := 2) rfl)
      have y1 := cell_of_heap (o := 1) (ok.blk (i := 2) rfl)
      simp only [List.getElem?_toArray, List.getElem?_cons_zero, List.getElem?_cons_succ] at y0 y1
      have hbw : Below wr.heap.size wr wr := Below.refl _ _
      have hub : Upd (One X) wr wr := Upd.refl _ _
      have KS := Lib.hid (show ∀ w', Upd (One X) wr w' → (w'.cell? ⟨Y, 0, none⟩ = some (.int .i64 (arrowI ca)) ∧ w'.cell? ⟨Y, 1, none⟩ = some (.slice A sp.length c)) from fun w' h => ⟨h.cell' y0 nXY, h.cell' y1 nXY⟩)
      have OK := Lib.hid ok
      have KZ := Lib.hid (show ∀ w', Below wr.heap.size wr w' → (w'.cell? ⟨X, 0, none⟩ = some (.int .i64 0) ∧ w'.cell? ⟨X, 1, none⟩ = some (.slice none 0 0) ∧ (∀ o, w'.frozen? ⟨X, o, none⟩ = false) ∧ X < w'.heap.size) from fun w' h => by
        have hz := (OK.out.call h).blk (i := 3) rfl
        exact ⟨cell_of_heap hz, cell_of_heap hz, fun o => frozen_of_heap hz, lt_of_heap hz⟩)
      have Hany := Lib.hid (show ∀ w', Below wr.heap.size wr w' → Calls Tryz.prog 114 #[.slice A sp.length c, .func (.func 173) #[] #[]] w' (fun e w'' => e = .returned (.bool ((sp.map tokI).any fun t => decide (t < 1))) ∧ Below w'.heap.size w' w'') from fun w' b => by
        have := anyBad_calls (l := sp.map tokI) c (hh.below b) (by rw [List.length_map]; have := Hsl.out; omega)
        rwa [List.length_map] at this)
      have Hrb := Lib.hid (show rowB ⟨arrowI ca, sp.map tokI⟩ = (decide (0 ≤ arrowI ca) && !(sp.map tokI).any fun t => decide (t < 1)) from rfl)
      have hsl : sp.length ≤ 100001 := Hsl.out
      clear hk hlt Ok ok hh y0 y1
      generalize ((sp.map tokI).any fun t => decide (t < 1)) = bad at *
      generalize hfr : arrowI ca = fr at *
      have Hfr := Lib.hid hfr
      clear hfr
      by_cases hf : 0 ≤ fr
      · have d0 : decide (0 ≤ fr) = true := decide_eq_true hf
        have Hr2 := Lib.hid (show rowB ⟨fr, sp.map tokI⟩ = !bad by rw [Hrb.out, d0]; rfl)
        clear hf
        obtain ⟨x0, x1, f0, l0⟩ := KZ.out _ hbw
        obtain ⟨y0, y1⟩ := KS.out _ hub
        go_upto_region 9 with fail
        go_region_held3 (fun w' => w'.cell? ⟨Y, 0, none⟩ = some (.int .i64 fr) ∧ w'.cell? ⟨Y, 1, none⟩ = some (.slice A sp.length c))
          (first | exact KS.out _ (by repeat (first | with_reducible assumption | with_reducible refine Upd.drew ?_ | with_reducible refine Upd.alloc ?_ _ | with_reducible refine Upd.setOne5 ?_)))
          (first
            | (go_at_call 114; with_reducible refine (Hany.out _ (by repeat (first | with_reducible assumption | with_reducible refine Below.drew ?_ | with_reducible refine belowAlloc ?_ _))).mono ?_; rintro e wa ⟨rfl, hba⟩
               have hxa : Below wr.heap.size wr wa := below_call (by repeat (first | with_reducible assumption | with_reducible refine Below.drew ?_ | with_reducible refine belowAlloc ?_ _)) hba
               have hxu : Upd (One X) wr wa := Upd.of_below5 hxa
               obtain ⟨z0, z1, f4, l4⟩ := KZ.out _ hxa))
        all_goals go_wp2_with fail
        all_goals
          have o8 := (OK.out.call hxa).setTwo (i := 3) rfl (.int .i64 fr) (.slice A sp.length c)
          have hfin := o8.blk (i := 3) rfl
          have hx := (OK.out.call hxa).blk (i := 3) rfl
          refine bodyPost_ret (v := .tuple #[.agg #[.int .i64 fr, .slice A sp.length c], .bool (!bad)]) (by simp [results, Tryz.results120, go_sem, cell_of_heap hfin]) rfl ?_
          refine ⟨.slice A sp.length c, by rw [Hfr.out, Hr2.out], ?_⟩
          rw [List.length_map]
          first | exact o8.pick [0] (by rfl) | exact o8.drew.pick [0] (by rfl)
      · have d0 : decide (0 ≤ fr) = false := decide_eq_false hf
        have Hr2 := Lib.hid (show rowB ⟨fr, sp.map tokI⟩ = false by rw [Hrb.out, d0]; rfl)
        clear hf
        obtain ⟨x0, x1, f0, l0⟩ := KZ.out _ hbw
        obtain ⟨y0, y1⟩ := KS.out _ hub
        go_upto_region 9 with fail
        first
          | (go_region_held3 (fun w' => w'.cell? ⟨Y, 0, none⟩ = some (.int .i64 fr) ∧ w'.cell? ⟨Y, 1, none⟩ = some (.slice A sp.length c))
          (first | exact KS.out _ (by repeat (first | with_reducible assumption | with_reducible refine Upd.drew ?_ | with_reducible refine Upd.alloc ?_ _ | with_reducible refine Upd.setOne5 ?_)))
          (first | (go_at_call 114; with_reducible refine (Hany.out _ (by repeat (first | with_reducible assumption | with_reducible refine Below.drew ?_ | with_reducible refine belowAlloc ?_ _))).mono ?_; rintro e wa ⟨rfl, hba⟩)))
          | fail
        all_goals go_wp2_with fail
        all_goals
          have o8 := OK.out.setTwo (i := 3) rfl (.int .i64 fr) (.slice A sp.length c)
          have hfin := o8.blk (i := 3) rfl
          have hx := OK.out.blk (i := 3) rfl
          refine bodyPost_ret (v := .tuple #[.agg #[.int .i64 fr, .slice A sp.length c], .bool false]) (by simp [results, Tryz.results120, go_sem, cell_of_heap hfin]) rfl ?_
          refine ⟨.slice A sp.length c, by rw [Hfr.out, Hr2.out], ?_⟩
          rw [List.length_map]
          first | exact o8.pick [0] (by rfl) | exact o8.drew.pick [0] (by rfl)
end Go.Proofs.YtikimmgileffgaaGreatDoor
end
/- The base patterns (layer 6): a text's tokens. -/
section
namespace Go.Proofs.YtikimmgileffgaaGreatDoor
open Go.RowKit

/-- What Fields reads of package-level variables. -/
structure EnvB (w : World) : Prop where
  str : EnvS w
  tab : Lib.TabIs Tryz.prog w "strings.asciiSpace" .u8 Lib.asciiSpaceTab
theorem gSp : ∃ g, Tryz.prog.globalNamed "strings.asciiSpace" = some g := by
  cases h : Tryz.prog.globalNamed "strings.asciiSpace" with
  | none => exact absurd h (by decide +kernel)
  | some g => exact ⟨g, rfl⟩
theorem EnvB.below {w w' : World} (h : EnvB w) (hb : Below w.heap.size w w') : EnvB w' := by
  obtain ⟨g1, h1⟩ := gSp
  exact ⟨h.str.below hb, Joins.tab_stays h1 h.tab hb (Nat.le_refl _)⟩
/-- The tokens up to j that a word names. -/
def hits (x : List UInt8) : Nat → List Int
  | 0 => []
  | j + 1 => hits x j ++ (if tokName (j + 1 : Nat) = x then [((j + 1 : Nat) : Int)] else [])
def toksB (s : List UInt8) : List Int := (Lib.fields s).flatMap fun x => hits x 7
theorem hits_len (x : List UInt8) (j : Nat) : (hits x j).length ≤ j := by
  induction j with
  | zero => simp [hits]
  | succ j ih => simp only [hits, List.length_append]; split <;> simp <;> omega
theorem toks_len (l : List (List UInt8)) : (l.flatMap fun x => hits x 7).length ≤ 7 * l.length := by
  induction l with
  | nil => simp
  | cons x l ih => have := hits_len x 7; rw [List.flatMap_cons, List.length_append, List.length_cons]; omega
def TokPost (s : List UInt8) (w : World) (e : Ending) (w' : World) : Prop := ∃ v, e = .returned v ∧ Own w w' [rowT 3 1 v (toksB s).length (intsV (toksB s))]
set_option maxHeartbeats 3200000 in
set_option maxRecDepth 100000 in
theorem tokens_calls (s : List UInt8) (w : World) (he : EnvB w) (hs : s.length ≤ 100000) (ha : ∀ b ∈ s, b.toNat < 128) (hf : (Lib.fields s).length ≤ 100000) : Calls Tryz.prog 56 #[.string (strO s)] w (TokPost s w) := by
  have HF := Lib.hid (Sh.strings_Fields (strO s) w (by rw [size_str]; omega) (fun j b hb => ha b (by rw [strO_data] at hb; exact List.mem_of_getElem? hb)) he.tab)
  rw [strO_data] at HF
  have Hto := Lib.hid (show toksB s = (Lib.fields s).flatMap fun x => hits x 7 from rfl)
  unfold TokPost
  rw [Hto.out]
  clear he hs ha Hto
  generalize Lib.fields s = F at *
  go_enter Tryz.func56, Tryz.ntmps56
  go_wp2_with fail
  refine HF.out.mono ?_
  rintro e w1 ⟨rfl, rfl⟩
  have O1 : Hid (Own w (w.alloc (.cells (F.map fun l => Value.string ⟨l.toArray⟩).toArray 9)) [rowT 3 1 (.slice none 0 0) 0 [], blk w.heap.size (.cells (strsV F).toArray 9 (0, 0))]) := Lib.hid (((Own.start w).alloc (.cells (F.map fun l => Value.string ⟨l.toArray⟩).toArray 9)).nilRow 3 1)
  clear HF
  generalize w.heap.size = Z at *
  generalize w.alloc (.cells (F.map fun l => Value.string ⟨l.toArray⟩).toArray 9) = W at *
  go_wp2_with fail
  go_loopw [3, 10] (fun v i wr => ∃ k : Nat, k ≤ F.length ∧ i = .int .i64 k ∧ Own w wr [rowT 3 1 v ((F.take k).flatMap fun x => hits x 7).length (intsV ((F.take k).flatMap fun x => hits x 7)), blk Z (.cells (strsV F).toArray 9 (0, 0))])
    (fun _ i _ => F.length - (intOf i).toNat)
  case atStart => exact ⟨0, by omega, rfl, O1.out⟩
  case round =>
    clear O1
    obtain ⟨k, hk, rfl, ok⟩ := hrel
    have Ok := Lib.hid ok
    clear ok
    by_cases hlt : k < F.length
    · obtain ⟨x, hx⟩ : ∃ x, F[k]? = some x := ⟨_, List.getElem?_eq_getElem hlt⟩
      have hik : (k : Int) < F.length := by omega
      have hc : wr.cell? ⟨Z, k, none⟩ = some (.string (strO x)) := by
        rw [cell_of_heap (Ok.out.blk (i := 1) rfl)]
        simp only [strsV, List.getElem?_toArray, List.getElem?_map, hx]; rfl
      have Htk := Lib.hid (show ((F.take (k + 1)).flatMap fun x => hits x 7) = ((F.take k).flatMap fun x => hits x 7) ++ hits x 7 by rw [List.take_add_one, hx, List.flatMap_append]; simp)
      have hl7 : ((F.take k).flatMap fun x => hits x 7).length ≤ 700000 := by have := toks_len (F.take k); rw [List.length_take] at this; omega
      have Hlt := Lib.hid hlt
      clear hx hlt hk
      generalize ((F.take k).flatMap fun x => hits x 7) = T at *
      go_wp2_with fail
      go_loopw [3, 6] (fun v i wr => ∃ j : Nat, j ≤ 7 ∧ i = .int .i64 ((j : Int) + 1) ∧ Own w wr [rowT 3 1 v (T ++ hits x j).length (intsV (T ++ hits x j)), blk Z (.cells (strsV F).toArray 9 (0, 0))])
        (fun _ i _ => 8 - (intOf i).toNat)
      case atStart => exact ⟨0, by omega, rfl, by simp only [hits, List.append_nil]; exact Ok.out⟩
      case round =>
        clear Ok hc
        obtain ⟨j, hj, rfl, oj⟩ := hrel
        have Oj := Lib.hid oj
        clear oj
        by_cases hj7 : j < 7
        · have d1 : decide ((j : Int) + 1 ≤ 7) = true := decide_eq_true (by omega)
          have hjl := hits_len x j
          have Hj := Lib.hid hj7
          have Hh := Lib.hid (show hits x (j + 1) = hits x j ++ (if tokName (j + 1 : Nat) = x then [((j + 1 : Nat) : Int)] else []) from rfl)
          have hj8 : (j : Int) + 1 ≤ 8 := by omega
          have HN := Lib.hid (name_calls ((j : Int) + 1) wr)
          have hbt : ((strO (tokName ((j : Int) + 1))).toList == (strO x).toList) = decide (tokName ((j + 1 : Nat) : Int) = x) := by rw [← beq_toListBytes, strO_eq]; rfl
          clear hj hj7
          go_wp2_with fail
          refine HN.out.mono ?_
          rintro e w4 ⟨rfl, b4⟩
          have O4 := Lib.hid (Oj.out.call b4)
          clear Oj HN b4
          by_cases ht : tokName ((j + 1 : Nat) : Int) = x
          · rw [decide_eq_true ht] at hbt
            have Hh2 := Lib.hid (show intsV (T ++ hits x (j + 1)) = intsV (T ++ hits x j) ++ [.int .i64 ((j : Int) + 1)] by rw [Hh.out, if_pos ht]; simp [intsV])
            have Hh3 := Lib.hid (show (T ++ hits x (j + 1)).length = (T ++ hits x j).length + 1 by rw [Hh.out, if_pos ht]; simp; omega)
            have hll : (T ++ hits x j).length ≤ 800000 := by rw [List.length_append]; omega
            have o5 := O4.out.alloc (.cells #[.int .i64 ((j : Int) + 1)] 3)
            clear ht Hh
            generalize intsV (T ++ hits x j) = LL at *
            generalize (T ++ hits x j).length = nn at *
            go_wp2_with (at_builtin; go_loud (refine wpList_ocat o5 rfl (.tmp 22) (.tmp 24) 29 rfl 3 (.int .i64 0) 1 8 Tryz.underlying29 einfo_int5 rfl (by decide) u3 nn LL rfl 1 rfl (some ⟨w4.heap.size, 0, none⟩) 1 1 [.int .i64 ((j : Int) + 1)] rfl (News.block (cs := [.int .i64 ((j : Int) + 1)]) (new_at rfl) rfl) (by simp [Value.oneCell']) (by unfold maxLen; omega) (by omega) ?_))
            intro v6 w6 o7
            have O7 := Lib.hid o7.tail
            clear o5 o7 O4
            go_wp2_with fail
            go_roundw
            case rel => have := Hj.out; exact ⟨j + 1, by omega, by go_num, by rw [Hh2.out, Hh3.out]; exact O7.out⟩
            case measure => have := Hj.out; simp only [intOf]; omega
          · rw [decide_eq_false ht] at hbt
            have Hh2 := Lib.hid (show hits x (j + 1) = hits x j by rw [Hh.out, if_neg ht, List.append_nil])
            clear ht Hh
            go_wp2_with fail
            go_roundw
            case rel => have := Hj.out; exact ⟨j + 1, by omega, by go_num, by rw [Hh2.out]; exact O4.out⟩
            case measure => have := Hj.out; simp only [intOf]; omega
        · obtain rfl : j = 7 := by omega
          clear hj hj7
          go_wp2_with fail
          go_roundw
          case rel => have := Hlt.out; exact ⟨k + 1, by omega, by go_num, by rw [Htk.out]; exact Oj.out⟩
          case measure => have := Hlt.out; simp only [intOf]; omega
    · obtain rfl : k = F.length := by omega
      have ok := Ok.out
      rw [List.take_length] at ok
      have OK := Lib.hid ok
      clear hk hlt Ok ok
      go_wp2_with fail
      go_ret
      exact ⟨_, rfl, OK.out.pick [0] (by rfl)⟩
end Go.Proofs.YtikimmgileffgaaGreatDoor
end
/- From what a row lists of package-level variables to what the walks of layers 5, 6 read of them; the row's builder. -/
section
namespace Go.Proofs.YtikimmgileffgaaGreatDoor
open Go.RowKit Go.Shelf

theorem gSpN : Tryz.prog.globalNamed "strings.asciiSpace" = some 0 := by kernel_rfl
theorem gSpType : (Tryz.prog.globals[0]?).map (·.type) = some 259 := by kernel_rfl
/-- What is listed gives what is read. -/
theorem env_of_laid5 {W : World} {a b : String × DataW Unit} {r : List (String × DataW Unit)} 
    (h : laidMet Tryz.prog (a :: b :: ("strings.asciiSpace", Lib.tabData .u8 Lib.asciiSpaceTab) :: r) W)
    (hs : W.ShapedOpen Tryz.prog) : EnvB W := by
  have h2 := h.tail.tail
  exact ⟨⟨cell_of_shapedOpen_int (zero := #[.int .i64 0]) hs (by decide +kernel) (by kernel_rfl) rfl (by kernel_rfl) (by kernel_rfl) Tryz.underlying3⟩,
    Lib.tabIs_of_head gSpN gSpType Tryz.underlying259 Tryz.underlying5 (by kernel_rfl) (by kernel_rfl) h2⟩

/-- The row's builder: what is listed, and the world's shape. -/
theorem returns_laid_shaped {H : Type} {enc : TypeId × Value → H} {a : Assume} {C : Checked} {os : Os} {f : FuncId} {fn : Func} {s : ChangeSpec} {conds : List PathCond} {apart fresh handsOn again : Bool} {X : World → Array Value → Prop}
    (hX : ∀ (w w' : World) (args : Array Value), w.heap = w'.heap → X w args → X w' args)
    (own : ownKnob C.prog.godebug = none) (started : os.Started) (noInit : C.prog.inits.idxOf? f = none) (hfn : C.prog.funcs[f]? = some fn)
    (witness : ∃ (w : World) (tape : Tape) (i : Input), w.os = os ∧ (w.forCall tape i).Shaped C.prog ∧ i.vars = [] ∧ Input.okWide C.prog (w.forCall tape i) .any w.heap.size f i ∧
      ((s.pre enc C.prog fn conds apart (w.forCall tape i).memory i.args ∧ X (w.forCall tape i).memory i.args) ∧ sizedMet enc C.prog fn (OpenSpec.ofChange s) apart (w.forCall tape i).memory i.args) ∧ a.holds C.prog (lone (Frame.enter C.prog f i.args .normal) [] (w.forCall tape i)))
    (contract : ∀ (W : World) (base : Nat) (args : Array Value) (ds gs : List (DataW H)) (before : List MemPlace),
      (∀ (j : Nat) t v, fn.params[j]? = some t → args[j]? = some v → Value.okWide C.prog W .any base t v) →
      DataW.Whole enc C.prog fn.params.toList s.vars apart W args.toList ds gs before →
      X W args → W.ShapedOpen C.prog →
      Calls C.prog f args W fun e W' => ∃ v, e = .returned v ∧ s.post enc C.prog fn apart fresh handsOn again W args v W') :
    ReturnsInHanded a C os f .any (fun w args => (s.pre enc C.prog fn conds apart w args ∧ X w args) ∧ sizedMet enc C.prog fn (OpenSpec.ofChange s) apart w args) (s.post enc C.prog fn apart fresh handsOn again) := by
  refine returnsInHanded_of_calls own started noInit witness ?_
  intro w tape i _ hsh _ hok hpre hholds
  obtain ⟨_, _, _, fn', hfn', _, _, _, _, hval⟩ := hok
  have e : fn' = fn := Option.some.inj (hfn'.symm.trans hfn)
  subst e
  obtain ⟨⟨⟨ds, gs, before, hw, hc⟩, hx⟩, hz⟩ := hpre
  have hw' := DataW.Whole.of_heap (w' := w.forCall tape i) (by rfl) hw
  refine (contract (w.forCall tape i) w.heap.size i.args ds gs before hval hw' (hX _ _ _ (by rfl) hx) hsh).mono fun e W' ⟨v, he, hp⟩ => ?_
  subst he
  exact ChangeSpec.post_blind hp
end Go.Proofs.YtikimmgileffgaaGreatDoor
end
/- The rules of patterns (layer 7): whose keys a token is of. This text was printed by a small program. -/
section
namespace Go.Proofs.YtikimmgileffgaaGreatDoor
open Go.RowKit

def pairsV : Value := .agg #[.int .i64 0, .int .i64 0, .int .i64 0, .int .i64 0, .int .i64 0, .int .i64 0, .int .i64 1, .int .i64 1, .int .i64 1, .int .i64 2, .int .i64 2, .int .i64 1, .int .i64 2, .int .i64 2, .int .i64 0, .int .i64 0]
theorem pair_at3 (w : World) : (Instr.index 328 pairsV (.int .i64 3)).run Tryz.prog w = .ok (.agg #[.int .i64 1, .int .i64 1]) w := by kernel_rfl
theorem pair_at4 (w : World) : (Instr.index 328 pairsV (.int .i64 4)).run Tryz.prog w = .ok (.agg #[.int .i64 1, .int .i64 2]) w := by kernel_rfl
theorem pair_at5 (w : World) : (Instr.index 328 pairsV (.int .i64 5)).run Tryz.prog w = .ok (.agg #[.int .i64 2, .int .i64 1]) w := by kernel_rfl
set_option maxHeartbeats 800000 in
theorem pair_calls3 (w : World) : Calls Tryz.prog 202 #[.int .i64 3] w fun e w' => e = .returned (.agg #[.int .i64 1, .int .i64 1]) ∧ Below w.heap.size w w' := by
  have hi := pair_at3
  unfold pairsV at hi
  have O := Lib.hid ((Own.start w).alloc (.cells #[.int .i64 1, .int .i64 1] 74))
  go_enter Tryz.func202, Tryz.ntmps202
  go_wp2_with fail
  refine bodyPost_ret (v := .agg #[.int .i64 1, .int .i64 1]) (by simp [results, Tryz.results202, go_sem, cell_of_heap (O.out.blk (i := 0) rfl)]) rfl ⟨rfl, O.out.below⟩
set_option maxHeartbeats 800000 in
theorem pair_calls4 (w : World) : Calls Tryz.prog 202 #[.int .i64 4] w fun e w' => e = .returned (.agg #[.int .i64 1, .int .i64 2]) ∧ Below w.heap.size w w' := by
  have hi := pair_at4
  unfold pairsV at hi
  have O := Lib.hid ((Own.start w).alloc (.cells #[.int .i64 1, .int .i64 2] 74))
  go_enter Tryz.func202, Tryz.ntmps202
  go_wp2_with fail
  refine bodyPost_ret (v := .agg #[.int .i64 1, .int .i64 2]) (by simp [results, Tryz.results202, go_sem, cell_of_heap (O.out.blk (i := 0) rfl)]) rfl ⟨rfl, O.out.below⟩
set_option maxHeartbeats 800000 in
theorem pair_calls5 (w : World) : Calls Tryz.prog 202 #[.int .i64 5] w fun e w' => e = .returned (.agg #[.int .i64 2, .int .i64 1]) ∧ Below w.heap.size w w' := by
  have hi := pair_at5
  unfold pairsV at hi
  have O := Lib.hid ((Own.start w).alloc (.cells #[.int .i64 2, .int .i64 1] 74))
  go_enter Tryz.func202, Tryz.ntmps202
  go_wp2_with fail
  refine bodyPost_ret (v := .agg #[.int .i64 2, .int .i64 1]) (by simp [results, Tryz.results202, go_sem, cell_of_heap (O.out.blk (i := 0) rfl)]) rfl ⟨rfl, O.out.below⟩
end Go.Proofs.YtikimmgileffgaaGreatDoor
end
