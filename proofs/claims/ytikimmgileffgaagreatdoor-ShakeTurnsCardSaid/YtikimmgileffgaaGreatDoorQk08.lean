/- Packed by packn.py: Val3. -/
import Derived.Test.YtikimmgileffgaaGreatDoorQk07
namespace Go.Proofs.YtikimmgileffgaaGreatDoor
open Go.RowKit

/-- A state's sixteen truths. -/
def vObj (f : Nat → Bool) : Obj := .cells #[.bool (f 0), .bool (f 1), .bool (f 2), .bool (f 3), .bool (f 4), .bool (f 5), .bool (f 6), .bool (f 7), .bool (f 8), .bool (f 9), .bool (f 10), .bool (f 11), .bool (f 12), .bool (f 13), .bool (f 14), .bool (f 15)] 256 (0, 0)
def forbV (f : Nat → Bool) (who : Nat) : Int :=
  if (f (11 - who) && !f 9) || (f 12 && !f (10 + who)) then 5 else if f 13 && !f (3 * who + 1) then 6 else 0
theorem vcell {w : World} {b : Nat} {f : Nat → Bool} (h : w.heap[b]? = some (vObj f)) (i : Nat) (hi : i < 16) : w.cell? ⟨b, i, none⟩ = some (.bool (f i)) := by
  rw [cell_of_heap h]
  match i, hi with
  | 0, _ => rfl
  | 1, _ => rfl
  | 2, _ => rfl
  | 3, _ => rfl
  | 4, _ => rfl
  | 5, _ => rfl
  | 6, _ => rfl
  | 7, _ => rfl
  | 8, _ => rfl
  | 9, _ => rfl
  | 10, _ => rfl
  | 11, _ => rfl
  | 12, _ => rfl
  | 13, _ => rfl
  | 14, _ => rfl
  | 15, _ => rfl
  | n + 16, h => exact absurd h (by omega)
set_option warningAsError false in
set_option maxHeartbeats 3200000 in
set_option maxRecDepth 100000 in
theorem sealing_calls0 {w : World} {b : Nat} {f : Nat → Bool} (h : w.heap[b]? = some (vObj f)) : Calls Tryz.prog 186 #[.pointer (some ⟨b, 0, none⟩), .int .i64 0] w fun e w' => e = .returned (.int .i64 (forbV f 0)) ∧ Below w.heap.size w w' := by
  have HV := Lib.hid (show ∀ w', Below w.heap.size w w' → (w'.cell? ⟨b, 9, none⟩ = some (.bool (f 9)) ∧ w'.cell? ⟨b, 11, none⟩ = some (.bool (f 11)) ∧ w'.cell? ⟨b, 12, none⟩ = some (.bool (f 12)) ∧ w'.cell? ⟨b, 10, none⟩ = some (.bool (f 10)) ∧ w'.cell? ⟨b, 13, none⟩ = some (.bool (f 13)) ∧ w'.cell? ⟨b, 1, none⟩ = some (.bool (f 1))) from fun w' hb => by
    have h' := (hb.block b (lt_of_heap h)).trans h
    exact ⟨vcell h' 9 (by decide), vcell h' 11 (by decide), vcell h' 12 (by decide), vcell h' 10 (by decide), vcell h' 13 (by decide), vcell h' 1 (by decide)⟩)
  have Hs := Lib.hid (show forbV f 0 = if (f 11 && !f 9) || (f 12 && !f 10) then 5 else if f 13 && !f 1 then 6 else 0 from rfl)
  clear h
  generalize f 9 = b9 at *
  generalize f 11 = bm at *
  generalize f 12 = b12 at *
  generalize f 10 = bn at *
  generalize f 13 = b13 at *
  generalize f 1 = be at *
  obtain ⟨x9, xm, x12, xn, x13, xe⟩ := HV.out w (Below.refl _ _)
  have hbb : Below w.heap.size w w := Below.refl _ _
  go_enter Tryz.func186, Tryz.ntmps186
  go_upto_region 1 with fail
  go_cut [5] (fun v wx => v = .bool (bm && !b9) ∧ Below w.heap.size w wx)
  case first =>
    cases bm
    · cases b9
      · first
          | (go_region_held3 (fun w' => w'.cell? ⟨b, 9, none⟩ = some (.bool false) ∧ w'.cell? ⟨b, 11, none⟩ = some (.bool false))
              (first | exact ⟨(HV.out _ (by repeat (first | with_reducible assumption | with_reducible refine Below.drew ?_ | with_reducible refine belowAlloc ?_ _))).1, (HV.out _ (by repeat (first | with_reducible assumption | with_reducible refine Below.drew ?_ | with_reducible refine belowAlloc ?_ _))).2.1⟩)
              (first
                | (go_at_call 203; with_reducible refine (mine_calls021 _).mono ?_; rintro e wa ⟨rfl, hba⟩; have hxa : Below w.heap.size w wa := below_call (by repeat (first | with_reducible assumption | with_reducible refine Below.drew ?_ | with_reducible refine belowAlloc ?_ _)) hba)))
          | fail
        all_goals go_wp2_with fail
        all_goals go_meet
        all_goals exact ⟨rfl, (by repeat (first | with_reducible assumption | with_reducible refine Below.drew ?_ | with_reducible refine belowAlloc ?_ _))⟩
      · first
          | (go_region_held3 (fun w' => w'.cell? ⟨b, 9, none⟩ = some (.bool true) ∧ w'.cell? ⟨b, 11, none⟩ = some (.bool false))
              (first | exact ⟨(HV.out _ (by repeat (first | with_reducible assumption | with_reducible refine Below.drew ?_ | with_reducible refine belowAlloc ?_ _))).1, (HV.out _ (by repeat (first | with_reducible assumption | with_reducible refine Below.drew ?_ | with_reducible refine belowAlloc ?_ _))).2.1⟩)
              (first
                | (go_at_call 203; with_reducible refine (mine_calls021 _).mono ?_; rintro e wa ⟨rfl, hba⟩; have hxa : Below w.heap.size w wa := below_call (by repeat (first | with_reducible assumption | with_reducible refine Below.drew ?_ | with_reducible refine belowAlloc ?_ _)) hba)))
          | fail
        all_goals go_wp2_with fail
        all_goals go_meet
        all_goals exact ⟨rfl, (by repeat (first | with_reducible assumption | with_reducible refine Below.drew ?_ | with_reducible refine belowAlloc ?_ _))⟩
    · cases b9
      · first
          | (go_region_held3 (fun w' => w'.cell? ⟨b, 9, none⟩ = some (.bool false) ∧ w'.cell? ⟨b, 11, none⟩ = some (.bool true))
              (first | exact ⟨(HV.out _ (by repeat (first | with_reducible assumption | with_reducible refine Below.drew ?_ | with_reducible refine belowAlloc ?_ _))).1, (HV.out _ (by repeat (first | with_reducible assumption | with_reducible refine Below.drew ?_ | with_reducible refine belowAlloc ?_ _))).2.1⟩)
              (first
                | (go_at_call 203; with_reducible refine (mine_calls021 _).mono ?_; rintro e wa ⟨rfl, hba⟩; have hxa : Below w.heap.size w wa := below_call (by repeat (first | with_reducible assumption | with_reducible refine Below.drew ?_ | with_reducible refine belowAlloc ?_ _)) hba)))
          | fail
        all_goals go_wp2_with fail
        all_goals go_meet
        all_goals exact ⟨rfl, (by repeat (first | with_reducible assumption | with_reducible refine Below.drew ?_ | with_reducible refine belowAlloc ?_ _))⟩
      · first
          | (go_region_held3 (fun w' => w'.cell? ⟨b, 9, none⟩ = some (.bool true) ∧ w'.cell? ⟨b, 11, none⟩ = some (.bool true))
              (first | exact ⟨(HV.out _ (by repeat (first | with_reducible assumption | with_reducible refine Below.drew ?_ | with_reducible refine belowAlloc ?_ _))).1, (HV.out _ (by repeat (first | with_reducible assumption | with_reducible refine Below.drew ?_ | with_reducible refine belowAlloc ?_ _))).2.1⟩)
              (first
                | (go_at_call 203; with_reducible refine (mine_calls021 _).mono ?_; rintro e wa ⟨rfl, hba⟩; have hxa : Below w.heap.size w wa := below_call (by repeat (first | with_reducible assumption | with_reducible refine Below.drew ?_ | with_reducible refine belowAlloc ?_ _)) hba)))
          | fail
        all_goals go_wp2_with fail
        all_goals go_meet
        all_goals exact ⟨rfl, (by repeat (first | with_reducible assumption | with_reducible refine Below.drew ?_ | with_reducible refine belowAlloc ?_ _))⟩
  case rest =>
    obtain ⟨rfl, hbx⟩ := hcut
    cases hc1 : (bm && !b9) with
    | true =>
      go_wp2_with fail
      go_ret
      exact ⟨by rw [Hs.out, hc1]; rfl, hbx⟩
    | false =>
    have Hs := Lib.hid (show forbV f 0 = if (b12 && !bn) then 5 else if b13 && !be then 6 else 0 by rw [Hs.out, hc1]; rfl)
    clear x9 xm x12 xn x13 xe hbb hc1
    go_upto_region 2 with fail
    go_cut [5] (fun v wy => v = .bool (b12 && !bn) ∧ Below w.heap.size w wy)
    case first =>
      cases b12
      · cases bn
        · first
            | (go_region_held3 (fun w' => w'.cell? ⟨b, 10, none⟩ = some (.bool false) ∧ w'.cell? ⟨b, 12, none⟩ = some (.bool false))
                (first | exact ⟨(HV.out _ (by repeat (first | with_reducible assumption | with_reducible refine Below.drew ?_ | with_reducible refine belowAlloc ?_ _))).2.2.2.1, (HV.out _ (by repeat (first | with_reducible assumption | with_reducible refine Below.drew ?_ | with_reducible refine belowAlloc ?_ _))).2.2.1⟩)
                (first
                  | (go_at_call 203; with_reducible refine (mine_calls012 _).mono ?_; rintro e wa ⟨rfl, hba⟩; have hxa : Below w.heap.size w wa := below_call (by repeat (first | with_reducible assumption | with_reducible refine Below.drew ?_ | with_reducible refine belowAlloc ?_ _)) hba)))
            | fail
          all_goals go_wp2_with fail
          all_goals go_meet
          all_goals exact ⟨rfl, (by repeat (first | with_reducible assumption | with_reducible refine Below.drew ?_ | with_reducible refine belowAlloc ?_ _))⟩
        · first
            | (go_region_held3 (fun w' => w'.cell? ⟨b, 10, none⟩ = some (.bool true) ∧ w'.cell? ⟨b, 12, none⟩ = some (.bool false))
                (first | exact ⟨(HV.out _ (by repeat (first | with_reducible assumption | with_reducible refine Below.drew ?_ | with_reducible refine belowAlloc ?_ _))).2.2.2.1, (HV.out _ (by repeat (first | with_reducible assumption | with_reducible refine Below.drew ?_ | with_reducible refine belowAlloc ?_ _))).2.2.1⟩)
                (first
                  | (go_at_call 203; with_reducible refine (mine_calls012 _).mono ?_; rintro e wa ⟨rfl, hba⟩; have hxa : Below w.heap.size w wa := below_call (by repeat (first | with_reducible assumption | with_reducible refine Below.drew ?_ | with_reducible refine belowAlloc ?_ _)) hba)))
            | fail
          all_goals go_wp2_with fail
          all_goals go_meet
          all_goals exact ⟨rfl, (by repeat (first | with_reducible assumption | with_reducible refine Below.drew ?_ | with_reducible refine belowAlloc ?_ _))⟩
      · cases bn
        · first
            | (go_region_held3 (fun w' => w'.cell? ⟨b, 10, none⟩ = some (.bool false) ∧ w'.cell? ⟨b, 12, none⟩ = some (.bool true))
                (first | exact ⟨(HV.out _ (by repeat (first | with_reducible assumption | with_reducible refine Below.drew ?_ | with_reducible refine belowAlloc ?_ _))).2.2.2.1, (HV.out _ (by repeat (first | with_reducible assumption | with_reducible refine Below.drew ?_ | with_reducible refine belowAlloc ?_ _))).2.2.1⟩)
                (first
                  | (go_at_call 203; with_reducible refine (mine_calls012 _).mono ?_; rintro e wa ⟨rfl, hba⟩; have hxa : Below w.heap.size w wa := below_call (by repeat (first | with_reducible assumption | with_reducible refine Below.drew ?_ | with_reducible refine belowAlloc ?_ _)) hba)))
            | fail
          all_goals go_wp2_with fail
          all_goals go_meet
          all_goals exact ⟨rfl, (by repeat (first | with_reducible assumption | with_reducible refine Below.drew ?_ | with_reducible refine belowAlloc ?_ _))⟩
        · first
            | (go_region_held3 (fun w' => w'.cell? ⟨b, 10, none⟩ = some (.bool true) ∧ w'.cell? ⟨b, 12, none⟩ = some (.bool true))
                (first | exact ⟨(HV.out _ (by repeat (first | with_reducible assumption | with_reducible refine Below.drew ?_ | with_reducible refine belowAlloc ?_ _))).2.2.2.1, (HV.out _ (by repeat (first | with_reducible assumption | with_reducible refine Below.drew ?_ | with_reducible refine belowAlloc ?_ _))).2.2.1⟩)
                (first
                  | (go_at_call 203; with_reducible refine (mine_calls012 _).mono ?_; rintro e wa ⟨rfl, hba⟩; have hxa : Below w.heap.size w wa := below_call (by repeat (first | with_reducible assumption | with_reducible refine Below.drew ?_ | with_reducible refine belowAlloc ?_ _)) hba)))
            | fail
          all_goals go_wp2_with fail
          all_goals go_meet
          all_goals exact ⟨rfl, (by repeat (first | with_reducible assumption | with_reducible refine Below.drew ?_ | with_reducible refine belowAlloc ?_ _))⟩

    case rest =>
      obtain ⟨rfl, hby⟩ := hcut
      cases hc2 : (b12 && !bn) with
      | true =>
        go_wp2_with fail
        go_ret
        exact ⟨by rw [Hs.out, hc2]; rfl, hby⟩
      | false =>
      have Hs := Lib.hid (show forbV f 0 = if b13 && !be then 6 else 0 by rw [Hs.out, hc2]; rfl)
      clear hc2 hbx
      go_upto_region 4 with fail
      go_cut [36] (fun v wy => v = .bool (b13 && !be) ∧ Below w.heap.size w wy)
      case first =>
        obtain ⟨-, -, -, -, x13, xe⟩ := HV.out _ hby
        cases b13 <;> cases be
        all_goals go_wp2_with fail
        all_goals go_meet
        all_goals exact ⟨rfl, hby⟩
      case rest =>
        obtain ⟨rfl, hbz⟩ := hcut
        cases hc3 : (b13 && !be) with
        | true =>
          go_wp2_with fail
          go_ret
          exact ⟨by rw [Hs.out, hc3]; rfl, hbz⟩
        | false =>
          go_wp2_with fail
          go_ret
          exact ⟨by rw [Hs.out, hc3]; rfl, hbz⟩
set_option warningAsError false in
set_option maxHeartbeats 3200000 in
set_option maxRecDepth 100000 in
theorem sealing_calls1 {w : World} {b : Nat} {f : Nat → Bool} (h : w.heap[b]? = some (vObj f)) : Calls Tryz.prog 186 #[.pointer (some ⟨b, 0, none⟩), .int .i64 1] w fun e w' => e = .returned (.int .i64 (forbV f 1)) ∧ Below w.heap.size w w' := by
  have HV := Lib.hid (show ∀ w', Below w.heap.size w w' → (w'.cell? ⟨b, 9, none⟩ = some (.bool (f 9)) ∧ w'.cell? ⟨b, 10, none⟩ = some (.bool (f 10)) ∧ w'.cell? ⟨b, 12, none⟩ = some (.bool (f 12)) ∧ w'.cell? ⟨b, 11, none⟩ = some (.bool (f 11)) ∧ w'.cell? ⟨b, 13, none⟩ = some (.bool (f 13)) ∧ w'.cell? ⟨b, 4, none⟩ = some (.bool (f 4))) from fun w' hb => by
    have h' := (hb.block b (lt_of_heap h)).trans h
    exact ⟨vcell h' 9 (by decide), vcell h' 10 (by decide), vcell h' 12 (by decide), vcell h' 11 (by decide), vcell h' 13 (by decide), vcell h' 4 (by decide)⟩)
  have Hs := Lib.hid (show forbV f 1 = if (f 10 && !f 9) || (f 12 && !f 11) then 5 else if f 13 && !f 4 then 6 else 0 from rfl)
  clear h
  generalize f 9 = b9 at *
  generalize f 10 = bm at *
  generalize f 12 = b12 at *
  generalize f 11 = bn at *
  generalize f 13 = b13 at *
  generalize f 4 = be at *
  obtain ⟨x9, xm, x12, xn, x13, xe⟩ := HV.out w (Below.refl _ _)
  have hbb : Below w.heap.size w w := Below.refl _ _
  go_enter Tryz.func186, Tryz.ntmps186
  go_upto_region 1 with fail
  go_cut [5] (fun v wx => v = .bool (bm && !b9) ∧ Below w.heap.size w wx)
  case first =>
    cases bm
    · cases b9
      · first
          | (go_region_held3 (fun w' => w'.cell? ⟨b, 9, none⟩ = some (.bool false) ∧ w'.cell? ⟨b, 10, none⟩ = some (.bool false))
              (first | exact ⟨(HV.out _ (by repeat (first | with_reducible assumption | with_reducible refine Below.drew ?_ | with_reducible refine belowAlloc ?_ _))).1, (HV.out _ (by repeat (first | with_reducible assumption | with_reducible refine Below.drew ?_ | with_reducible refine belowAlloc ?_ _))).2.1⟩)
              (first
                | (go_at_call 203; with_reducible refine (mine_calls121 _).mono ?_; rintro e wa ⟨rfl, hba⟩; have hxa : Below w.heap.size w wa := below_call (by repeat (first | with_reducible assumption | with_reducible refine Below.drew ?_ | with_reducible refine belowAlloc ?_ _)) hba)))
          | fail
        all_goals go_wp2_with fail
        all_goals go_meet
        all_goals exact ⟨rfl, (by repeat (first | with_reducible assumption | with_reducible refine Below.drew ?_ | with_reducible refine belowAlloc ?_ _))⟩
      · first
          | (go_region_held3 (fun w' => w'.cell? ⟨b, 9, none⟩ = some (.bool true) ∧ w'.cell? ⟨b, 10, none⟩ = some (.bool false))
              (first | exact ⟨(HV.out _ (by repeat (first | with_reducible assumption | with_reducible refine Below.drew ?_ | with_reducible refine belowAlloc ?_ _))).1, (HV.out _ (by repeat (first | with_reducible assumption | with_reducible refine Below.drew ?_ | with_reducible refine belowAlloc ?_ _))).2.1⟩)
              (first
                | (go_at_call 203; with_reducible refine (mine_calls121 _).mono ?_; rintro e wa ⟨rfl, hba⟩; have hxa : Below w.heap.size w wa := below_call (by repeat (first | with_reducible assumption | with_reducible refine Below.drew ?_ | with_reducible refine belowAlloc ?_ _)) hba)))
          | fail
        all_goals go_wp2_with fail
        all_goals go_meet
        all_goals exact ⟨rfl, (by repeat (first | with_reducible assumption | with_reducible refine Below.drew ?_ | with_reducible refine belowAlloc ?_ _))⟩
    · cases b9
      · first
          | (go_region_held3 (fun w' => w'.cell? ⟨b, 9, none⟩ = some (.bool false) ∧ w'.cell? ⟨b, 10, none⟩ = some (.bool true))
              (first | exact ⟨(HV.out _ (by repeat (first | with_reducible assumption | with_reducible refine Below.drew ?_ | with_reducible refine belowAlloc ?_ _))).1, (HV.out _ (by repeat (first | with_reducible assumption | with_reducible refine Below.drew ?_ | with_reducible refine belowAlloc ?_ _))).2.1⟩)
              (first
                | (go_at_call 203; with_reducible refine (mine_calls121 _).mono ?_; rintro e wa ⟨rfl, hba⟩; have hxa : Below w.heap.size w wa := below_call (by repeat (first | with_reducible assumption | with_reducible refine Below.drew ?_ | with_reducible refine belowAlloc ?_ _)) hba)))
          | fail
        all_goals go_wp2_with fail
        all_goals go_meet
        all_goals exact ⟨rfl, (by repeat (first | with_reducible assumption | with_reducible refine Below.drew ?_ | with_reducible refine belowAlloc ?_ _))⟩
      · first
          | (go_region_held3 (fun w' => w'.cell? ⟨b, 9, none⟩ = some (.bool true) ∧ w'.cell? ⟨b, 10, none⟩ = some (.bool true))
              (first | exact ⟨(HV.out _ (by repeat (first | with_reducible assumption | with_reducible refine Below.drew ?_ | with_reducible refine belowAlloc ?_ _))).1, (HV.out _ (by repeat (first | with_reducible assumption | with_reducible refine Below.drew ?_ | with_reducible refine belowAlloc ?_ _))).2.1⟩)
              (first
                | (go_at_call 203; with_reducible refine (mine_calls121 _).mono ?_; rintro e wa ⟨rfl, hba⟩; have hxa : Below w.heap.size w wa := below_call (by repeat (first | with_reducible assumption | with_reducible refine Below.drew ?_ | with_reducible refine belowAlloc ?_ _)) hba)))
          | fail
        all_goals go_wp2_with fail
        all_goals go_meet
        all_goals exact ⟨rfl, (by repeat (first | with_reducible assumption | with_reducible refine Below.drew ?_ | with_reducible refine belowAlloc ?_ _))⟩
  case rest =>
    obtain ⟨rfl, hbx⟩ := hcut
    cases hc1 : (bm && !b9) with
    | true =>
      go_wp2_with fail
      go_ret
      exact ⟨by rw [Hs.out, hc1]; rfl, hbx⟩
    | false =>
    have Hs := Lib.hid (show forbV f 1 = if (b12 && !bn) then 5 else if b13 && !be then 6 else 0 by rw [Hs.out, hc1]; rfl)
    clear x9 xm x12 xn x13 xe hbb hc1
    go_upto_region 2 with fail
    go_cut [5] (fun v wy => v = .bool (b12 && !bn) ∧ Below w.heap.size w wy)
    case first =>
      cases b12
      · cases bn
        · first
            | (go_region_held3 (fun w' => w'.cell? ⟨b, 11, none⟩ = some (.bool false) ∧ w'.cell? ⟨b, 12, none⟩ = some (.bool false))
                (first | exact ⟨(HV.out _ (by repeat (first | with_reducible assumption | with_reducible refine Below.drew ?_ | with_reducible refine belowAlloc ?_ _))).2.2.2.1, (HV.out _ (by repeat (first | with_reducible assumption | with_reducible refine Below.drew ?_ | with_reducible refine belowAlloc ?_ _))).2.2.1⟩)
                (first
                  | (go_at_call 203; with_reducible refine (mine_calls112 _).mono ?_; rintro e wa ⟨rfl, hba⟩; have hxa : Below w.heap.size w wa := below_call (by repeat (first | with_reducible assumption | with_reducible refine Below.drew ?_ | with_reducible refine belowAlloc ?_ _)) hba)))
            | fail
          all_goals go_wp2_with fail
          all_goals go_meet
          all_goals exact ⟨rfl, (by repeat (first | with_reducible assumption | with_reducible refine Below.drew ?_ | with_reducible refine belowAlloc ?_ _))⟩
        · first
            | (go_region_held3 (fun w' => w'.cell? ⟨b, 11, none⟩ = some (.bool true) ∧ w'.cell? ⟨b, 12, none⟩ = some (.bool false))
                (first | exact ⟨(HV.out _ (by repeat (first | with_reducible assumption | with_reducible refine Below.drew ?_ | with_reducible refine belowAlloc ?_ _))).2.2.2.1, (HV.out _ (by repeat (first | with_reducible assumption | with_reducible refine Below.drew ?_ | with_reducible refine belowAlloc ?_ _))).2.2.1⟩)
                (first
                  | (go_at_call 203; with_reducible refine (mine_calls112 _).mono ?_; rintro e wa ⟨rfl, hba⟩; have hxa : Below w.heap.size w wa := below_call (by repeat (first | with_reducible assumption | with_reducible refine Below.drew ?_ | with_reducible refine belowAlloc ?_ _)) hba)))
            | fail
          all_goals go_wp2_with fail
          all_goals go_meet
          all_goals exact ⟨rfl, (by repeat (first | with_reducible assumption | with_reducible refine Below.drew ?_ | with_reducible refine belowAlloc ?_ _))⟩
      · cases bn
        · first
            | (go_region_held3 (fun w' => w'.cell? ⟨b, 11, none⟩ = some (.bool false) ∧ w'.cell? ⟨b, 12, none⟩ = some (.bool true))
                (first | exact ⟨(HV.out _ (by repeat (first | with_reducible assumption | with_reducible refine Below.drew ?_ | with_reducible refine belowAlloc ?_ _))).2.2.2.1, (HV.out _ (by repeat (first | with_reducible assumption | with_reducible refine Below.drew ?_ | with_reducible refine belowAlloc ?_ _))).2.2.1⟩)
                (first
                  | (go_at_call 203; with_reducible refine (mine_calls112 _).mono ?_; rintro e wa ⟨rfl, hba⟩; have hxa : Below w.heap.size w wa := below_call (by repeat (first | with_reducible assumption | with_reducible refine Below.drew ?_ | with_reducible refine belowAlloc ?_ _)) hba)))
            | fail
          all_goals go_wp2_with fail
          all_goals go_meet
          all_goals exact ⟨rfl, (by repeat (first | with_reducible assumption | with_reducible refine Below.drew ?_ | with_reducible refine belowAlloc ?_ _))⟩
        · first
            | (go_region_held3 (fun w' => w'.cell? ⟨b, 11, none⟩ = some (.bool true) ∧ w'.cell? ⟨b, 12, none⟩ = some (.bool true))
                (first | exact ⟨(HV.out _ (by repeat (first | with_reducible assumption | with_reducible refine Below.drew ?_ | with_reducible refine belowAlloc ?_ _))).2.2.2.1, (HV.out _ (by repeat (first | with_reducible assumption | with_reducible refine Below.drew ?_ | with_reducible refine belowAlloc ?_ _))).2.2.1⟩)
                (first
                  | (go_at_call 203; with_reducible refine (mine_calls112 _).mono ?_; rintro e wa ⟨rfl, hba⟩; have hxa : Below w.heap.size w wa := below_call (by repeat (first | with_reducible assumption | with_reducible refine Below.drew ?_ | with_reducible refine belowAlloc ?_ _)) hba)))
            | fail
          all_goals go_wp2_with fail
          all_goals go_meet
          all_goals exact ⟨rfl, (by repeat (first | with_reducible assumption | with_reducible refine Below.drew ?_ | with_reducible refine belowAlloc ?_ _))⟩

    case rest =>
      obtain ⟨rfl, hby⟩ := hcut
      cases hc2 : (b12 && !bn) with
      | true =>
        go_wp2_with fail
        go_ret
        exact ⟨by rw [Hs.out, hc2]; rfl, hby⟩
      | false =>
      have Hs := Lib.hid (show forbV f 1 = if b13 && !be then 6 else 0 by rw [Hs.out, hc2]; rfl)
      clear hc2 hbx
      go_upto_region 4 with fail
      go_cut [36] (fun v wy => v = .bool (b13 && !be) ∧ Below w.heap.size w wy)
      case first =>
        obtain ⟨-, -, -, -, x13, xe⟩ := HV.out _ hby
        cases b13 <;> cases be
        all_goals go_wp2_with fail
        all_goals go_meet
        all_goals exact ⟨rfl, hby⟩
      case rest =>
        obtain ⟨rfl, hbz⟩ := hcut
        cases hc3 : (b13 && !be) with
        | true =>
          go_wp2_with fail
          go_ret
          exact ⟨by rw [Hs.out, hc3]; rfl, hbz⟩
        | false =>
          go_wp2_with fail
          go_ret
          exact ⟨by rw [Hs.out, hc3]; rfl, hbz⟩
end Go.Proofs.YtikimmgileffgaaGreatDoor
