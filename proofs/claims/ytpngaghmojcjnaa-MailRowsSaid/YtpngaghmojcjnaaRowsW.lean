/- The walk of MailRows: for every row of rows of ints it answers true. -/
import Derived.Test.YtpngaghmojcjnaaAwake
import Derived.Test.YtpngaghmojcjnaaSame
import Derived.Test.YtpngaghmojcjnaaOpen
namespace Go.Proofs.Ytpngaghmojcjnaa
open Go.RowKit

theorem room64' : roomOf 64 = 64 := by decide
/-- The rows as values. -/
def rowsV (l : List RowV) : List Value := l.map RowV.val
theorem rowsV_length (l : List RowV) : (rowsV l).length = l.length := List.length_map ..
theorem rowsV_take (l : List RowV) {k : Nat} (h : k < l.length) : rowsV (l.take (k + 1)) = rowsV (l.take k) ++ [l[k].val] := by
  unfold rowsV; rw [List.take_succ_eq_append_getElem h, List.map_append]; rfl
theorem rowsV_drop (l : List RowV) {k : Nat} (h : k < l.length) : rowsV (l.drop k) = l[k].val :: rowsV (l.drop (k + 1)) := by
  unfold rowsV; rw [List.drop_eq_getElem_cons h, List.map_cons]
theorem rowsV_at {w : World} {A : Option Addr} {l : List RowV} (h : Holds w A (rowsV l)) {k : Nat} (hk : k < l.length) : ∃ b o, A = some ⟨b, o, none⟩ ∧ w.cell? ⟨b, o + k, none⟩ = some l[k].val := by
  rcases h with h | ⟨b, o, rfl, h⟩
  · simp [rowsV] at h; subst h; simp at hk
  · exact ⟨b, o, rfl, h k _ (by simp [rowsV, hk])⟩

set_option maxHeartbeats 3200000 in
set_option maxRecDepth 100000 in
theorem rows_walk (A : Option Addr) (c : Nat) (xs : List RowV) (W : World) (hx : Holds W A (rowsV xs)) (hm : xs.length ≤ maxLen) (hr : ∀ x ∈ xs, Holds W x.a (ints x.xs) ∧ x.xs.length ≤ 9223372036854775807) :
    Calls Try.prog 3 #[.slice A xs.length c] W fun e w' => e = .returned (.bool true) ∧ Below W.heap.size W w' := by
  unfold maxLen at hm
  by_cases h60 : 60 < xs.length
  · have h60' : decide ((60 : Int) < (xs.length : Int)) = true := decide_eq_true (by omega)
    clear hr
    go_enter Try.func3, Try.ntmps3
    go_wp2_with fail
    refine (awake _).mono ?_
    rintro e w5 ⟨rfl, hu5⟩
    go_wp2_with fail
    go_ret
    exact ⟨rfl, hu5⟩
  · have h60' : decide ((60 : Int) < (xs.length : Int)) = false := decide_eq_false (by omega)
    have h61 : xs.length ≤ 60 := by omega
    have Hr := Lib.hid hr
    clear h60 hm hr
    go_enter Try.func3, Try.ntmps3
    go_wp2_with fail
    refine (new_rows _ _).mono ?_
    rintro e w1 ⟨rfl, hb1, hu1, hs1⟩
    rw [room64'] at hb1
    clear hs1 h60'
    generalize W.heap.size + 1 = b at *
    go_wp2_with fail
    go_loopw [21] (fun i wr => ∃ k : Nat, k ≤ xs.length ∧ i = .int .i64 k ∧ BoxIs 55 wr b W.heap.size 64 (rowsV (xs.take k)) ∧ Below W.heap.size W wr) (fun i _ => xs.length - (intOf i).toNat)
    case atStart => exact ⟨0, Nat.zero_le _, rfl, by simpa [rowsV] using hb1, hu1⟩
    case round =>
      obtain ⟨k, hk, rfl, hbx, hu⟩ := hrel
      by_cases hk2 : k < xs.length
      · obtain ⟨b', o', hA, hc⟩ := rowsV_at (hx.below hu) hk2
        have Ht := Lib.hid (rowsV_take xs hk2)
        subst hA
        generalize xs[k].val = p at *
        go_wp2_with fail
        refine (put_rows_room _ hbx (by rw [rowsV_length, List.length_take]; omega)).mono ?_
        rintro e w2 ⟨rfl, hb2, ht2⟩
        rw [← Ht.out] at hb2
        go_wp2_with fail
        go_roundw
        case rel => exact ⟨k + 1, by omega, by go_num, hb2, hu.trans (ht2.below (Nat.le_refl _))⟩
        case measure => simp [intOf]; omega
      · have hkl : k = xs.length := by omega
        subst hkl
        rw [List.take_length] at hbx
        clear hb1 hu1 hk
        go_wp2_with fail
        obtain ⟨wo2, hwo2⟩ : ∃ wo : World, wo = wr := ⟨_, rfl⟩
        subst hwo2
        go_loopw [32] (fun i wr => ∃ k : Nat, k ≤ xs.length ∧ i = .int .i64 k ∧ BoxIs 55 wr b W.heap.size 64 (rowsV (xs.drop k)) ∧ Below W.heap.size W wr) (fun i _ => xs.length - (intOf i).toNat)
        case atStart => exact ⟨0, Nat.zero_le _, rfl, hbx, hu⟩
        case round =>
          clear hbx hu
          obtain ⟨k, hk, rfl, hbx, hu⟩ := hrel
          by_cases hk2 : k < xs.length
          · obtain ⟨b', o', hA, hc⟩ := rowsV_at (hx.below hu) hk2
            rw [rowsV_drop xs hk2] at hbx
            subst hA
            obtain ⟨hh, hl⟩ := Hr.out _ (List.getElem_mem hk2)
            generalize xs[k] = p at *
            obtain ⟨pa, px, pc⟩ := p
            simp only [RowV.val] at hc hbx hl hh

            go_wp2_with fail
            refine (take_rows_some hbx).mono ?_
            rintro e w2 ⟨rfl, hb2, ht2⟩
            have hu3 := hu.trans (ht2.below (B := W.heap.size) (Nat.le_refl _))
            have hh3 : Holds w2 pa (ints px) := hh.below hu3
            go_wp2_with fail
            refine (same_any _ _ hh3 hh3 hl).mono ?_
            rintro e w4 ⟨rfl, m, rfl⟩
            rw [decide_eq_true (rfl : px = px)]
            go_wp2_with fail
            go_roundw
            case rel => exact ⟨k + 1, by omega, by go_num, hb2.drewN _, hu3.trans (Upd.below (S := None) ((Upd.refl _ _).drewN _) hu3.size (fun _ _ h => h))⟩
            case measure => simp [intOf]; omega
          · have hkl : k = xs.length := by omega
            subst hkl
            rw [List.drop_length] at hbx
            clear hk
            go_wp2_with fail
            refine (take_rows_none hbx).mono ?_
            rintro e w2 ⟨rfl, hb2, ht2⟩
            have hu3 := hu.trans (ht2.below (B := W.heap.size) (Nat.le_refl _))
            go_wp2_with fail
            refine (awake _).mono ?_
            rintro e w5 ⟨rfl, hu5⟩
            go_wp2_with fail
            go_ret
            exact ⟨rfl, hu3.trans (hu5.mono hu3.size)⟩
end Go.Proofs.Ytpngaghmojcjnaa
