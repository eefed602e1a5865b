/- The walk of MailKeeps: for every row of ints and every number of looks it answers true. -/
import Derived.Test.YtpngaghmojcjnaaAwake
import Derived.Test.YtpngaghmojcjnaaSame
namespace Go.Proofs.Ytpngaghmojcjnaa
open Go.RowKit

theorem room64 : roomOf 64 = 64 := by decide
theorem ints_take (l : List Int) {k : Nat} (h : k < l.length) : ints (l.take (k + 1)) = ints (l.take k) ++ [.int .i64 l[k]] := by
  unfold ints; rw [List.take_succ_eq_append_getElem h, List.map_append]; rfl
theorem ints_drop (l : List Int) {k : Nat} (h : k < l.length) : ints (l.drop k) = .int .i64 l[k] :: ints (l.drop (k + 1)) := by
  unfold ints; rw [List.drop_eq_getElem_cons h, List.map_cons]
theorem ints_mem {l : List Int} : ∀ u ∈ ints l, ∃ n, u = .int .i64 n := fun u hu => by
  obtain ⟨n, _, rfl⟩ := List.mem_map.1 hu; exact ⟨n, rfl⟩

set_option maxHeartbeats 3200000 in
set_option maxRecDepth 100000 in
theorem keeps_walk (A : Option Addr) (c : Nat) (xs : List Int) (q : Int) (W : World) (hx : Holds W A (ints xs)) (hm : xs.length ≤ maxLen) (hq0 : 0 ≤ q) (hq : q ≤ 255) :
    Calls Try.prog 5 #[.slice A xs.length c, .int .u8 q] W fun e w' => e = .returned (.bool true) ∧ Below W.heap.size W w' := by
  unfold maxLen at hm
  by_cases h60 : 60 < xs.length
  · have h60' : decide ((60 : Int) < (xs.length : Int)) = true := decide_eq_true (by omega)
    go_enter Try.func5, Try.ntmps5
    go_wp2_with fail
    refine (awake _).mono ?_
    rintro e w5 ⟨rfl, hu5⟩
    go_wp2_with fail
    go_ret
    exact ⟨rfl, hu5⟩
  · have h60' : decide ((60 : Int) < (xs.length : Int)) = false := decide_eq_false (by omega)
    have h61 : xs.length ≤ 60 := by omega
    clear h60 hm
    go_enter Try.func5, Try.ntmps5
    go_wp2_with fail
    refine (new_int _ _).mono ?_
    rintro e w1 ⟨rfl, hb1, hu1, hs1⟩
    rw [room64] at hb1
    clear hs1 h60'
    generalize W.heap.size + 1 = b at *
    go_wp2_with fail
    go_loopw [21] (fun i wr => ∃ k : Nat, k ≤ xs.length ∧ i = .int .i64 k ∧ BoxIs 63 wr b W.heap.size 64 (ints (xs.take k)) ∧ Below W.heap.size W wr) (fun i _ => xs.length - (intOf i).toNat)
    case atStart => exact ⟨0, Nat.zero_le _, rfl, by simpa [ints] using hb1, hu1⟩
    case round =>
      obtain ⟨k, hk, rfl, hbx, hu⟩ := hrel
      by_cases hk2 : k < xs.length
      · obtain ⟨b', o', hA, hc⟩ := (hx.below hu).at hk2
        have Ht := Lib.hid (ints_take xs hk2)
        subst hA
        generalize xs[k] = p at *
        go_wp2_with fail
        refine (put_int_room _ hbx (by rw [ints_length, List.length_take]; omega)).mono ?_
        rintro e w2 ⟨rfl, hb2, ht2⟩
        rw [← Ht.out] at hb2
        go_wp2_with fail
        go_roundw
        case rel => exact ⟨k + 1, by omega, by go_num, hb2, hu.trans (ht2.below (Nat.le_refl _))⟩
        case measure => simp [intOf]; omega
      · have hkl : k = xs.length := by omega
        subst hkl
        rw [List.take_length] at hbx
        clear hb1 hu1 hk2 hk
        have hq1 : 0 ≤ q % 5 := by omega
        have hq2 : q % 5 ≤ 4 := by omega
        go_wp2_with fail
        generalize q % 5 = n at *
        obtain ⟨wo, hwo⟩ : ∃ wo : World, wo = wr := ⟨_, rfl⟩
        subst hwo
        go_loopw [32] (fun i wr => ∃ k : Nat, (k : Int) ≤ n ∧ i = .int .i64 k ∧ BoxIs 63 wr b W.heap.size 64 (ints xs) ∧ Below W.heap.size W wr) (fun i _ => (n - intOf i).toNat)
        case atStart => exact ⟨0, by omega, rfl, hbx, hu⟩
        case round =>
          clear hbx hu
          obtain ⟨k, hk, rfl, hbx, hu⟩ := hrel
          by_cases hk2 : (k : Int) < n
          · go_wp2_with fail
            refine (all_int hbx (by rw [ints_length]; omega) (by rw [ints_length]; omega) ints_mem).mono ?_
            rintro e w3 ⟨v, rfl, hown, hb3, hu3⟩
            have hu4 := hu.trans (hu3.below (B := W.heap.size) hu.size (fun k hk e => by unfold One at e; omega))
            obtain ⟨A', c', rfl, hh, -⟩ := holds_of_owns hown
            clear hown hu3 hu hbx
            rw [ints_length]
            go_wp2_with fail
            refine (same_any _ _ hh (hx.below hu4) (by omega)).mono ?_
            rintro e w4 ⟨rfl, m, rfl⟩
            rw [decide_eq_true (rfl : xs = xs)]
            go_wp2_with fail
            go_roundw
            case rel => exact ⟨k + 1, by omega, by go_num, hb3.drewN _, hu4.trans (Upd.below (S := None) ((Upd.refl _ _).drewN _) hu4.size (fun _ _ h => h))⟩
            case measure => simp [intOf]; omega
          · clear hk hq1 hq2
            go_wp2_with fail
            obtain ⟨wo2, hwo2⟩ : ∃ wo : World, wo = wr := ⟨_, rfl⟩
            subst hwo2
            go_loopw [42] (fun i wr => ∃ k : Nat, k ≤ xs.length ∧ i = .int .i64 k ∧ BoxIs 63 wr b W.heap.size 64 (ints (xs.drop k)) ∧ Below W.heap.size W wr) (fun i _ => xs.length - (intOf i).toNat)
            case atStart => exact ⟨0, Nat.zero_le _, rfl, hbx, hu⟩
            case round =>
              clear hbx hu
              obtain ⟨k, hk, rfl, hbx, hu⟩ := hrel
              by_cases hk2 : k < xs.length
              · obtain ⟨b', o', hA, hc⟩ := (hx.below hu).at hk2
                rw [ints_drop xs hk2] at hbx
                subst hA
                generalize xs[k] = p at *
                go_wp2_with fail
                refine (take_int_some hbx).mono ?_
                rintro e w2 ⟨rfl, hb2, ht2⟩
                go_wp2_with fail
                go_roundw
                case rel => exact ⟨k + 1, by omega, by go_num, hb2, hu.trans (ht2.below (Nat.le_refl _))⟩
                case measure => simp [intOf]; omega
              · have hkl : k = xs.length := by omega
                subst hkl
                rw [List.drop_length] at hbx
                clear hk
                go_wp2_with fail
                refine (len_int hbx).mono ?_
                rintro e w3 ⟨rfl, rfl⟩
                go_wp2_with fail
                refine (all_int hbx (by simp [ints]) (by simp [ints]) ints_mem).mono ?_
                rintro e w3 ⟨v, rfl, hown, hb3, hu3⟩
                have hu4 := hu.trans (hu3.below (B := W.heap.size) hu.size (fun k hk e => by unfold One at e; omega))
                obtain ⟨A', c', rfl, -⟩ := holds_of_owns hown
                clear hown hu3 hu hbx
                go_wp2_with fail
                refine (awake _).mono ?_
                rintro e w5 ⟨rfl, hu5⟩
                go_wp2_with fail
                go_ret
                exact ⟨rfl, hu4.trans (hu5.mono hu4.size)⟩
end Go.Proofs.Ytpngaghmojcjnaa
