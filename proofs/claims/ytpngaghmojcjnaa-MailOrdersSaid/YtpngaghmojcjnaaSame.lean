/- What the law's 'same' tells of two rows of ints: whether they are the same. Nothing is written. -/
import Derived.Test.YtpngaghmojcjnaaLib
import Derived.Lib.Hide
import Derived.Deep.QuietTactic
import Derived.BigQuiet
namespace Go.Proofs.Ytpngaghmojcjnaa
open Go.RowKit

/-- The ints as values. -/
def ints (l : List Int) : List Value := l.map (Value.int .i64)
theorem ints_length (l : List Int) : (ints l).length = l.length := List.length_map ..

theorem Holds.at {w : World} {A : Option Addr} {l : List Int} (h : Holds w A (ints l)) {k : Nat} (hk : k < l.length) : ∃ b o, A = some ⟨b, o, none⟩ ∧ w.cell? ⟨b, o + k, none⟩ = some (.int .i64 l[k]) := by
  rcases h with h | ⟨b, o, rfl, h⟩
  · simp [ints] at h; subst h; simp at hk
  · exact ⟨b, o, rfl, h k _ (by simp [ints, hk])⟩

theorem eq_of_takes {xs ys : List Int} (hl : xs.length = ys.length) (h : ∀ j (h1 : j < xs.length) (h2 : j < ys.length), xs[j] = ys[j]) : xs = ys := List.ext_getElem hl h

set_option maxHeartbeats 1600000 in
set_option maxRecDepth 100000 in
theorem same_any {xs ys : List Int} {A A' : Option Addr} (c c' : Nat) {w : World} (hx : Holds w A (ints xs)) (hy : Holds w A' (ints ys)) (hm : xs.length ≤ 9223372036854775807) :
    Calls Try.prog 12 #[.slice A xs.length c, .slice A' ys.length c'] w fun e w' => e = .returned (.bool (decide (xs = ys))) ∧ ∃ n, w' = w.drewN n := by
  by_cases hl : xs.length = ys.length
  · have hl1 : ((xs.length : Int) == (ys.length : Int)) = true := by simp [hl]
    have hl2 : ((xs.length : Int) != (ys.length : Int)) = false := by simp [hl]
    have HL := Lib.hid hl
    clear hl
    go_enter Try.func12, Try.ntmps12
    go_wp2
    clear hl1 hl2
    go_loopw [13] (fun i wr => ∃ k : Nat, k ≤ xs.length ∧ i = .int .i64 k ∧ Hid (∀ j (h1 : j < xs.length) (h2 : j < ys.length), j < k → xs[j] = ys[j]) ∧ ∃ n, wr = w.drewN n)
      (fun i _ => xs.length - (intOf i).toNat)
    case atStart => exact ⟨0, Nat.zero_le _, rfl, fun j _ _ h => absurd h (by omega), 0, rfl⟩
    case round =>
      obtain ⟨k, hk, rfl, hall, n, rfl⟩ := hrel
      by_cases hlt : k < xs.length
      · have hlt2 : k < ys.length := by have := HL.out; omega
        obtain ⟨b, o, hA, hc⟩ := hx.at hlt
        obtain ⟨b', o', hA', hc'⟩ := hy.at hlt2
        subst hA hA'
        by_cases he : xs[k] = ys[k]
        · have hnext : Hid (∀ j (h1 : j < xs.length) (h2 : j < ys.length), j < k + 1 → xs[j] = ys[j]) := fun j h1 h2 hj => by
            rcases Nat.lt_or_ge j k with h | h
            · exact hall.out j h1 h2 h
            · have : j = k := by omega
              subst this; exact he
          have he1 : (xs[k] != ys[k]) = false := by simp [he]
          have he2 : (xs[k] == ys[k]) = true := by simp [he]
          clear he hall
          generalize xs[k] = p at *
          generalize ys[k] = q at *
          go_wp2
          go_quiet (fail)
          go_wp2
          go_roundw
          case rel => exact ⟨k + 1, by omega, by go_num, hnext, _, rfl⟩
          case measure => simp [intOf]; omega
        · have hne : decide (xs = ys) = false := decide_eq_false fun e => he (by subst e; rfl)
          have he1 : (xs[k] != ys[k]) = true := by simp [he]
          have he2 : (xs[k] == ys[k]) = false := by simp [he]
          clear he hall
          generalize xs[k] = p at *
          generalize ys[k] = q at *
          go_wp2
          go_quiet (fail)
          go_wp2
          go_ret
          exact ⟨by rw [hne]; rfl, _, World.drewN_drewN ..⟩
      · have hkl : k = xs.length := by omega
        have heq : decide (xs = ys) = true := decide_eq_true (List.ext_getElem HL.out fun j h1 h2 => hall.out j h1 h2 (by omega))
        clear hall
        go_wp2
        go_ret
        exact ⟨by rw [heq]; rfl, _, rfl⟩
  · have hl1 : ((xs.length : Int) == (ys.length : Int)) = false := by simp; omega
    have hl2 : ((xs.length : Int) != (ys.length : Int)) = true := by simp; omega
    have hne : decide (xs = ys) = false := decide_eq_false fun e => hl (by rw [e])
    clear hl
    go_enter Try.func12, Try.ntmps12
    go_wp2
    go_ret
    exact ⟨by rw [hne]; rfl, 0, rfl⟩
end Go.Proofs.Ytpngaghmojcjnaa
