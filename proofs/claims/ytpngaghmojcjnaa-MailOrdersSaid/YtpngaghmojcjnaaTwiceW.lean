/- MailTwice answers true. -/
import Derived.Test.YtpngaghmojcjnaaMBox
import Derived.Test.YtpngaghmojcjnaaOpen
import Derived.Deep.RegionHeld3
namespace Go.Proofs.Ytpngaghmojcjnaa
open Go.RowKit

theorem at0 {α : Type} {a : α} {L : List α} : (a :: L)[0]? = some a := rfl
theorem at1 {α : Type} {a b : α} {L : List α} : (a :: b :: L)[1]? = some b := rfl
theorem at2 {α : Type} {a b c : α} {L : List α} : (a :: b :: c :: L)[2]? = some c := rfl
theorem at3 {α : Type} {a b c d : α} {L : List α} : (a :: b :: c :: d :: L)[3]? = some d := rfl
theorem Own.drewN {w0 w : World} {L : List Thing} (h : Own w0 w L) (n : Nat) : Own w0 (w.drewN n) L := h.call ⟨rfl, rfl, rfl, Nat.le_refl _, fun _ _ => rfl⟩
theorem holds_owns {w : World} {base : Nat} {e : TypeId} {A : Option Addr} {n c : Nat} {xs : List Value} (h : w.ownsRow base e 1 (.slice A n c) n xs) : Holds w A xs := by
  obtain ⟨A', c', he, hh, _⟩ := holds_of_owns h
  simp only [Value.slice.injEq, true_and] at he
  rw [he.1]; exact hh
theorem news_take {w : World} {A : Option Addr} {xs : List Int} (h : Holds w A (ints xs)) (k : Nat) (hk : k ≤ xs.length) : News w A 1 k (ints (xs.take k)) := by
  refine ⟨by rw [ints_length, List.length_take]; omega, ?_⟩
  rcases h with h | ⟨b, o, rfl, h⟩
  · have : xs = [] := by simpa [ints] using h
    subst this
    have : k = 0 := by simpa using hk
    subst this
    cases A with
    | none => exact .inl ⟨rfl, rfl⟩
    | some ad => exact .inr ⟨ad, rfl, by simp [ints]⟩
  · refine .inr ⟨_, rfl, fun j u hu => ?_⟩
    rw [add_off]
    refine h j u ?_
    rw [ints_tk, List.getElem?_take] at hu
    split at hu
    · exact hu
    · cases hu
theorem news_drop {w : World} {b o : Nat} {xs : List Int} (h : Holds w (some ⟨b, o, none⟩) (ints xs)) (k : Nat) (hk : k ≤ xs.length) : News w (some ⟨b, o + k, none⟩) 1 (xs.length - k) (ints (xs.drop k)) := by
  refine ⟨by rw [ints_length]; simp, .inr ⟨_, rfl, fun j u hu => ?_⟩⟩
  rw [add_off]
  rw [ints_dr, List.getElem?_drop] at hu
  rcases h with h | ⟨b', o', e, h⟩
  · rw [h] at hu; simp at hu
  · simp only [Option.some.injEq, Addr.mk.injEq, and_true] at e
    obtain ⟨rfl, rfl⟩ := e
    have := h _ _ hu
    rwa [← Nat.add_assoc] at this
theorem news_nil {w : World} (A : Option Addr) {size : Nat} : News w A size 0 (ints []) := ⟨by simp [ints], by cases A with | none => exact .inl ⟨rfl, rfl⟩ | some ad => exact .inr ⟨ad, rfl, by simp [ints]⟩⟩
theorem ints_one {l : List Int} : ∀ u ∈ ints l, u.oneCell' = true := fun u hu => by
  obtain ⟨n, _, rfl⟩ := List.mem_map.1 hu; rfl
def TwiceTrue (w : World) (e : Ending) (w' : World) : Prop := e = .returned (.bool true) ∧ Below w.heap.size w w'
set_option maxHeartbeats 16000000 in
set_option maxRecDepth 100000 in
theorem twice_walk (A : Option Addr) (c : Nat) (xs : List Int) (room : Int) (W : World) (hx : Holds W A (ints xs)) (hm : xs.length ≤ maxLen) (hc : xs.length ≤ c) (hAc : A = none → c = 0) :
    Calls Try.prog 7 #[.slice A xs.length c, .int .i64 room] W (TwiceTrue W) := by
  have Hx := Lib.hid hx
  clear hx
  have hm2 : xs.length ≤ 9223372036854775807 := by unfold maxLen at hm; omega
  by_cases h60 : 60 < xs.length
  · have d1 : decide (60 < xs.length) = true := decide_eq_true h60
    have d2 : decide ((60 : Int) < (xs.length : Int)) = true := decide_eq_true (by omega)
    clear h60
    go_enter Try.func7, Try.ntmps7
    go_wp2_with fail
    refine (awake _).mono ?_
    rintro e w5 ⟨rfl, hu5⟩
    go_wp2_with fail
    go_ret
    exact ⟨rfl, hu5⟩
  · have d1 : decide (60 < xs.length) = false := decide_eq_false h60
    have d2 : decide ((60 : Int) < (xs.length : Int)) = false := decide_eq_false (by omega)
    have h61 : xs.length ≤ 60 := by omega
    clear h60 hm hm2
    go_enter Try.func7, Try.ntmps7
    go_wp2_with fail
    refine (bnew_own (Own.start W) 64).mono ?_
    rintro e w1 ⟨ba, ca, rfl, o1⟩
    rw [show roomOf 64 = 64 by decide] at o1
    go_wp2_with fail
    refine (bnew_own o1 room).mono ?_
    rintro e w2 ⟨bb, cb, rfl, o2⟩
    have O2 := Lib.hid o2
    clear o1 o2
    go_wp2_with fail
    go_loopw [26] (fun i wr => ∃ k : Nat, k ≤ xs.length ∧ i = .int .i64 k ∧ Own W wr [boxT bb cb (roomOf room) [], boxT ba ca 64 (xs.take k)]) (fun i _ => xs.length - (intOf i).toNat)
    case atStart => exact ⟨0, Nat.zero_le _, rfl, O2.out⟩
    case round =>
      obtain ⟨k, hk, rfl, ol⟩ := hrel
      have OL := Lib.hid ol
      clear ol
      by_cases hk2 : k < xs.length
      · obtain ⟨b', o', hA, hc⟩ := (Hx.out.below OL.out.below).at hk2
        have Ht := Lib.hid (show xs.take (k + 1) = xs.take k ++ [xs[k]] by rw [List.take_add_one, List.getElem?_eq_getElem hk2]; rfl)
        subst hA
        generalize xs[k] = p at *
        have ik : (k : Int) < xs.length := by omega
        go_wp2_with fail
        refine (bput_own OL.out 1 rfl p (by rw [List.length_take]; omega)).mono ?_
        rintro e w3 ⟨rfl, o3⟩
        rw [← Ht.out] at o3
        go_wp2_with fail
        refine ⟨⟨k + 1, by omega, by simp, o3⟩, ?_⟩
        simp only [intOf]; omega
      · obtain rfl : k = xs.length := by omega
        rw [List.take_length] at OL
        have Hr := Lib.hid (And.intro (roomOf_pos room) (And.intro (roomOf_le room) (roomOf_cast room)))
        generalize roomOf room = rm at *
        go_wp2_with fail
        refine (bmove_own OL.out 1 0 rfl rfl (by decide) (by omega)).mono ?_
        rintro e w3 ⟨rfl, o3⟩
        have hn : moves xs.length ([] : List Int).length rm = min xs.length rm := by simp [moves]
        rw [hn] at o3 ⊢
        obtain ⟨n, hnn⟩ : ∃ n, n = min xs.length rm := ⟨_, rfl⟩
        rw [← hnn] at o3 ⊢
        have hnl : n ≤ xs.length := by omega
        have Hnn := Lib.hid hnn
        clear hnn
        have O3 : Hid (Own W w3 [boxT bb cb rm (xs.take n), boxT ba ca 64 (xs.drop n)]) := Lib.hid (by simpa using o3)
        clear o3 hn
        go_wp2_with fail
        refine (bmove_own O3.out 0 1 rfl rfl (by decide) (by rw [List.length_take]; omega)).mono ?_
        rintro e w4 ⟨rfl, o4⟩
        have hn2 : moves (xs.take n).length (xs.drop n).length 64 = n := by unfold moves; rw [List.length_take, List.length_drop]; omega
        rw [hn2] at o4 ⊢
        have oo : Own W w4 [boxT bb cb rm [], boxT ba ca 64 (xs.drop n ++ xs.take n)] := by
          have h1 : (xs.take n).drop n = [] := List.drop_eq_nil_of_le (by rw [List.length_take]; omega)
          have h2 : (xs.take n).take n = xs.take n := by rw [List.take_take]; simp
          rw [h1, h2] at o4; exact o4
        have hmin : ((n : Int) == min (xs.length : Int) (min (max room 1) 64)) = true := by
          have h1 := Hr.out.2.2
          have h2 := Hnn.out
          rw [beq_iff_eq, ← h1]; omega
        have hlen : (xs.drop n ++ xs.take n).length = xs.length := by rw [List.length_append, List.length_drop, List.length_take]; omega
        clear o4 hn2
        obtain ⟨ys, hys⟩ : ∃ ys, ys = xs.drop n ++ xs.take n := ⟨_, rfl⟩
        rw [← hys] at oo hlen
        have Hys := Lib.hid hys
        have hself : ((n : Int) == (n : Int)) = true := beq_self_eq_true _
        have hself2 : (n == n) = true := beq_self_eq_true _
        have hnc : n ≤ c := by omega
        have Hl0 := Lib.hid hlen
        clear hys hlen
        cases A with
        | none =>
          have hxe : xs = [] := by
            rcases Hx.out with h | ⟨b, o, h, _⟩
            · simpa [ints] using h
            · cases h
          obtain rfl := hAc rfl
          subst hxe
          have hn0 : n = 0 := by omega
          subst hn0
          have hmin0 : ((0 : Int) == min 0 (min (max room 1) 64)) = true := by rw [beq_iff_eq]; omega
          clear hself hself2 hmin
          have Hl : Hid (ys.length ≤ 64 ∧ 0 + 0 + 0 = ys.length) := Lib.hid ⟨by have := Hl0.out; (try simp only [List.length_nil] at this); omega, by have := Hl0.out; (try simp only [List.length_nil] at this); omega⟩
          go_wp2_with fail
          go_region_held3 (fun w' => True) (first | trivial)
            (first
              | (go_at_call 21; refine (blen_own (by first | exact oo | exact oo.drew | exact oo.newE 3 1 | exact (oo.newE 3 1).drew) _ (by first | exact at0 | exact at1 | exact at2 | exact at3)).mono ?_; rintro e wv ⟨rfl, rfl⟩; rw [show ((([] : List Int).length : Nat) : Int) = 0 from rfl])
              | (go_at_call 19; refine (ball_own (by first | exact oo | exact oo.drew | exact oo.newE 3 1 | exact (oo.newE 3 1).drew) _ (by first | exact at0 | exact at1 | exact at2 | exact at3) Hl.out.1 Hl.out.1).mono ?_; rintro e wv ⟨v, rfl, oo⟩; obtain ⟨A1, c1, rfl, -⟩ := holds_of_owns (oo.row (i := 0) rfl))
              | (refine step_ocat (by first | exact oo | exact oo.drew | exact oo.newE 3 1 | exact (oo.newE 3 1).drew) (.tmp 61) (.tmp 64) 26 rfl (by rfl) 3 (.int .i64 0) 1 8 rfl einfo_int rfl (by decide) (.slice (some ⟨_, 0, none⟩) 0 0) 0 [] rfl _ (by first | exact at0 | exact at1 | exact at2 | exact at3) _ _ _ (ints ([] : List Int)) rfl (by exact news_nil _) ints_one (by unfold maxLen; omega) (by omega) ?_
                 intro v1 wv oo
                 dsimp only [List.set] at oo)
              | (refine step_ocat (by first | exact oo | exact oo.drew | exact oo.newE 3 1 | exact (oo.newE 3 1).drew) (.tmp 65) (.tmp 68) 26 rfl (by rfl) 3 (.int .i64 0) 1 8 rfl einfo_int rfl (by decide) v1 _ _ rfl _ (by first | exact at0 | exact at1 | exact at2 | exact at3) _ _ _ (ints ([] : List Int)) rfl (by exact news_nil _) ints_one (by unfold maxLen; omega) (by omega) ?_
                 intro v3 wv oo
                 dsimp only [List.set] at oo
                 have oo := Own.castRow (v := v3) (n' := ys.length) (xs' := ints ys) oo (by first | exact at0 | exact at1 | exact at2 | exact at3) (by have := Hl.out.2; omega) (by simp [Hys.out, ints_app, ints])
                 dsimp only [List.set] at oo
                 obtain ⟨A3, c3, rfl, -⟩ := holds_of_owns (Own.row (v := v3) oo (by first | exact at0 | exact at1 | exact at2 | exact at3)))
              | (go_at_call 12; refine (same_any (xs := ys) (ys := ys) _ _ (holds_owns (Own.row (by first | exact oo | exact oo.drew | exact oo.newE 3 1 | exact (oo.newE 3 1).drew) (by first | exact at0 | exact at1 | exact at2 | exact at3))) (holds_owns (Own.row (by first | exact oo | exact oo.drew | exact oo.newE 3 1 | exact (oo.newE 3 1).drew) (by first | exact at0 | exact at1 | exact at2 | exact at3))) (by have := Hl.out.1; omega)).mono ?_; rintro e wv ⟨rfl, m, rfl⟩
                 rw [decide_eq_true (rfl : ys = ys)]
                 have oo := Own.drewN (by first | exact oo | exact oo.drew | exact oo.newE 3 1 | exact (oo.newE 3 1).drew) m)
              | (go_at_call 8; refine (awake _).mono ?_; rintro e wv ⟨rfl, b9⟩
                 have oo := Own.call (by first | exact oo | exact oo.drew | exact oo.newE 3 1 | exact (oo.newE 3 1).drew) b9))
          all_goals go_wp2_with fail
          all_goals go_ret
          all_goals exact ⟨rfl, (by first | exact oo.below | exact oo.drew.below | exact (oo.newE 3 1).below | exact (oo.newE 3 1).drew.below)⟩
        | some ad =>
          by_cases hxe : xs = []
          · subst hxe
            have hn0 : n = 0 := by simpa using hnl
            subst hn0
            have hmin0 : ((0 : Int) == min 0 (min (max room 1) 64)) = true := by rw [beq_iff_eq]; omega
            clear hself hself2 hmin
            by_cases hc0 : c = 0
            · subst hc0
              have Hl : Hid (ys.length ≤ 64 ∧ 0 + 0 + 0 = ys.length) := Lib.hid ⟨by have := Hl0.out; (try simp only [List.length_nil] at this); omega, by have := Hl0.out; (try simp only [List.length_nil] at this); omega⟩
              go_wp2_with fail
              go_region_held3 (fun w' => True) (first | trivial)
                (first
                  | (go_at_call 21; refine (blen_own (by first | exact oo | exact oo.drew | exact oo.newE 3 1 | exact (oo.newE 3 1).drew) _ (by first | exact at0 | exact at1 | exact at2 | exact at3)).mono ?_; rintro e wv ⟨rfl, rfl⟩; rw [show ((([] : List Int).length : Nat) : Int) = 0 from rfl])
                  | (go_at_call 19; refine (ball_own (by first | exact oo | exact oo.drew | exact oo.newE 3 1 | exact (oo.newE 3 1).drew) _ (by first | exact at0 | exact at1 | exact at2 | exact at3) Hl.out.1 Hl.out.1).mono ?_; rintro e wv ⟨v, rfl, oo⟩; obtain ⟨A1, c1, rfl, -⟩ := holds_of_owns (oo.row (i := 0) rfl))
                  | (refine step_ocat (by first | exact oo | exact oo.drew | exact oo.newE 3 1 | exact (oo.newE 3 1).drew) (.tmp 61) (.tmp 64) 26 rfl (by rfl) 3 (.int .i64 0) 1 8 rfl einfo_int rfl (by decide) (.slice (some ⟨_, 0, none⟩) 0 0) 0 [] rfl _ (by first | exact at0 | exact at1 | exact at2 | exact at3) _ _ _ (ints ([] : List Int)) rfl (by exact news_nil _) ints_one (by unfold maxLen; omega) (by omega) ?_
                     intro v1 wv oo
                     dsimp only [List.set] at oo)
                  | (refine step_ocat (by first | exact oo | exact oo.drew | exact oo.newE 3 1 | exact (oo.newE 3 1).drew) (.tmp 65) (.tmp 68) 26 rfl (by rfl) 3 (.int .i64 0) 1 8 rfl einfo_int rfl (by decide) v1 _ _ rfl _ (by first | exact at0 | exact at1 | exact at2 | exact at3) _ _ _ (ints ([] : List Int)) rfl (by exact news_nil _) ints_one (by unfold maxLen; omega) (by omega) ?_
                     intro v3 wv oo
                     dsimp only [List.set] at oo
                     have oo := Own.castRow (v := v3) (n' := ys.length) (xs' := ints ys) oo (by first | exact at0 | exact at1 | exact at2 | exact at3) (by have := Hl.out.2; omega) (by simp [Hys.out, ints_app, ints])
                     dsimp only [List.set] at oo
                     obtain ⟨A3, c3, rfl, -⟩ := holds_of_owns (Own.row (v := v3) oo (by first | exact at0 | exact at1 | exact at2 | exact at3)))
                  | (go_at_call 12; refine (same_any (xs := ys) (ys := ys) _ _ (holds_owns (Own.row (by first | exact oo | exact oo.drew | exact oo.newE 3 1 | exact (oo.newE 3 1).drew) (by first | exact at0 | exact at1 | exact at2 | exact at3))) (holds_owns (Own.row (by first | exact oo | exact oo.drew | exact oo.newE 3 1 | exact (oo.newE 3 1).drew) (by first | exact at0 | exact at1 | exact at2 | exact at3))) (by have := Hl.out.1; omega)).mono ?_; rintro e wv ⟨rfl, m, rfl⟩
                     rw [decide_eq_true (rfl : ys = ys)]
                     have oo := Own.drewN (by first | exact oo | exact oo.drew | exact oo.newE 3 1 | exact (oo.newE 3 1).drew) m)
                  | (go_at_call 8; refine (awake _).mono ?_; rintro e wv ⟨rfl, b9⟩
                     have oo := Own.call (by first | exact oo | exact oo.drew | exact oo.newE 3 1 | exact (oo.newE 3 1).drew) b9))
              all_goals go_wp2_with fail
              all_goals go_ret
              all_goals exact ⟨rfl, (by first | exact oo.below | exact oo.drew.below | exact (oo.newE 3 1).below | exact (oo.newE 3 1).drew.below)⟩
            · have hc1 : ¬ 0 = c := fun e => hc0 e.symm
              have Hl : Hid (ys.length ≤ 64 ∧ 0 + 0 + 0 = ys.length) := Lib.hid ⟨by have := Hl0.out; (try simp only [List.length_nil] at this); omega, by have := Hl0.out; (try simp only [List.length_nil] at this); omega⟩
              go_wp2_with fail
              go_region_held3 (fun w' => True) (first | trivial)
                (first
                  | (go_at_call 21; refine (blen_own (by first | exact oo | exact oo.drew | exact oo.newE 3 1 | exact (oo.newE 3 1).drew) _ (by first | exact at0 | exact at1 | exact at2 | exact at3)).mono ?_; rintro e wv ⟨rfl, rfl⟩; rw [show ((([] : List Int).length : Nat) : Int) = 0 from rfl])
                  | (go_at_call 19; refine (ball_own (by first | exact oo | exact oo.drew | exact oo.newE 3 1 | exact (oo.newE 3 1).drew) _ (by first | exact at0 | exact at1 | exact at2 | exact at3) Hl.out.1 Hl.out.1).mono ?_; rintro e wv ⟨v, rfl, oo⟩; obtain ⟨A1, c1, rfl, -⟩ := holds_of_owns (oo.row (i := 0) rfl))
                  | (refine step_ocat (by first | exact oo | exact oo.drew | exact oo.newE 3 1 | exact (oo.newE 3 1).drew) (.tmp 61) (.tmp 64) 26 rfl (by rfl) 3 (.int .i64 0) 1 8 rfl einfo_int rfl (by decide) (.slice (some ⟨_, 0, none⟩) 0 0) 0 [] rfl _ (by first | exact at0 | exact at1 | exact at2 | exact at3) _ _ _ (ints ([] : List Int)) rfl (by exact news_nil _) ints_one (by unfold maxLen; omega) (by omega) ?_
                     intro v1 wv oo
                     dsimp only [List.set] at oo)
                  | (refine step_ocat (by first | exact oo | exact oo.drew | exact oo.newE 3 1 | exact (oo.newE 3 1).drew) (.tmp 65) (.tmp 68) 26 rfl (by rfl) 3 (.int .i64 0) 1 8 rfl einfo_int rfl (by decide) v1 _ _ rfl _ (by first | exact at0 | exact at1 | exact at2 | exact at3) _ _ _ (ints ([] : List Int)) rfl (by exact news_nil _) ints_one (by unfold maxLen; omega) (by omega) ?_
                     intro v3 wv oo
                     dsimp only [List.set] at oo
                     have oo := Own.castRow (v := v3) (n' := ys.length) (xs' := ints ys) oo (by first | exact at0 | exact at1 | exact at2 | exact at3) (by have := Hl.out.2; omega) (by simp [Hys.out, ints_app, ints])
                     dsimp only [List.set] at oo
                     obtain ⟨A3, c3, rfl, -⟩ := holds_of_owns (Own.row (v := v3) oo (by first | exact at0 | exact at1 | exact at2 | exact at3)))
                  | (go_at_call 12; refine (same_any (xs := ys) (ys := ys) _ _ (holds_owns (Own.row (by first | exact oo | exact oo.drew | exact oo.newE 3 1 | exact (oo.newE 3 1).drew) (by first | exact at0 | exact at1 | exact at2 | exact at3))) (holds_owns (Own.row (by first | exact oo | exact oo.drew | exact oo.newE 3 1 | exact (oo.newE 3 1).drew) (by first | exact at0 | exact at1 | exact at2 | exact at3))) (by have := Hl.out.1; omega)).mono ?_; rintro e wv ⟨rfl, m, rfl⟩
                     rw [decide_eq_true (rfl : ys = ys)]
                     have oo := Own.drewN (by first | exact oo | exact oo.drew | exact oo.newE 3 1 | exact (oo.newE 3 1).drew) m)
                  | (go_at_call 8; refine (awake _).mono ?_; rintro e wv ⟨rfl, b9⟩
                     have oo := Own.call (by first | exact oo | exact oo.drew | exact oo.newE 3 1 | exact (oo.newE 3 1).drew) b9))
              all_goals go_wp2_with fail
              all_goals go_ret
              all_goals exact ⟨rfl, (by first | exact oo.below | exact oo.drew.below | exact (oo.newE 3 1).below | exact (oo.newE 3 1).drew.below)⟩
          · obtain ⟨b, o, rfl⟩ : ∃ b o, ad = ⟨b, o, none⟩ := by
              rcases Hx.out with h | ⟨b, o, h, _⟩
              · exact absurd (by simpa [ints] using h) hxe
              · simp only [Option.some.injEq] at h; exact ⟨b, o, h⟩
            have Hlt := Lib.hid (show ∀ a, some (⟨b, o, none⟩ : Addr) = some a → a.block < W.heap.size from holds_lt Hx.out (by simpa [ints] using hxe))
            clear hxe
            by_cases hcn : c = n
            · have hnx : n = xs.length := by omega
              subst hnx
              subst hcn
              have HN : Hid (News W (some ⟨b, o, none⟩) 1 xs.length (ints (xs.take xs.length))) := Lib.hid (news_take Hx.out xs.length (Nat.le_refl _))
              have Hl : Hid (ys.length ≤ 64 ∧ 0 + 0 + xs.length = ys.length) := Lib.hid ⟨by have := Hl0.out; (try simp only [List.length_nil] at this); omega, by have := Hl0.out; (try simp only [List.length_nil] at this); omega⟩
              go_wp2_with fail
              go_region_held3 (fun w' => True) (first | trivial)
                (first
                  | (go_at_call 21; refine (blen_own (by first | exact oo | exact oo.drew | exact oo.newE 3 1 | exact (oo.newE 3 1).drew) _ (by first | exact at0 | exact at1 | exact at2 | exact at3)).mono ?_; rintro e wv ⟨rfl, rfl⟩; rw [show ((([] : List Int).length : Nat) : Int) = 0 from rfl])
                  | (go_at_call 19; refine (ball_own (by first | exact oo | exact oo.drew | exact oo.newE 3 1 | exact (oo.newE 3 1).drew) _ (by first | exact at0 | exact at1 | exact at2 | exact at3) Hl.out.1 Hl.out.1).mono ?_; rintro e wv ⟨v, rfl, oo⟩; obtain ⟨A1, c1, rfl, -⟩ := holds_of_owns (oo.row (i := 0) rfl))
                  | (refine step_ocat (by first | exact oo | exact oo.drew | exact oo.newE 3 1 | exact (oo.newE 3 1).drew) (.tmp 61) (.tmp 64) 26 rfl (by rfl) 3 (.int .i64 0) 1 8 rfl einfo_int rfl (by decide) (.slice (some ⟨_, 0, none⟩) 0 0) 0 [] rfl _ (by first | exact at0 | exact at1 | exact at2 | exact at3) _ _ _ (ints (xs.drop xs.length)) rfl (by rw [List.drop_length]; exact news_nil _) ints_one (by unfold maxLen; omega) (by omega) ?_
                     intro v1 wv oo
                     dsimp only [List.set] at oo)
                  | (refine step_ocat (by first | exact oo | exact oo.drew | exact oo.newE 3 1 | exact (oo.newE 3 1).drew) (.tmp 65) (.tmp 68) 26 rfl (by rfl) 3 (.int .i64 0) 1 8 rfl einfo_int rfl (by decide) v1 _ _ rfl _ (by first | exact at0 | exact at1 | exact at2 | exact at3) _ _ _ (ints (xs.take xs.length)) rfl (HN.out.upd (by first | exact oo.below | exact oo.drew.below | exact (oo.newE 3 1).below | exact (oo.newE 3 1).drew.below) Hlt.out) ints_one (by unfold maxLen; omega) (by omega) ?_
                     intro v3 wv oo
                     dsimp only [List.set] at oo
                     have oo := Own.castRow (v := v3) (n' := ys.length) (xs' := ints ys) oo (by first | exact at0 | exact at1 | exact at2 | exact at3) (by have := Hl.out.2; omega) (by simp [Hys.out, ints_app, ints])
                     dsimp only [List.set] at oo
                     obtain ⟨A3, c3, rfl, -⟩ := holds_of_owns (Own.row (v := v3) oo (by first | exact at0 | exact at1 | exact at2 | exact at3)))
                  | (go_at_call 12; refine (same_any (xs := ys) (ys := ys) _ _ (holds_owns (Own.row (by first | exact oo | exact oo.drew | exact oo.newE 3 1 | exact (oo.newE 3 1).drew) (by first | exact at0 | exact at1 | exact at2 | exact at3))) (holds_owns (Own.row (by first | exact oo | exact oo.drew | exact oo.newE 3 1 | exact (oo.newE 3 1).drew) (by first | exact at0 | exact at1 | exact at2 | exact at3))) (by have := Hl.out.1; omega)).mono ?_; rintro e wv ⟨rfl, m, rfl⟩
                     rw [decide_eq_true (rfl : ys = ys)]
                     have oo := Own.drewN (by first | exact oo | exact oo.drew | exact oo.newE 3 1 | exact (oo.newE 3 1).drew) m)
                  | (go_at_call 8; refine (awake _).mono ?_; rintro e wv ⟨rfl, b9⟩
                     have oo := Own.call (by first | exact oo | exact oo.drew | exact oo.newE 3 1 | exact (oo.newE 3 1).drew) b9))
              all_goals go_wp2_with fail
              all_goals go_ret
              all_goals exact ⟨rfl, (by first | exact oo.below | exact oo.drew.below | exact (oo.newE 3 1).below | exact (oo.newE 3 1).drew.below)⟩
            · have HN : Hid (News W (some ⟨b, o, none⟩) 1 n (ints (xs.take n)) ∧ News W (some ⟨b, o + n, none⟩) 1 (xs.length - n) (ints (xs.drop n))) := Lib.hid ⟨news_take Hx.out n hnl, news_drop Hx.out n hnl⟩
              have Hl : Hid (ys.length ≤ 64 ∧ 0 + (xs.length - n) + n = ys.length) := Lib.hid ⟨by have := Hl0.out; (try simp only [List.length_nil] at this); omega, by have := Hl0.out; (try simp only [List.length_nil] at this); omega⟩
              go_wp2_with fail
              go_region_held3 (fun w' => True) (first | trivial)
                (first
                  | (go_at_call 21; refine (blen_own (by first | exact oo | exact oo.drew | exact oo.newE 3 1 | exact (oo.newE 3 1).drew) _ (by first | exact at0 | exact at1 | exact at2 | exact at3)).mono ?_; rintro e wv ⟨rfl, rfl⟩; rw [show ((([] : List Int).length : Nat) : Int) = 0 from rfl])
                  | (go_at_call 19; refine (ball_own (by first | exact oo | exact oo.drew | exact oo.newE 3 1 | exact (oo.newE 3 1).drew) _ (by first | exact at0 | exact at1 | exact at2 | exact at3) Hl.out.1 Hl.out.1).mono ?_; rintro e wv ⟨v, rfl, oo⟩; obtain ⟨A1, c1, rfl, -⟩ := holds_of_owns (oo.row (i := 0) rfl))
                  | (refine step_ocat (by first | exact oo | exact oo.drew | exact oo.newE 3 1 | exact (oo.newE 3 1).drew) (.tmp 61) (.tmp 64) 26 rfl (by rfl) 3 (.int .i64 0) 1 8 rfl einfo_int rfl (by decide) (.slice (some ⟨_, 0, none⟩) 0 0) 0 [] rfl _ (by first | exact at0 | exact at1 | exact at2 | exact at3) _ _ _ (ints (xs.drop n)) rfl (HN.out.2.upd (by first | exact oo.below | exact oo.drew.below | exact (oo.newE 3 1).below | exact (oo.newE 3 1).drew.below) (by rintro a ⟨⟩; exact Hlt.out ⟨b, o, none⟩ rfl)) ints_one (by unfold maxLen; omega) (by omega) ?_
                     intro v1 wv oo
                     dsimp only [List.set] at oo)
                  | (refine step_ocat (by first | exact oo | exact oo.drew | exact oo.newE 3 1 | exact (oo.newE 3 1).drew) (.tmp 65) (.tmp 68) 26 rfl (by rfl) 3 (.int .i64 0) 1 8 rfl einfo_int rfl (by decide) v1 _ _ rfl _ (by first | exact at0 | exact at1 | exact at2 | exact at3) _ _ _ (ints (xs.take n)) rfl (HN.out.1.upd (by first | exact oo.below | exact oo.drew.below | exact (oo.newE 3 1).below | exact (oo.newE 3 1).drew.below) Hlt.out) ints_one (by unfold maxLen; omega) (by omega) ?_
                     intro v3 wv oo
                     dsimp only [List.set] at oo
                     have oo := Own.castRow (v := v3) (n' := ys.length) (xs' := ints ys) oo (by first | exact at0 | exact at1 | exact at2 | exact at3) (by have := Hl.out.2; omega) (by simp [Hys.out, ints_app, ints])
                     dsimp only [List.set] at oo
                     obtain ⟨A3, c3, rfl, -⟩ := holds_of_owns (Own.row (v := v3) oo (by first | exact at0 | exact at1 | exact at2 | exact at3)))
                  | (go_at_call 12; refine (same_any (xs := ys) (ys := ys) _ _ (holds_owns (Own.row (by first | exact oo | exact oo.drew | exact oo.newE 3 1 | exact (oo.newE 3 1).drew) (by first | exact at0 | exact at1 | exact at2 | exact at3))) (holds_owns (Own.row (by first | exact oo | exact oo.drew | exact oo.newE 3 1 | exact (oo.newE 3 1).drew) (by first | exact at0 | exact at1 | exact at2 | exact at3))) (by have := Hl.out.1; omega)).mono ?_; rintro e wv ⟨rfl, m, rfl⟩
                     rw [decide_eq_true (rfl : ys = ys)]
                     have oo := Own.drewN (by first | exact oo | exact oo.drew | exact oo.newE 3 1 | exact (oo.newE 3 1).drew) m)
                  | (go_at_call 8; refine (awake _).mono ?_; rintro e wv ⟨rfl, b9⟩
                     have oo := Own.call (by first | exact oo | exact oo.drew | exact oo.newE 3 1 | exact (oo.newE 3 1).drew) b9))
              all_goals go_wp2_with fail
              all_goals go_ret
              all_goals exact ⟨rfl, (by first | exact oo.below | exact oo.drew.below | exact (oo.newE 3 1).below | exact (oo.newE 3 1).drew.below)⟩
end Go.Proofs.Ytpngaghmojcjnaa
