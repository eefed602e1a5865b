/- What 'moved' of the law tells of two rows: how many go on, and both rows behind it. -/
import Derived.Test.YtpngaghmojcjnaaTwiceW
import Derived.OwnWalk
namespace Go.Proofs.Ytpngaghmojcjnaa
open Go.RowKit

theorem Own.newE2 {w0 w : World} {L : List Thing} (h : Own w0 w L) (e : TypeId) (size : Nat) : Own w0 ((w.alloc (.cells #[] e)).alloc (.cells #[] e)) (rowT e size (.slice (some ⟨w.heap.size + 1, 0, none⟩) 0 0) 0 [] :: rowT e size (.slice (some ⟨w.heap.size, 0, none⟩) 0 0) 0 [] :: L) := by
  have := (h.newE e size).newE e size
  rwa [show (w.alloc (.cells #[] e)).heap.size = w.heap.size + 1 by simp] at this
/-- Two things change places. -/
theorem Own.swap {w0 w : World} {P Q : Thing} {L : List Thing} (h : Own w0 w (P :: Q :: L)) : Own w0 w (Q :: P :: L) := by
  obtain ⟨hb, f, h1, h2, h3⟩ := h
  have s : ∀ j, j < (Q :: P :: L).length → (match j with | 0 => 1 | 1 => 0 | k => k) < (P :: Q :: L).length := fun j hj => by
    simp only [List.length_cons] at hj ⊢
    match j, hj with
    | 0, hj => show 1 < _; omega
    | 1, hj => show 0 < _; omega
    | k + 2, hj => exact hj
  refine ⟨hb, fun j => f (match j with | 0 => 1 | 1 => 0 | k => k), ?_, ?_, fun j b hj hf => h3 _ b (s j hj) hf⟩
  · intro j R hj
    match j, hj with
    | 0, hj => exact h1 1 R (by simpa using hj)
    | 1, hj => exact h1 0 R (by simpa using hj)
    | k + 2, hj => exact h1 (k + 2) R (by simpa using hj)
  · intro j k b hj hk hfj hfk
    have := h2 _ _ b (s j hj) (s k hk) hfj hfk
    match j, k, this with
    | 0, 0, _ => rfl
    | 0, 1, h => cases h
    | 0, k + 2, h => cases h
    | 1, 0, h => cases h
    | 1, 1, _ => rfl
    | 1, k + 2, h => cases h
    | j + 2, 0, h => cases h
    | j + 2, 1, h => cases h
    | j + 2, k + 2, h => exact h
theorem news_row {w : World} {e : TypeId} {size n c : Nat} {A : Option Addr} {xs : List Value} {base : Nat} (h : w.ownsRow base e size (.slice A n c) n xs) : News w A size n xs := by
  obtain ⟨A', c', he, hn, _⟩ := News.of_owns h
  simp only [Value.slice.injEq, true_and] at he
  rw [he.1]; exact hn
theorem news_drop0 {w : World} {b : Nat} {xs : List Int} (h : Holds w (some ⟨b, 0, none⟩) (ints xs)) (k : Nat) (hk : k ≤ xs.length) : News w (some ⟨b, k, none⟩) 1 (xs.length - k) (ints (xs.drop k)) := by
  have := news_drop h k hk
  rwa [Nat.zero_add] at this
def MovedPost (w0 : World) (L : List Thing) (l to : List Int) (n : Nat) (e : Ending) (w' : World) : Prop :=
  ∃ v v', e = .returned (.tuple #[v, v', .int .i64 n]) ∧ Own w0 w' (rowT 3 1 v (l.drop n).length (ints (l.drop n)) :: rowT 3 1 v' (to ++ l.take n).length (ints (to ++ l.take n)) :: L)
theorem Own.rowOf {w0 w2 : World} {L L2 : List Thing} {i n : Nat} {v : Value} {xs : List Value} (hi : L[i]? = some (rowT 3 1 v n xs)) (h : Own w0 w2 L2) (h2 : ∃ k : Nat, ∀ j : Nat, L[j]? = L2[j + k]?) : w2.ownsRow 0 3 1 v n xs := by
  obtain ⟨k, hk⟩ := h2
  exact h.row (i := i + k) (by rw [← hk]; exact hi)
set_option maxHeartbeats 16000000 in
set_option maxRecDepth 100000 in
theorem moved_own {w0 w : World} {L : List Thing} {v1 v2 : Value} {l to : List Int} (h : Own w0 w L) (i j : Nat) (hi : L[i]? = some (rowT 3 1 v1 l.length (ints l))) (hj : L[j]? = some (rowT 3 1 v2 to.length (ints to))) (q : Nat) (hl : l.length ≤ 64) (ht : to.length ≤ q) (hq : q ≤ 64) :
    Calls Try.prog 22 #[v1, v2, .int .i64 q] w (MovedPost w0 L l to (moves l.length to.length q)) := by
  have oo := h
  obtain ⟨A2, c2, rfl, -⟩ := News.of_owns (h.row hj)
  have hform := (h.row hi).2
  obtain ⟨n, hn⟩ : ∃ n, n = moves l.length to.length q := ⟨_, rfl⟩
  rw [← hn]
  have hnl : n ≤ l.length := by rw [hn]; unfold moves; omega
  have hwr : IntKind.i64.wrap ((q : Int) - (to.length : Int)) = (q : Int) - (to.length : Int) := by rw [IntKind.wrap_i64]; omega
  have hk : min (l.length : Int) (max ((q : Int) - (to.length : Int)) 0) = (n : Int) := by rw [hn]; unfold moves; omega
  clear hn h
  have HL1 := Lib.hid (show ∀ k, k ≤ l.length → 0 + (l.length - k) = (l.drop k).length from fun k _ => by rw [List.length_drop]; omega)
  have HL2 := Lib.hid (show ∀ k, k ≤ l.length → to.length + k = (to ++ l.take k).length from fun k hk => by rw [List.length_append, List.length_take]; omega)
  have HI := Lib.hid hi
  have HJ := Lib.hid hj
  clear hi hj
  rcases hform with ⟨rfl, hl0⟩ | ⟨g, c, cur, rfl, _, _, hlc, _⟩
  · obtain rfl := List.eq_nil_of_length_eq_zero hl0
    have hn0 : n = 0 := by simpa using hnl
    subst hn0
    have hk0 : min 0 (max ((q : Int) - (to.length : Int)) 0) = 0 := by omega
    clear hk
    go_enter Try.func22, Try.ntmps22
    go_wp2_with fail
    go_region_held3 (fun w' => True) (first | trivial)
      (first
        | (refine step_ocat (by first | exact oo | exact oo.drew | exact oo.newE 3 1 | exact (oo.newE 3 1).drew | exact oo.newE2 3 1 | exact (oo.newE2 3 1).drew) (.tmp 18) (.tmp 21) 26 rfl (by rfl) 3 (.int .i64 0) 1 8 rfl einfo_int rfl (by decide) (.slice (some ⟨_, 0, none⟩) 0 0) 0 [] rfl _ (by first | exact at0 | exact at1 | exact at2 | exact at3) _ _ _ (ints (([] : List Int).drop 0)) rfl (by exact news_nil _) ints_one (by unfold maxLen; omega) (by omega) ?_
           intro v22 wv oo
           dsimp only [List.set] at oo
           have oo := Own.castRow (v := v22) (n' := (([] : List Int).drop 0).length) (xs' := ints (([] : List Int).drop 0)) oo (by first | exact at0 | exact at1 | exact at2 | exact at3) (by first | (have := HL1.out _ hnl; omega) | simp) (by simp)
           dsimp only [List.set] at oo)
        | (refine step_ocat (by first | exact oo | exact oo.drew | exact oo.newE 3 1 | exact (oo.newE 3 1).drew | exact oo.newE2 3 1 | exact (oo.newE2 3 1).drew) (.tmp 23) (.tmp 24) 26 rfl (by rfl) 3 (.int .i64 0) 1 8 rfl einfo_int rfl (by decide) (.slice (some ⟨_, 0, none⟩) 0 0) 0 [] rfl _ (by first | exact at0 | exact at1 | exact at2 | exact at3) A2 to.length c2 (ints to) rfl (news_row (Own.rowOf HJ.out (by first | exact oo | exact oo.drew | exact oo.newE 3 1 | exact (oo.newE 3 1).drew | exact oo.newE2 3 1 | exact (oo.newE2 3 1).drew) (by first | exact ⟨0, fun j => rfl⟩ | exact ⟨1, fun j => List.getElem?_cons_succ.symm⟩ | exact ⟨2, fun j => (List.getElem?_cons_succ.trans List.getElem?_cons_succ).symm⟩))) ints_one (by unfold maxLen; omega) (by omega) ?_
           intro v25 wv oo
           dsimp only [List.set] at oo
           have oo := Own.castRow (v := v25) (n' := to.length) (xs' := ints to) oo (by first | exact at0 | exact at1 | exact at2 | exact at3) (by omega) (by simp)
           dsimp only [List.set] at oo)
        | (refine step_ocat (by first | exact oo | exact oo.drew | exact oo.newE 3 1 | exact (oo.newE 3 1).drew | exact oo.newE2 3 1 | exact (oo.newE2 3 1).drew) (.tmp 25) (.tmp 28) 26 rfl (by rfl) 3 (.int .i64 0) 1 8 rfl einfo_int rfl (by decide) v25 to.length (ints to) rfl _ (by first | exact at0 | exact at1 | exact at2 | exact at3) _ _ _ (ints (([] : List Int).take 0)) rfl (by exact news_nil _) ints_one (by unfold maxLen; omega) (by omega) ?_
           intro v29 wv oo
           dsimp only [List.set] at oo
           have oo := Own.castRow (v := v29) (n' := (to ++ ([] : List Int).take 0).length) (xs' := ints (to ++ ([] : List Int).take 0)) oo (by first | exact at0 | exact at1 | exact at2 | exact at3) (by first | (have := HL2.out _ hnl; omega) | simp) (by rw [ints_app])
           dsimp only [List.set] at oo))
    all_goals go_wp2_with fail
    all_goals go_ret3
    all_goals first | exact ⟨v22, v29, rfl, oo⟩ | exact ⟨v22, v29, rfl, oo.swap⟩ | exact ⟨v22, v29, rfl, oo.drew⟩ | exact ⟨v22, v29, rfl, oo.drew.swap⟩
  · by_cases hcn : c = n
    · have hnx : n = l.length := by omega
      subst hnx
      subst hcn
      go_enter Try.func22, Try.ntmps22
      go_wp2_with fail
      go_region_held3 (fun w' => True) (first | trivial)
        (first
          | (refine step_ocat (by first | exact oo | exact oo.drew | exact oo.newE 3 1 | exact (oo.newE 3 1).drew | exact oo.newE2 3 1 | exact (oo.newE2 3 1).drew) (.tmp 18) (.tmp 21) 26 rfl (by rfl) 3 (.int .i64 0) 1 8 rfl einfo_int rfl (by decide) (.slice (some ⟨_, 0, none⟩) 0 0) 0 [] rfl _ (by first | exact at0 | exact at1 | exact at2 | exact at3) _ _ _ (ints (l.drop l.length)) rfl (by rw [List.drop_length]; exact news_nil _) ints_one (by unfold maxLen; omega) (by omega) ?_
             intro v22 wv oo
             dsimp only [List.set] at oo
             have oo := Own.castRow (v := v22) (n' := (l.drop l.length).length) (xs' := ints (l.drop l.length)) oo (by first | exact at0 | exact at1 | exact at2 | exact at3) (by first | (have := HL1.out _ hnl; omega) | simp) (by simp)
             dsimp only [List.set] at oo)
          | (refine step_ocat (by first | exact oo | exact oo.drew | exact oo.newE 3 1 | exact (oo.newE 3 1).drew | exact oo.newE2 3 1 | exact (oo.newE2 3 1).drew) (.tmp 23) (.tmp 24) 26 rfl (by rfl) 3 (.int .i64 0) 1 8 rfl einfo_int rfl (by decide) (.slice (some ⟨_, 0, none⟩) 0 0) 0 [] rfl _ (by first | exact at0 | exact at1 | exact at2 | exact at3) A2 to.length c2 (ints to) rfl (news_row (Own.rowOf HJ.out (by first | exact oo | exact oo.drew | exact oo.newE 3 1 | exact (oo.newE 3 1).drew | exact oo.newE2 3 1 | exact (oo.newE2 3 1).drew) (by first | exact ⟨0, fun j => rfl⟩ | exact ⟨1, fun j => List.getElem?_cons_succ.symm⟩ | exact ⟨2, fun j => (List.getElem?_cons_succ.trans List.getElem?_cons_succ).symm⟩))) ints_one (by unfold maxLen; omega) (by omega) ?_
             intro v25 wv oo
             dsimp only [List.set] at oo
             have oo := Own.castRow (v := v25) (n' := to.length) (xs' := ints to) oo (by first | exact at0 | exact at1 | exact at2 | exact at3) (by omega) (by simp)
             dsimp only [List.set] at oo)
          | (refine step_ocat (by first | exact oo | exact oo.drew | exact oo.newE 3 1 | exact (oo.newE 3 1).drew | exact oo.newE2 3 1 | exact (oo.newE2 3 1).drew) (.tmp 25) (.tmp 28) 26 rfl (by rfl) 3 (.int .i64 0) 1 8 rfl einfo_int rfl (by decide) v25 to.length (ints to) rfl _ (by first | exact at0 | exact at1 | exact at2 | exact at3) _ _ _ (ints (l.take l.length)) rfl (news_take (holds_owns (Own.rowOf HI.out (by first | exact oo | exact oo.drew | exact oo.newE 3 1 | exact (oo.newE 3 1).drew | exact oo.newE2 3 1 | exact (oo.newE2 3 1).drew) (by first | exact ⟨0, fun j => rfl⟩ | exact ⟨1, fun j => List.getElem?_cons_succ.symm⟩ | exact ⟨2, fun j => (List.getElem?_cons_succ.trans List.getElem?_cons_succ).symm⟩))) l.length (Nat.le_refl _)) ints_one (by unfold maxLen; omega) (by omega) ?_
             intro v29 wv oo
             dsimp only [List.set] at oo
             have oo := Own.castRow (v := v29) (n' := (to ++ l.take l.length).length) (xs' := ints (to ++ l.take l.length)) oo (by first | exact at0 | exact at1 | exact at2 | exact at3) (by first | (have := HL2.out _ hnl; omega) | simp) (by rw [ints_app])
             dsimp only [List.set] at oo))
      all_goals go_wp2_with fail
      all_goals go_ret3
      all_goals first | exact ⟨v22, v29, rfl, oo⟩ | exact ⟨v22, v29, rfl, oo.swap⟩ | exact ⟨v22, v29, rfl, oo.drew⟩ | exact ⟨v22, v29, rfl, oo.drew.swap⟩
    · have hnc : n ≤ c := by omega
      go_enter Try.func22, Try.ntmps22
      go_wp2_with fail
      go_region_held3 (fun w' => True) (first | trivial)
        (first
          | (refine step_ocat (by first | exact oo | exact oo.drew | exact oo.newE 3 1 | exact (oo.newE 3 1).drew | exact oo.newE2 3 1 | exact (oo.newE2 3 1).drew) (.tmp 18) (.tmp 21) 26 rfl (by rfl) 3 (.int .i64 0) 1 8 rfl einfo_int rfl (by decide) (.slice (some ⟨_, 0, none⟩) 0 0) 0 [] rfl _ (by first | exact at0 | exact at1 | exact at2 | exact at3) _ _ _ (ints (l.drop n)) rfl (news_drop0 (holds_owns (Own.rowOf HI.out (by first | exact oo | exact oo.drew | exact oo.newE 3 1 | exact (oo.newE 3 1).drew | exact oo.newE2 3 1 | exact (oo.newE2 3 1).drew) (by first | exact ⟨0, fun j => rfl⟩ | exact ⟨1, fun j => List.getElem?_cons_succ.symm⟩ | exact ⟨2, fun j => (List.getElem?_cons_succ.trans List.getElem?_cons_succ).symm⟩))) n hnl) ints_one (by unfold maxLen; omega) (by omega) ?_
             intro v22 wv oo
             dsimp only [List.set] at oo
             have oo := Own.castRow (v := v22) (n' := (l.drop n).length) (xs' := ints (l.drop n)) oo (by first | exact at0 | exact at1 | exact at2 | exact at3) (by first | (have := HL1.out _ hnl; omega) | simp) (by simp)
             dsimp only [List.set] at oo)
          | (refine step_ocat (by first | exact oo | exact oo.drew | exact oo.newE 3 1 | exact (oo.newE 3 1).drew | exact oo.newE2 3 1 | exact (oo.newE2 3 1).drew) (.tmp 23) (.tmp 24) 26 rfl (by rfl) 3 (.int .i64 0) 1 8 rfl einfo_int rfl (by decide) (.slice (some ⟨_, 0, none⟩) 0 0) 0 [] rfl _ (by first | exact at0 | exact at1 | exact at2 | exact at3) A2 to.length c2 (ints to) rfl (news_row (Own.rowOf HJ.out (by first | exact oo | exact oo.drew | exact oo.newE 3 1 | exact (oo.newE 3 1).drew | exact oo.newE2 3 1 | exact (oo.newE2 3 1).drew) (by first | exact ⟨0, fun j => rfl⟩ | exact ⟨1, fun j => List.getElem?_cons_succ.symm⟩ | exact ⟨2, fun j => (List.getElem?_cons_succ.trans List.getElem?_cons_succ).symm⟩))) ints_one (by unfold maxLen; omega) (by omega) ?_
             intro v25 wv oo
             dsimp only [List.set] at oo
             have oo := Own.castRow (v := v25) (n' := to.length) (xs' := ints to) oo (by first | exact at0 | exact at1 | exact at2 | exact at3) (by omega) (by simp)
             dsimp only [List.set] at oo)
          | (refine step_ocat (by first | exact oo | exact oo.drew | exact oo.newE 3 1 | exact (oo.newE 3 1).drew | exact oo.newE2 3 1 | exact (oo.newE2 3 1).drew) (.tmp 25) (.tmp 28) 26 rfl (by rfl) 3 (.int .i64 0) 1 8 rfl einfo_int rfl (by decide) v25 to.length (ints to) rfl _ (by first | exact at0 | exact at1 | exact at2 | exact at3) _ _ _ (ints (l.take n)) rfl (news_take (holds_owns (Own.rowOf HI.out (by first | exact oo | exact oo.drew | exact oo.newE 3 1 | exact (oo.newE 3 1).drew | exact oo.newE2 3 1 | exact (oo.newE2 3 1).drew) (by first | exact ⟨0, fun j => rfl⟩ | exact ⟨1, fun j => List.getElem?_cons_succ.symm⟩ | exact ⟨2, fun j => (List.getElem?_cons_succ.trans List.getElem?_cons_succ).symm⟩))) n hnl) ints_one (by unfold maxLen; omega) (by omega) ?_
             intro v29 wv oo
             dsimp only [List.set] at oo
             have oo := Own.castRow (v := v29) (n' := (to ++ l.take n).length) (xs' := ints (to ++ l.take n)) oo (by first | exact at0 | exact at1 | exact at2 | exact at3) (by first | (have := HL2.out _ hnl; omega) | simp) (by rw [ints_app])
             dsimp only [List.set] at oo))
      all_goals go_wp2_with fail
      all_goals go_ret3
      all_goals first | exact ⟨v22, v29, rfl, oo⟩ | exact ⟨v22, v29, rfl, oo.swap⟩ | exact ⟨v22, v29, rfl, oo.drew⟩ | exact ⟨v22, v29, rfl, oo.drew.swap⟩
end Go.Proofs.Ytpngaghmojcjnaa
