/- A box of ints among the things that a law has made. -/
import Derived.Test.YtpngaghmojcjnaaAll
import Derived.Test.YtpngaghmojcjnaaSame
import Derived.Test.YtpngaghmojcjnaaOwnR
import Derived.Test.YtpngaghmojcjnaaAwake
namespace Go.Proofs.Ytpngaghmojcjnaa
open Go.RowKit

def boxT (b c cap : Nat) (xs : List Int) : Thing where
  P w S := BoxIs 63 w b c cap (ints xs) ∧ ∀ k, S k ↔ k = b ∨ k = c
  lt w S h k hk := by have := h.1.lt; rcases (h.2 k).1 hk with rfl | rfl <;> omega
  keep w w' S T h u hd := ⟨h.1.upd u (hd b ((h.2 b).2 (.inl rfl))) (hd c ((h.2 c).2 (.inr rfl))), h.2⟩
theorem Own.box {w0 w : World} {L : List Thing} {i b c cap : Nat} {xs : List Int} (h : Own w0 w L) (hi : L[i]? = some (boxT b c cap xs)) : BoxIs 63 w b c cap (ints xs) := by
  obtain ⟨S, h1, _⟩ := h.at hi; exact h1.1
theorem Own.boxed {w0 w w' : World} {L : List Thing} {i b c cap : Nat} {xs ys : List Int} (h : Own w0 w L) (hi : L[i]? = some (boxT b c cap xs)) (hb : BoxIs 63 w' b c cap (ints ys)) (hu : Upd (One c) w w') : Own w0 w' (L.set i (boxT b c cap ys)) := by
  obtain ⟨S, hp, hk⟩ := h.upd hi
  exact hk w' (boxT b c cap ys) S (hu.mono fun k _ e => (hp.2 k).2 (.inr e)) ⟨hb, hp.2⟩ (fun _ h => .inl h)
theorem set_same {α : Type} {L : List α} {j : Nat} {x : α} (h : L[j]? = some x) : L.set j x = L := by
  apply List.ext_getElem?
  intro k
  rw [List.getElem?_set]
  by_cases e : j = k
  · subst e
    rw [if_pos rfl, if_pos (idx_lt h)]; exact h.symm
  · rw [if_neg e]
theorem Own.castRow {w0 w : World} {L : List Thing} {i n n' : Nat} {e : TypeId} {size : Nat} {v : Value} {xs xs' : List Value} (h : Own w0 w L) (hi : L[i]? = some (rowT e size v n xs)) (hn : n = n') (hx : xs = xs') : Own w0 w (L.set i (rowT e size v n' xs')) := by
  subst hn hx; rwa [set_same hi]
theorem ints_app (a b : List Int) : ints (a ++ b) = ints a ++ ints b := by simp [ints]
theorem bnew_own {w0 w : World} {L : List Thing} (h : Own w0 w L) (room : Int) : Calls Try.prog 17 #[.int .i64 room] w fun e w' => ∃ b c, e = .returned (.pointer (some ⟨b, 0, none⟩)) ∧ Own w0 w' (boxT b c (roomOf room) [] :: L) :=
  (new_int room w).mono fun _ _ ⟨he, hb, hu, _⟩ => ⟨_, _, he, h.new hu (Q := boxT _ _ (roomOf room) []) (S := fun k => k = w.heap.size + 1 ∨ k = w.heap.size) ⟨hb, fun _ => Iff.rfl⟩ (fun k hk => by omega)⟩
theorem bput_own {w0 w : World} {L : List Thing} {b c cap : Nat} {xs : List Int} (h : Own w0 w L) (i : Nat) (hi : L[i]? = some (boxT b c cap xs)) (x : Int) (hr : xs.length < cap) :
    Calls Try.prog 18 #[.pointer (some ⟨b, 0, none⟩), .int .i64 x] w fun e w' => e = .returned (.bool true) ∧ Own w0 w' (L.set i (boxT b c cap (xs ++ [x]))) :=
  (put_int_room (.int .i64 x) (h.box hi) (by rw [ints_length]; exact hr)).mono fun _ _ ⟨he, hb, ht⟩ => ⟨he, h.boxed hi (by rw [ints_app]; exact hb) ht.upd⟩
theorem bputf_own {w0 w : World} {L : List Thing} {b c cap : Nat} {xs : List Int} (h : Own w0 w L) (i : Nat) (hi : L[i]? = some (boxT b c cap xs)) (x : Int) (hr : cap ≤ xs.length) :
    Calls Try.prog 18 #[.pointer (some ⟨b, 0, none⟩), .int .i64 x] w fun e w' => e = .returned (.bool false) ∧ Own w0 w' L :=
  (put_int_full (.int .i64 x) (h.box hi) (by rw [ints_length]; exact hr)).mono fun _ _ ⟨he, hb, ht⟩ => ⟨he, by have := h.boxed hi hb ht.upd; rwa [set_same hi] at this⟩
theorem btake_own {w0 w : World} {L : List Thing} {b c cap : Nat} {x : Int} {xs : List Int} (h : Own w0 w L) (i : Nat) (hi : L[i]? = some (boxT b c cap (x :: xs))) :
    Calls Try.prog 20 #[.pointer (some ⟨b, 0, none⟩)] w fun e w' => e = .returned (.tuple #[.int .i64 x, .bool true]) ∧ Own w0 w' (L.set i (boxT b c cap xs)) :=
  (take_int_some (h.box hi)).mono fun _ _ ⟨he, hb, ht⟩ => ⟨he, h.boxed hi hb ht.upd⟩
theorem btaken_own {w0 w : World} {L : List Thing} {b c cap : Nat} (h : Own w0 w L) (i : Nat) (hi : L[i]? = some (boxT b c cap [])) :
    Calls Try.prog 20 #[.pointer (some ⟨b, 0, none⟩)] w fun e w' => e = .returned (.tuple #[.int .i64 0, .bool false]) ∧ Own w0 w' L :=
  (take_int_none (h.box hi)).mono fun _ _ ⟨he, hb, ht⟩ => ⟨he, by have := h.boxed (ys := []) hi hb ht.upd; rwa [set_same hi] at this⟩
theorem blen_own {w0 w : World} {L : List Thing} {b c cap : Nat} {xs : List Int} (h : Own w0 w L) (i : Nat) (hi : L[i]? = some (boxT b c cap xs)) :
    Calls Try.prog 21 #[.pointer (some ⟨b, 0, none⟩)] w fun e w' => e = .returned (.int .i64 xs.length) ∧ w = w' := by
  have := len_int (h.box hi)
  rwa [ints_length] at this
theorem ints_mem' {l : List Int} : ∀ u ∈ ints l, ∃ n, u = .int .i64 n := fun u hu => by
  obtain ⟨n, _, rfl⟩ := List.mem_map.1 hu; exact ⟨n, rfl⟩
theorem ball_own {w0 w : World} {L : List Thing} {b c cap : Nat} {xs : List Int} (h : Own w0 w L) (i : Nat) (hi : L[i]? = some (boxT b c cap xs)) (h64 : xs.length ≤ 64) (hcap : xs.length ≤ cap) :
    Calls Try.prog 19 #[.pointer (some ⟨b, 0, none⟩)] w fun e w' => ∃ v, e = .returned v ∧ Own w0 w' (rowT 3 1 v xs.length (ints xs) :: L) := by
  obtain ⟨S, hp, hk⟩ := h.updNew hi
  refine (all_int (h.box hi) (by rw [ints_length]; exact h64) (by rw [ints_length]; exact hcap) ints_mem').mono fun e w' ⟨v, he, hr, hb, hu⟩ => ⟨v, he, ?_⟩
  rw [ints_length] at hr
  have := hk w' (boxT b c cap xs) (rowT 3 1 v xs.length (ints xs)) (fun k => v.ownBlock = some k) (hu.mono fun k _ e => (hp.2 k).2 (.inr e)) ⟨hb, hp.2⟩ ⟨ownsRow_zero hr, fun _ => Iff.rfl⟩ (fun b hb => (hr.lt b hb).1)
  rwa [set_same hi] at this
theorem ints_tk (l : List Int) (k : Nat) : ints (l.take k) = (ints l).take k := by simp [ints, List.map_take]
theorem ints_dr (l : List Int) (k : Nat) : ints (l.drop k) = (ints l).drop k := by simp [ints, List.map_drop]
theorem bmove_own {w0 w : World} {L : List Thing} {b c cap b' c' cap' : Nat} {xs ys : List Int} (h : Own w0 w L) (i j : Nat) (hi : L[i]? = some (boxT b c cap xs)) (hj : L[j]? = some (boxT b' c' cap' ys)) (hij : i ≠ j) (h64 : xs.length ≤ 64) :
    Calls Try.prog 23 #[.pointer (some ⟨b, 0, none⟩), .pointer (some ⟨b', 0, none⟩)] w fun e w' => e = .returned (.int .i64 (moves xs.length ys.length cap')) ∧ Own w0 w' ((L.set i (boxT b c cap (xs.drop (moves xs.length ys.length cap')))).set j (boxT b' c' cap' (ys ++ xs.take (moves xs.length ys.length cap')))) := by
  obtain ⟨S, S', hp, hp', hd, hk⟩ := h.upd2 hi hj hij
  have hbb : b ≠ b' := fun e => hd b ((hp.2 b).2 (.inl rfl)) ((hp'.2 b).2 (.inl e))
  have hcc : c ≠ c' := fun e => hd c ((hp.2 c).2 (.inr rfl)) ((hp'.2 c).2 (.inr e))
  refine (move_int_two hp.1 hp'.1 hbb hcc (by rw [ints_length]; exact h64)).mono fun e w' ⟨he, hx, hy, hu⟩ => ?_
  rw [ints_length, ints_length] at he hx hy
  refine ⟨he, hk w' _ _ (hu.mono fun k _ e => e.imp (fun e => (hp.2 k).2 (.inr e)) (fun e => (hp'.2 k).2 (.inr e))) ⟨by rw [ints_dr]; exact hx, hp.2⟩ ⟨by rw [ints_app, ints_tk]; exact hy, hp'.2⟩⟩
end Go.Proofs.Ytpngaghmojcjnaa
