/- MailOrders answers true. -/
import Derived.Test.YtpngaghmojcjnaaMoved
import Derived.Test.YtpngaghmojcjnaaOpen
import Derived.Deep.CutBlock
import Derived.Deep.DeepCutAuto
namespace Go.Proofs.Ytpngaghmojcjnaa
open Go.RowKit

theorem at4 {α : Type} {a b c d e : α} {L : List α} : (a :: b :: c :: d :: e :: L)[4]? = some e := rfl
theorem two_at {w : World} {A : Option Addr} {os : List (Int × Int)} (h : Holds w A (os.flatMap two)) {k : Nat} {o : Int × Int} (hk : os[k]? = some o) :
    ∃ b f, A = some ⟨b, f, none⟩ ∧ w.cell? ⟨b, f + k * 2, none⟩ = some (.int .i64 o.1) ∧ w.cell? ⟨b, f + k * 2 + 1, none⟩ = some (.int .i64 o.2) := by
  have at_ : ∀ j u, (two o)[j]? = some u → (os.flatMap two)[k * 2 + j]? = some u := fun j u hj => by
    have hj5 : j < 2 := (List.getElem?_eq_some_iff.1 hj).1
    rw [flatMap_at two 2 (by decide) (fun _ => rfl), show (k * 2 + j) / 2 = k by omega, show (k * 2 + j) % 2 = j by omega, hk]
    exact hj
  rcases h with h | ⟨b, f, rfl, h⟩
  · have := at_ 0 _ rfl
    rw [h] at this; simp at this
  · exact ⟨b, f, rfl, h _ _ (at_ 0 _ rfl), h _ _ (at_ 1 _ rfl)⟩
/-- One thing is let go of. -/
theorem Own.erase {w0 w : World} {L : List Thing} (h : Own w0 w L) (i : Nat) : Own w0 w (L.eraseIdx i) := by
  obtain ⟨hb, f, h1, h2, h3⟩ := h
  by_cases hi : i < L.length
  · have s : ∀ j, j < (L.eraseIdx i).length → (if j < i then j else j + 1) < L.length := fun j hj => by
      rw [List.length_eraseIdx_of_lt hi] at hj
      split <;> omega
    refine ⟨hb, fun j => f (if j < i then j else j + 1), fun j R hj => ?_, fun j k b hj hk hfj hfk => ?_, fun j b hj hf => h3 _ b (s j hj) hf⟩
    · rw [List.getElem?_eraseIdx] at hj
      show R.P w (f (if j < i then j else j + 1))
      by_cases hl : j < i
      · rw [if_pos hl] at hj ⊢; exact h1 _ R hj
      · rw [if_neg hl] at hj ⊢; exact h1 _ R hj
    · have := h2 _ _ b (s j hj) (s k hk) hfj hfk
      by_cases h5 : j < i <;> by_cases h6 : k < i <;> simp only [h5, h6, if_true, if_false] at this <;> omega
  · rw [List.eraseIdx_of_length_le (by omega)]; exact ⟨hb, f, h1, h2, h3⟩
def OrdTrue (w : World) (e : Ending) (w' : World) : Prop := e = .returned (.bool true) ∧ Below w.heap.size w w'
set_option maxHeartbeats 16000000 in
set_option maxRecDepth 100000 in
theorem orders_walk (room other : Int) (Ao : Option Addr) (co : Nat) (os : List (Int × Int)) (W : World) (hx : Holds W Ao (os.flatMap two)) (hm : os.length ≤ maxLen) :
    Calls Try.prog 6 #[.int .i64 room, .int .i64 other, .slice Ao os.length co] W (OrdTrue W) := by
  have Hx := Lib.hid hx
  clear hx
  have hm2 : os.length ≤ 9223372036854775807 := by unfold maxLen at hm; omega
  by_cases h60 : 60 < os.length
  · have d1 : decide (60 < os.length) = true := decide_eq_true h60
    have d2 : decide ((60 : Int) < (os.length : Int)) = true := decide_eq_true (by omega)
    clear h60
    go_enter Try.func6, Try.ntmps6
    go_wp2_with fail
    refine (awake _).mono ?_
    rintro e w5 ⟨rfl, hu5⟩
    go_wp2_with fail
    go_ret
    exact ⟨rfl, hu5⟩
  · have d1 : decide (60 < os.length) = false := decide_eq_false h60
    have d2 : decide ((60 : Int) < (os.length : Int)) = false := decide_eq_false (by omega)
    have h61 : os.length ≤ 60 := by omega
    clear h60 hm hm2
    go_enter Try.func6, Try.ntmps6
    go_wp2_with fail
    refine (bnew_own (Own.start W) room).mono ?_
    rintro e w1 ⟨ba, ca, rfl, o1⟩
    go_wp2_with fail
    refine (bnew_own o1 other).mono ?_
    rintro e w2 ⟨bb, cb, rfl, o2⟩
    have hp1 := roomOf_pos room
    have hp2 := roomOf_le room
    have hp3 := roomOf_cast room
    have hq1 := roomOf_pos other
    have hq2 := roomOf_le other
    have hq3 := roomOf_cast other
    generalize roomOf room = p at *
    generalize roomOf other = q at *
    have O2 : Hid (Own W w2 [rowT 3 1 (.slice none 0 0) ([] : List Int).length (ints ([] : List Int)), rowT 3 1 (.slice none 0 0) ([] : List Int).length (ints ([] : List Int)), boxT bb cb q ([] : List Int), boxT ba ca p ([] : List Int)]) := Lib.hid ((o2.nilRow 3 1).nilRow 3 1)
    have HP := Lib.hid hp3
    have HQ := Lib.hid hq3
    clear o1 o2 hp3 hq3
    go_wp2_with fail
    rw [← HP.out, ← HQ.out]
    go_loopw [11, 12, 42] (fun a b i wr => ∃ (k : Nat) (x y : List Int) (vx vy : Value), k ≤ os.length ∧ i = .int .i64 k ∧ vx = a ∧ vy = b ∧ x.length ≤ p ∧ y.length ≤ q ∧ Own W wr [rowT 3 1 vx x.length (ints x), rowT 3 1 vy y.length (ints y), boxT bb cb q y, boxT ba ca p x])
      (fun _ _ i _ => (os.length - intOf i).toNat)
    case atStart => exact ⟨0, [], [], _, _, by omega, rfl, rfl, rfl, by simp, by simp, O2.out⟩
    case round =>
      obtain ⟨k, x, y, vx, vy, hk, rfl, hva, hvb, hxp, hyq, ol⟩ := hrel
      subst hva
      subst hvb
      have OL := Lib.hid ol
      clear ol
      by_cases hlt : k < os.length
      · obtain ⟨o, hos⟩ : ∃ o, os[k]? = some o := ⟨_, List.getElem?_eq_getElem hlt⟩
        obtain ⟨ki, X⟩ := o
        have Hlt := Lib.hid hlt
        obtain ⟨ab, af, rfl, c0, c1⟩ := two_at (Hx.out.below OL.out.below) hos
        dsimp only at c0 c1
        have ik : (k : Int) < os.length := by omega
        obtain ⟨Ax, cx, rfl, -, -⟩ := News.of_owns (OL.out.row (i := 0) rfl)
        obtain ⟨Ay, cy, rfl, -, -⟩ := News.of_owns (OL.out.row (i := 1) rfl)
        clear hos hlt
        go_upto_block 2 with fail
        have o3 : Own W _ [blk wr.heap.size (.cells #[.int .i64 ki, .int .i64 X] 47 (0, 0)), rowT 3 1 (.slice Ax x.length cx) x.length (ints x), rowT 3 1 (.slice Ay y.length cy) y.length (ints y), boxT bb cb q y, boxT ba ca p x] := OL.out.alloc (.cells #[.int .i64 ki, .int .i64 X] 47)
        generalize hBO : wr.heap.size = BO at *
        generalize hw3 : wr.alloc (.cells #[.int .i64 ki, .int .i64 X] 47) = w3 at *
        clear hw3 hBO
        have O3 := Lib.hid o3
        clear o3
        go_cut [11, 12] (fun a b wx => ∃ (x y : List Int) (vx vy : Value), vx = a ∧ vy = b ∧ x.length ≤ p ∧ y.length ≤ q ∧ Own W wx [rowT 3 1 vx x.length (ints x), rowT 3 1 vy y.length (ints y), boxT bb cb q y, boxT ba ca p x])
        case rest =>
          clear c0 c1
          obtain ⟨x, y, vx, vy, hva, hvb, hxp, hyq, oc⟩ := hcut
          subst hva
          subst hvb
          obtain ⟨Ax, cx, rfl, -, -⟩ := News.of_owns (oc.row (i := 0) rfl)
          obtain ⟨Ay, cy, rfl, -, -⟩ := News.of_owns (oc.row (i := 1) rfl)
          have OC := Lib.hid oc
          clear oc
          go_wp2_with fail
          refine (blen_own OC.out 3 rfl).mono ?_
          rintro e w8 ⟨rfl, rfl⟩
          have hs1 : ((x.length : Int) != (x.length : Int)) = false := by simp
          have hs2 : ((y.length : Int) != (y.length : Int)) = false := by simp
          go_wp2_with fail
          refine (blen_own OC.out 2 rfl).mono ?_
          rintro e w9 ⟨rfl, rfl⟩
          go_wp2_with fail
          refine ⟨⟨k + 1, x, y, _, _, by have := Hlt.out; omega, by simp, rfl, rfl, hxp, hyq, OC.out⟩, ?_⟩
          have := Hlt.out
          simp only [intOf]; omega
        case first =>
          clear c0 c1 ik
          have hop := O3.out.blk (i := 0) rfl
          have p0 := cell_of_heap (o := 0) hop
          have p1 := cell_of_heap (o := 1) hop
          simp only [List.getElem?_toArray, List.getElem?_cons_zero, List.getElem?_cons_succ] at p0 p1
          have lp := lt_of_heap hop
          clear hop
          by_cases hk0 : ki = 0
          · subst hk0
            by_cases hr : x.length < p
            · have hd1 : decide (x.length < p) = true := decide_eq_true hr
              have hd2 : decide ((x.length : Int) < (p : Int)) = true := decide_eq_true (by omega)
              go_wp2_with fail
              refine (bput_own O3.out 4 rfl X hr).mono ?_
              rintro e w4 ⟨rfl, o4⟩
              have O4 := Lib.hid o4
              clear o4 p0 p1 lp hr
              have hop := O4.out.blk (i := 0) rfl
              have p0 := cell_of_heap (o := 0) hop
              have p1 := cell_of_heap (o := 1) hop
              simp only [List.getElem?_toArray, List.getElem?_cons_zero, List.getElem?_cons_succ] at p0 p1
              have lp := lt_of_heap hop
              clear hop
              have O5 := Lib.hid (O4.out.alloc (.cells #[.int .i64 X] 3))
              go_wp2_with (at_builtin; go_loud (refine wpList_ocat O5.out rfl (.tmp 61) (.tmp 64) 26 rfl 3 (.int .i64 0) 1 8 rfl einfo_int rfl (by decide) (.slice Ax x.length cx) x.length (ints x) rfl 2 rfl (some ⟨w4.heap.size, 0, none⟩) 1 1 [.int .i64 X] rfl (News.block (cs := [.int .i64 X]) (new_at rfl) rfl) (by simp [Value.oneCell']) (by unfold maxLen; omega) (by omega) ?_))
              intro v6 w6 o6
              try dsimp only [List.set] at o6
              have o7 := (Own.castRow (i := 2) (n' := (x ++ [X]).length) (xs' := ints (x ++ [X])) o6 rfl (by simp) (by simp [ints])).tail.tail
              have O7 := Lib.hid o7
              clear o6 o7 p0 p1 lp
              go_wp2_with fail
              go_meet
              exact ⟨x ++ [X], y, _, _, rfl, rfl, by rw [List.length_append]; simp at hd1 ⊢; omega, hyq, O7.out⟩
            · have hd1 : decide (x.length < p) = false := decide_eq_false hr
              have hd2 : decide ((x.length : Int) < (p : Int)) = false := decide_eq_false (by omega)
              go_wp2_with fail
              refine (bputf_own O3.out 4 rfl X (by omega)).mono ?_
              rintro e w4 ⟨rfl, o4⟩
              have O4 := Lib.hid o4
              clear o4 p0 p1 lp
              go_wp2_with fail
              go_meet
              exact ⟨x, y, _, _, rfl, rfl, hxp, hyq, O4.out.tail⟩
          · have he0 : (ki == 0) = false := by simpa using hk0
            by_cases hk1 : ki = 1
            · subst hk1
              cases x with
              | nil =>
                go_wp2_with fail
                refine (btaken_own O3.out 4 rfl).mono ?_
                rintro e w4 ⟨rfl, o4⟩
                have O4 := Lib.hid o4
                clear o4 p0 p1 lp
                go_wp2_with fail
                go_meet
                exact ⟨[], y, _, _, rfl, rfl, hxp, hyq, O4.out.tail⟩
              | cons a x =>
                go_wp2_with fail
                refine (btake_own O3.out 4 rfl).mono ?_
                rintro e w4 ⟨rfl, o4⟩
                have hrow : w4.ownsRow 0 3 1 (.slice Ax (a :: x).length cx) (a :: x).length (ints (a :: x)) := o4.row (i := 1) rfl
                obtain ⟨g, cc, hv, -, hgl⟩ := hrow.form (by simp)
                simp only [Value.slice.injEq, true_and] at hv
                obtain ⟨rfl, rfl⟩ := hv
                have hcap : x.length + 1 ≤ cx := by
                  rcases hrow.2 with ⟨h, _⟩ | ⟨g', cap', cur, h, _, _, h2, _⟩
                  · simp at h
                  · simp only [Value.slice.injEq] at h; simp only [List.length_cons] at h2; omega
                have hc0 := hrow.cells (g := g) rfl 0 (.int .i64 a) rfl
                have hc0 : w4.cell? ⟨g, 0, none⟩ = some (.int .i64 a) := by simpa [Addr.add] using hc0
                have hh := holds_owns hrow
                have hself : (a != a) = false := by simp
                have hself2 : (a == a) = true := by simp
                have O4 := Lib.hid o4
                have O5 := Lib.hid (O4.out.newE 3 1)
                have Hh := Lib.hid hh
                clear o4 p0 p1 lp hrow hh
                have h1c : 1 ≤ cx := by omega
                by_cases hc1 : cx = 1
                · have hxn : x = [] := List.eq_nil_of_length_eq_zero (by omega)
                  subst hxn
                  subst hc1
                  go_wp2_with (at_builtin; go_loud (refine wpList_ocat O5.out rfl (.tmp 99) (.tmp 101) 26 rfl 3 (.int .i64 0) 1 8 rfl einfo_int rfl (by decide) (.slice (some ⟨w4.heap.size, 0, none⟩) 0 0) 0 [] rfl 0 rfl _ _ _ (ints []) rfl (news_nil _) ints_one (by unfold maxLen; omega) (by omega) ?_))
                  intro v6 w6 o6
                  try dsimp only [List.set] at o6
                  have o7 := (Own.castRow (i := 0) (n' := ([] : List Int).length) (xs' := ints []) o6 rfl (by simp) (by simp [ints])).swap.tail.swap.tail
                  have O7 := Lib.hid o7
                  clear o6 o7
                  go_wp2_with fail
                  go_meet
                  exact ⟨[], y, _, _, rfl, rfl, by simp, hyq, O7.out⟩
                · have hc2 : ¬ 1 = cx := fun e => hc1 e.symm
                  have HN : Hid (News w4 (some ⟨g, 1, none⟩) 1 x.length (ints x)) := Lib.hid (by simpa using news_drop0 Hh.out 1 (by simp))
                  have hx63 : x.length ≤ 64 := by simp only [List.length_cons] at hxp; omega
                  go_wp2_with (at_builtin; go_loud (refine wpList_ocat O5.out rfl (.tmp 99) (.tmp 101) 26 rfl 3 (.int .i64 0) 1 8 rfl einfo_int rfl (by decide) (.slice (some ⟨w4.heap.size, 0, none⟩) 0 0) 0 [] rfl 0 rfl (some ⟨g, 1, none⟩) x.length _ (ints x) rfl (HN.out.upd ((Below.refl _ _).alloc (Nat.le_refl _) _) (by rintro ad ⟨⟩; exact hgl)) ints_one (by unfold maxLen; omega) (by omega) ?_))
                  intro v6 w6 o6
                  try dsimp only [List.set] at o6
                  have o7 := (Own.castRow (i := 0) (n' := x.length) (xs' := ints x) o6 rfl (by simp) (by simp)).swap.tail.swap.tail
                  have O7 := Lib.hid o7
                  clear o6 o7
                  go_wp2_with fail
                  go_meet
                  exact ⟨x, y, _, _, rfl, rfl, by simp only [List.length_cons] at hxp; omega, hyq, O7.out⟩
            · have he1 : (ki == 1) = false := by simpa using hk1
              by_cases hk2 : ki = 2
              · subst hk2
                go_wp2_with fail
                refine (ball_own O3.out 4 rfl (by omega) (by omega)).mono ?_
                rintro e wa1 ⟨va1, rfl, oa1⟩
                obtain ⟨Aa1, ca1, rfl, -⟩ := holds_of_owns (oa1.row (i := 0) rfl)
                have OA1 := Lib.hid oa1
                clear oa1
                go_wp2_with fail
                refine (same_any (xs := x) (ys := x) _ _ (holds_owns (OA1.out.row (i := 0) rfl)) (holds_owns (OA1.out.row (i := 2) rfl)) (by omega)).mono ?_
                rintro e wb1 ⟨rfl, m1, rfl⟩
                rw [decide_eq_true (rfl : x = x)]
                have OB1 := Lib.hid (OA1.out.drewN m1)
                go_wp2_with fail
                refine (ball_own OB1.out 4 rfl (by omega) (by omega)).mono ?_
                rintro e wa2 ⟨va2, rfl, oa2⟩
                obtain ⟨Aa2, ca2, rfl, -⟩ := holds_of_owns (oa2.row (i := 0) rfl)
                have OA2 := Lib.hid oa2
                clear oa2
                go_wp2_with fail
                refine (same_any (xs := y) (ys := y) _ _ (holds_owns (OA2.out.row (i := 0) rfl)) (holds_owns (OA2.out.row (i := 4) rfl)) (by omega)).mono ?_
                rintro e wb2 ⟨rfl, m2, rfl⟩
                rw [decide_eq_true (rfl : y = y)]
                have OB2 := Lib.hid (OA2.out.drewN m2)
                go_wp2_with fail
                go_meet
                exact ⟨x, y, _, _, rfl, rfl, hxp, hyq, OB2.out.tail.tail.tail⟩
              · have he2 : (ki == 2) = false := by simpa using hk2
                by_cases hk3 : ki = 3
                · subst hk3
                  go_wp2_with fail
                  refine (moved_own O3.out 1 2 rfl rfl q (by omega) hyq hq2).mono ?_
                  rintro e w4 ⟨v4, v5, rfl, o4⟩
                  obtain ⟨x2, hx2⟩ : ∃ z, z = x.drop (moves x.length y.length q) := ⟨_, rfl⟩
                  obtain ⟨y2, hy2⟩ : ∃ z, z = y ++ x.take (moves x.length y.length q) := ⟨_, rfl⟩
                  rw [← hx2, ← hy2] at o4
                  have HXY := Lib.hid (And.intro hx2 hy2)
                  clear hx2 hy2
                  have O4 := Lib.hid o4
                  obtain ⟨A4, c4, rfl, -, -⟩ := News.of_owns (o4.row (i := 0) rfl)
                  obtain ⟨A5, c5, rfl, -, -⟩ := News.of_owns (o4.row (i := 1) rfl)
                  clear o4 p0 p1 lp
                  have hself : (((moves x.length y.length q : Nat) : Int) != ((moves x.length y.length q : Nat) : Int)) = false := by simp
                  go_wp2_with fail
                  refine (bmove_own O4.out 6 5 rfl rfl (by decide) (by omega)).mono ?_
                  rintro e w5 ⟨rfl, o5⟩
                  rw [← HXY.out.1, ← HXY.out.2] at o5
                  have O5 : Hid (Own W w5 [rowT 3 1 (.slice A4 x2.length c4) (x2).length (ints (x2)), rowT 3 1 (.slice A5 y2.length c5) (y2).length (ints (y2)), boxT bb cb q (y2), boxT ba ca p (x2)]) := Lib.hid (((o5.erase 2).erase 2).erase 2)
                  clear o5
                  go_wp2_with fail
                  go_meet
                  exact ⟨x2, y2, _, _, rfl, rfl, by rw [HXY.out.1, List.length_drop]; omega, by rw [HXY.out.2, List.length_append, List.length_take]; unfold moves; omega, O5.out⟩
                · have he3 : (ki == 3) = false := by simpa using hk3
                  by_cases hk4 : ki = 4
                  · subst hk4
                    go_wp2_with fail
                    refine (moved_own O3.out 2 1 rfl rfl p (by omega) hxp hp2).mono ?_
                    rintro e w4 ⟨v4, v5, rfl, o4⟩
                    obtain ⟨y2, hy2⟩ : ∃ z, z = y.drop (moves y.length x.length p) := ⟨_, rfl⟩
                    obtain ⟨x2, hx2⟩ : ∃ z, z = x ++ y.take (moves y.length x.length p) := ⟨_, rfl⟩
                    rw [← hx2, ← hy2] at o4
                    have HXY := Lib.hid (And.intro hx2 hy2)
                    clear hx2 hy2
                    have O4 := Lib.hid o4
                    obtain ⟨A4, c4, rfl, -, -⟩ := News.of_owns (o4.row (i := 0) rfl)
                    obtain ⟨A5, c5, rfl, -, -⟩ := News.of_owns (o4.row (i := 1) rfl)
                    clear o4 p0 p1 lp
                    have hself : (((moves y.length x.length p : Nat) : Int) != ((moves y.length x.length p : Nat) : Int)) = false := by simp
                    go_wp2_with fail
                    refine (bmove_own O4.out 5 6 rfl rfl (by decide) (by omega)).mono ?_
                    rintro e w5 ⟨rfl, o5⟩
                    rw [← HXY.out.1, ← HXY.out.2] at o5
                    have O5 : Hid (Own W w5 [rowT 3 1 (.slice A5 x2.length c5) (x2).length (ints (x2)), rowT 3 1 (.slice A4 y2.length c4) (y2).length (ints (y2)), boxT bb cb q (y2), boxT ba ca p (x2)]) := Lib.hid (((o5.erase 2).erase 2).erase 2).swap
                    clear o5
                    go_wp2_with fail
                    go_meet
                    exact ⟨x2, y2, _, _, rfl, rfl, by rw [HXY.out.1, List.length_append, List.length_take]; unfold moves; omega, by rw [HXY.out.2, List.length_drop]; omega, O5.out⟩
                  · have he4 : (ki == 4) = false := by simpa using hk4
                    clear hk0 hk1 hk2 hk3 hk4
                    go_wp2_with fail
                    go_meet
                    exact ⟨x, y, _, _, rfl, rfl, hxp, hyq, O3.out.tail⟩
      · obtain rfl : k = os.length := by omega
        obtain ⟨Ax, cx, rfl, -, -⟩ := News.of_owns (OL.out.row (i := 0) rfl)
        obtain ⟨Ay, cy, rfl, -, -⟩ := News.of_owns (OL.out.row (i := 1) rfl)
        go_wp2_with fail
        refine (ball_own OL.out 3 rfl (by omega) (by omega)).mono ?_
        rintro e wa1 ⟨va1, rfl, oa1⟩
        obtain ⟨Aa1, ca1, rfl, -⟩ := holds_of_owns (oa1.row (i := 0) rfl)
        have OA1 := Lib.hid oa1
        clear oa1
        go_wp2_with fail
        refine (same_any (xs := x) (ys := x) _ _ (holds_owns (OA1.out.row (i := 0) rfl)) (holds_owns (OA1.out.row (i := 1) rfl)) (by omega)).mono ?_
        rintro e wb1 ⟨rfl, m1, rfl⟩
        rw [decide_eq_true (rfl : x = x)]
        have OB1 := Lib.hid (OA1.out.drewN m1)
        go_wp2_with fail
        refine (ball_own OB1.out 3 rfl (by omega) (by omega)).mono ?_
        rintro e wa2 ⟨va2, rfl, oa2⟩
        obtain ⟨Aa2, ca2, rfl, -⟩ := holds_of_owns (oa2.row (i := 0) rfl)
        have OA2 := Lib.hid oa2
        clear oa2
        go_wp2_with fail
        refine (same_any (xs := y) (ys := y) _ _ (holds_owns (OA2.out.row (i := 0) rfl)) (holds_owns (OA2.out.row (i := 3) rfl)) (by omega)).mono ?_
        rintro e wb2 ⟨rfl, m2, rfl⟩
        rw [decide_eq_true (rfl : y = y)]
        have OB2 := Lib.hid (OA2.out.drewN m2)
        go_wp2_with fail
        refine (move_int_self ba _).mono ?_
        rintro e w8 ⟨rfl, rfl⟩
        go_wp2_with fail
        refine (move_int_nil _ _).mono ?_
        rintro e w9 ⟨rfl, rfl⟩
        go_wp2_with fail
        refine (awake _).mono ?_
        rintro e w10 ⟨rfl, b10⟩
        go_wp2_with fail
        go_ret
        exact ⟨rfl, (OB2.out.call b10).below⟩
end Go.Proofs.Ytpngaghmojcjnaa
