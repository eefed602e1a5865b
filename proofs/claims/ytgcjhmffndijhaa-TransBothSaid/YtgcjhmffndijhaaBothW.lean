/- TransBoth answers true. -/
import Derived.Test.YtgcjhmffndijhaaAwake13
import Derived.Test.YtgcjhmffndijhaaBoth
import Derived.Deep.CutBlock
import Derived.Deep.DeepCutAuto
namespace Go.Proofs.Ytgcjhmffndijhaa
open Go.RowKit

def opObj (k x : Int) : Obj := .cells #[.int .i64 k, .int .i64 x] 52 (0, 0)
def BothTrue (w : World) (e : Ending) (w' : World) : Prop := e = .returned (.bool true) ∧ Below w.heap.size w w'
set_option maxHeartbeats 3200000 in
set_option maxRecDepth 100000 in
theorem both_walk (Ax : Option Addr) (cx : Nat) (xs : List Nd) (k m : Int) (Ao : Option Addr) (co : Nat) (os : List (Int × Int)) (w : World) (hx : Holds w Ax (xs.flatMap Nd.cells)) (hmx : xs.length ≤ maxLen) (hu : ∀ x ∈ xs, x.u64) (ho : Holds w Ao (os.flatMap two)) (hmo : os.length ≤ maxLen) :
    Calls Try.prog 5 #[.slice Ax xs.length cx, .int .i64 k, .int .i64 m, .slice Ao os.length co] w (BothTrue w) := by
  have Hx := Lib.hid hx
  have Ho := Lib.hid ho
  have Hu := Lib.hid hu
  clear hx ho hu
  have hmx2 : xs.length ≤ 9223372036854775807 := by unfold maxLen at hmx; omega
  have hmo2 : os.length ≤ 9223372036854775807 := by unfold maxLen at hmo; omega
  by_cases hbad : 30 < xs.length ∨ 30 < os.length
  · have hd : (decide (30 < xs.length) = true ∧ decide ((30 : Int) < (xs.length : Int)) = true) ∨ ((decide (30 < xs.length) = false ∧ decide ((30 : Int) < (xs.length : Int)) = false) ∧ decide (30 < os.length) = true ∧ decide ((30 : Int) < (os.length : Int)) = true) := by
      by_cases h1 : 30 < xs.length
      · exact .inl ⟨decide_eq_true h1, decide_eq_true (by omega)⟩
      · exact .inr ⟨⟨decide_eq_false h1, decide_eq_false (by omega)⟩, decide_eq_true (by omega), decide_eq_true (by omega)⟩
    clear hbad
    rcases hd with ⟨d1, d2⟩ | ⟨⟨d1, d2⟩, d3, d4⟩
    all_goals
      go_enter Try.func5, Try.ntmps5
      go_wp2_with fail
      refine (awake _).mono ?_
      rintro e w9 ⟨rfl, b9⟩
      go_wp2_with fail
      go_ret
      exact ⟨rfl, b9⟩
  · have d1 : decide (30 < xs.length) = false := decide_eq_false (by omega)
    have d2 : decide ((30 : Int) < (xs.length : Int)) = false := decide_eq_false (by omega)
    have d3 : decide (30 < os.length) = false := decide_eq_false (by omega)
    have d4 : decide ((30 : Int) < (os.length : Int)) = false := decide_eq_false (by omega)
    have hl : xs.length ≤ 30 := by omega
    have hlo : os.length ≤ 30 := by omega
    clear hbad
    go_enter Try.func5, Try.ntmps5
    go_wp2_with fail
    refine (built_calls w 500 Ax cx xs Hx.out (by omega) Hu.out).mono ?_
    rintro e w1 ⟨r, g, cap, rfl, o1⟩
    have O1 : Hid (Own w w1 [arena r (bA 500 xs)]) := Lib.hid o1.tail
    obtain ⟨S, hA⟩ := O1.out.arena (i := 0) rfl
    have Hw := Lib.hid (show Wf (bA 500 xs).l by obtain ⟨_, _, _, h, _⟩ := hA; exact h.wf)
    have hst := fun hk hm => both_start hl Hw.out (k := k) (m := m) hk hm
    have Hst := Lib.hid hst
    clear hst o1 hA
    generalize bA 500 xs = A at *
    simp only [refV]
    go_wp2_with fail
    have oa := O1.out.call (below2 w1 (.cells #[.int .i64 A.limit, .slice (some ⟨g, 0, none⟩) A.l.length cap] 46) (.cells #[.int .i64 k, .int .i64 m] 3))
    obtain ⟨S, hA⟩ := oa.arena (i := 0) rfl
    have hnew := two_new w1 (.cells #[.int .i64 A.limit, .slice (some ⟨g, 0, none⟩) A.l.length cap] 46) (.cells #[.int .i64 k, .int .i64 m] 3)
    refine (has_two (x := k) (y := m) hA (cell_of_heap hnew.2) (cell_of_heap hnew.2)).mono ?_
    rintro e w2 ⟨rfl, b2⟩
    have O2 : Hid (Own w w2 [arena r A]) := Lib.hid (oa.call b2)
    clear oa hA hnew b2
    cases hhas : (has A.l k && has A.l m) with
    | false =>
      go_wp2_with fail
      refine (awake _).mono ?_
      rintro e w9 ⟨rfl, b9⟩
      go_wp2_with fail
      go_ret
      exact ⟨rfl, (O2.out.call b9).below⟩
    | true =>
      simp only [Bool.and_eq_true] at hhas
      have Hi := Lib.hid (Hst.out hhas.1 hhas.2)
      clear hhas Hst
      go_wp2_with fail
      refine (cNew_calls k _).mono ?_
      rintro e w4 ⟨rfl, b4⟩
      have O4 : Hid (Own w w4 [arena r A]) := Lib.hid (O2.out.call b4)
      clear b4
      go_wp2_with fail
      refine (cNew_calls m _).mono ?_
      rintro e w5 ⟨rfl, b5⟩
      have o5 : Own w _ [blk w5.heap.size (trObj ⟨⟨k, true, 0⟩, ⟨m, true, 0⟩⟩), arena r A] := (O4.out.call b5).alloc (trObj ⟨⟨k, true, 0⟩, ⟨m, true, 0⟩⟩)
      have O5 := Lib.hid o5
      clear b5 o5
      simp only [Ci.val]
      go_wp2_with fail
      refine (turned_calls ⟨⟨k, true, 0⟩, ⟨m, true, 0⟩⟩ _).mono ?_
      rintro e w6 ⟨rfl, b6⟩
      have o6 : Own w _ [blk w6.heap.size (trObj ⟨⟨m, true, 0⟩, ⟨k, true, 0⟩⟩), blk w5.heap.size (trObj ⟨⟨k, true, 0⟩, ⟨m, true, 0⟩⟩), arena r A] := (O5.out.call b6).alloc (trObj ⟨⟨m, true, 0⟩, ⟨k, true, 0⟩⟩)
      have O6 := Lib.hid o6
      clear b6 o6
      simp only [Tr.turned, Tr.val]
      go_wp2_with fail
      generalize w5.heap.size = B at *
      generalize w6.heap.size = C at *
      go_loopw [68] (fun i wr => ∃ (s : Nat) (A : Ar) (key n key2 n2 : Int), s ≤ os.length ∧ i = .int .i64 s ∧ BothInv A ⟨⟨key, true, n⟩, ⟨key2, true, n2⟩⟩ s ∧ Own w wr [blk C (trObj ⟨⟨key2, true, n2⟩, ⟨key, true, n⟩⟩), blk B (trObj ⟨⟨key, true, n⟩, ⟨key2, true, n2⟩⟩), arena r A])
        (fun i _ => (os.length - intOf i).toNat)
      case atStart => exact ⟨0, A, k, 0, m, 0, by omega, rfl, Hi.out, O6.out⟩
      case round =>
        clear O6 Hi O5 O4 O2 O1 Hw
        obtain ⟨s, A, key, n, key2, n2, hsl, rfl, hinv, ol⟩ := hrel
        have OL := Lib.hid ol
        have Hinv := Lib.hid hinv
        clear ol hinv
        by_cases hlt : s < os.length
        · obtain ⟨o, hos⟩ : ∃ o, os[s]? = some o := ⟨_, List.getElem?_eq_getElem hlt⟩
          obtain ⟨ki, X⟩ := o
          have Hs := Lib.hid (show s < os.length ∧ s < 30 by omega)
          obtain ⟨ab, af, rfl, c0, c1⟩ := two_at (Ho.out.below OL.out.below) hos
          dsimp only at c0 c1
          have ik : (s : Int) < os.length := by omega
          clear hos
          go_wp2_with fail
          have oa : Own w _ [blk wr.heap.size (opObj ki X), blk C (trObj ⟨⟨key2, true, n2⟩, ⟨key, true, n⟩⟩), blk B (trObj ⟨⟨key, true, n⟩, ⟨key2, true, n2⟩⟩), arena r A] := (OL.out.alloc (opObj ki X)).call ((Below.refl _ _).alloc (Nat.le_refl _) (.cells #[.int .i64 X] 3))
          obtain ⟨S, hA⟩ := oa.arena (i := 3) rfl
          have hnew := two_new wr (opObj ki X) (.cells #[.int .i64 X] 3)
          refine (has_one (x := X) hA (cell_of_heap hnew.2)).mono ?_
          rintro e w7 ⟨rfl, b7⟩
          have O7 : Hid (Own w w7 [blk wr.heap.size (opObj ki X), blk C (trObj ⟨⟨key2, true, n2⟩, ⟨key, true, n⟩⟩), blk B (trObj ⟨⟨key, true, n⟩, ⟨key2, true, n2⟩⟩), arena r A]) := Lib.hid (oa.call b7)
          clear oa hA hnew b7 c0 c1
          generalize wr.heap.size = BO at *
          cases hX : has A.l X with
          | false =>
            go_wp2_with fail
            refine ⟨⟨s + 1, A, key, n, key2, n2, by omega, by simp, Hinv.out.more, O7.out.tail⟩, ?_⟩
            simp only [intOf]; omega
          | true =>
            have hop := O7.out.blk (i := 0) rfl
            have p0 := cell_of_heap (o := 0) hop
            have p1 := cell_of_heap (o := 1) hop
            simp only [List.getElem?_toArray, List.getElem?_cons_zero, List.getElem?_cons_succ] at p0 p1
            have lp := lt_of_heap hop
            clear hop
            go_upto_block 2 with fail
            go_cut [] (fun wx => ∃ (A' : Ar) (a b c d : Int), BothInv A' ⟨⟨a, true, b⟩, ⟨c, true, d⟩⟩ (s + 1) ∧ Own w wx [blk BO (opObj ki X), blk C (trObj ⟨⟨c, true, d⟩, ⟨a, true, b⟩⟩), blk B (trObj ⟨⟨a, true, b⟩, ⟨c, true, d⟩⟩), arena r A'])
            case rest =>
              clear p0 p1 lp
              obtain ⟨A', a, b, c, d, hinv2, hcut⟩ := hcut
              have Hinv2 := Lib.hid hinv2
              clear hinv2
              have OF := Lib.hid hcut
              have hc := hcut.blk (i := 1) rfl
              have lc := lt_of_heap hc
              have fc := fun o => frozen_of_heap (o := o) hc
              obtain ⟨c0, c1, c2, c3, c4, c5⟩ := TrAt.cells hc
              dsimp only at c0 c1 c2 c3 c4 c5
              clear hc
              have hb := hcut.blk (i := 2) rfl
              have lb := lt_of_heap hb
              have fb := fun o => frozen_of_heap (o := o) hb
              obtain ⟨b0, b1, b2, b3, b4, b5⟩ := TrAt.cells hb
              dsimp only at b0 b1 b2 b3 b4 b5
              clear hb
              clear hcut fb fc
              go_wp2_with fail
              go_region_held3 (fun w' => w'.cell? ⟨C, 0, none⟩ = some (.int .i64 c) ∧ w'.cell? ⟨C, 1, none⟩ = some (.bool true) ∧ w'.cell? ⟨C, 2, none⟩ = some (.int .u64 (d)) ∧ w'.cell? ⟨C, 3, none⟩ = some (.int .i64 a) ∧ w'.cell? ⟨C, 4, none⟩ = some (.bool true) ∧ w'.cell? ⟨C, 5, none⟩ = some (.int .u64 (b))
                  ∧ w'.cell? ⟨B, 0, none⟩ = some (.int .i64 a) ∧ w'.cell? ⟨B, 1, none⟩ = some (.bool true) ∧ w'.cell? ⟨B, 2, none⟩ = some (.int .u64 (b)) ∧ w'.cell? ⟨B, 3, none⟩ = some (.int .i64 c) ∧ w'.cell? ⟨B, 4, none⟩ = some (.bool true) ∧ w'.cell? ⟨B, 5, none⟩ = some (.int .u64 (d)))
                (first | go_keep)
                (first | (go_at_call 17; refine (turned_calls ⟨⟨a, true, b⟩, ⟨c, true, d⟩⟩ _).mono ?_; rintro e w11 ⟨rfl, b11⟩
                          have o11 := OF.out.drew.call b11
                          obtain ⟨x0, x1, x2, x3, x4, x5⟩ := TrAt.cells (o11.blk (i := 1) rfl)
                          obtain ⟨y0, y1, y2, y3, y4, y5⟩ := TrAt.cells (o11.blk (i := 2) rfl)
                          dsimp only at x0 x1 x2 x3 x4 x5 y0 y1 y2 y3 y4 y5
                          simp only [Tr.val, Tr.turned]))
              have O11 := Lib.hid o11
              clear o11
              go_wp2_with fail
              refine ⟨⟨s + 1, A', a, b, c, d, by have := Hs.out; omega, by simp, Hinv2.out, O11.out.tail⟩, ?_⟩
              have := Hs.out
              simp only [intOf]; omega
            case first =>
             clear p0 p1 lp
             by_cases hk0 : ki = 0
             · subst hk0
               obtain ⟨A', x, e1, e2, e3, hinv2⟩ := both_seal' (key := key) (n := n) (key2 := key2) (n2 := n2) Hinv.out Hs.out.2 hX
               have Hinv2 := Lib.hid hinv2
               have hn : 0 ≤ n ∧ n ≤ (s : Int) := (Hinv.out).sn
               have hs30 := Hs.out.2
               have Hn := Lib.hid hn
               clear hinv2 hn
               have hb := O7.out.blk (i := 2) rfl
               have lb := lt_of_heap hb
               have fb := fun o => frozen_of_heap (o := o) hb
               obtain ⟨b0, b1, b2, b3, b4, b5⟩ := TrAt.cells hb
               dsimp only at b0 b1 b2 b3 b4 b5
               clear hb
               have hop := O7.out.blk (i := 0) rfl
               have p0 := cell_of_heap (o := 0) hop
               have p1 := cell_of_heap (o := 1) hop
               simp only [List.getElem?_toArray, List.getElem?_cons_zero, List.getElem?_cons_succ] at p0 p1
               have lp := lt_of_heap hop
               clear hop
               go_wp2_with fail
               refine (tSeal_own O7.out 3 rfl ⟨⟨key, true, n⟩, ⟨key2, true, n2⟩⟩ X (by have := Hn.out; dsimp only; omega) (by have := Hn.out; dsimp only; omega)).mono ?_
               rintro e w8 ⟨rfl, o8⟩
               rw [e1] at o8 ⊢
               have O8 : Hid (Own w w8 [blk BO (opObj 0 X), blk C (trObj ⟨⟨key2, true, n2⟩, ⟨key, true, n⟩⟩), blk B (trObj ⟨⟨key, true, n⟩, ⟨key2, true, n2⟩⟩), arena r A']) := Lib.hid o8
               clear o8 e1 p0 p1 lp
               clear lb fb b0 b1 b2 b3 b4 b5
               simp only [Tr.val]
               have hc := O8.out.blk (i := 1) rfl
               have lc := lt_of_heap hc
               have fc := fun o => frozen_of_heap (o := o) hc
               obtain ⟨c0, c1, c2, c3, c4, c5⟩ := TrAt.cells hc
               dsimp only at c0 c1 c2 c3 c4 c5
               clear hc
               have hop := O8.out.blk (i := 0) rfl
               have p0 := cell_of_heap (o := 0) hop
               have p1 := cell_of_heap (o := 1) hop
               simp only [List.getElem?_toArray, List.getElem?_cons_zero, List.getElem?_cons_succ] at p0 p1
               have lp := lt_of_heap hop
               clear hop
               go_wp2_with fail
               have O8u : Hid (Own w _ [blk w8.heap.size (trObj ⟨⟨key, true, n + 1⟩, ⟨key2, true, n2⟩⟩), blk BO (opObj 0 X), blk C (trObj ⟨⟨key2, true, n2⟩, ⟨key, true, n⟩⟩), blk B (trObj ⟨⟨key, true, n⟩, ⟨key2, true, n2⟩⟩), arena r A']) := Lib.hid (O8.out.alloc (trObj ⟨⟨key, true, n + 1⟩, ⟨key2, true, n2⟩⟩))
               refine (tOpen_own O8u.out 4 rfl ⟨⟨key2, true, n2⟩, ⟨key, true, n⟩⟩ x (by have := Hn.out; dsimp only; omega) (by have := Hn.out; dsimp only; omega)).mono ?_
               rintro e w9 ⟨rfl, o9⟩
               rw [e2]
               have O9 : Hid (Own w w9 [blk w8.heap.size (trObj ⟨⟨key, true, n + 1⟩, ⟨key2, true, n2⟩⟩), blk BO (opObj 0 X), blk C (trObj ⟨⟨key2, true, n2⟩, ⟨key, true, n⟩⟩), blk B (trObj ⟨⟨key, true, n⟩, ⟨key2, true, n2⟩⟩), arena r A']) := Lib.hid o9
               clear o9 e2 p0 p1 lp
               clear lc fc c0 c1 c2 c3 c4 c5
               simp only [Tr.val]
               go_wp2_with fail
               have O9v : Hid (Own w _ [blk w9.heap.size (trObj ⟨⟨key2, true, n2⟩, ⟨key, true, n + 1⟩⟩), blk w8.heap.size (trObj ⟨⟨key, true, n + 1⟩, ⟨key2, true, n2⟩⟩), blk BO (opObj 0 X), blk C (trObj ⟨⟨key2, true, n2⟩, ⟨key, true, n⟩⟩), blk B (trObj ⟨⟨key, true, n⟩, ⟨key2, true, n2⟩⟩), arena r A']) := Lib.hid (O9.out.alloc (trObj ⟨⟨key2, true, n2⟩, ⟨key, true, n + 1⟩⟩))
               refine (tOpen_own O9v.out 5 rfl ⟨⟨key2, true, n2⟩, ⟨key, true, n + 1⟩⟩ x (by have := Hn.out; dsimp only; omega) (by have := Hn.out; dsimp only; omega)).mono ?_
               rintro e w10 ⟨rfl, o10⟩
               rw [e3]
               have O10 : Hid (Own w w10 [blk w9.heap.size (trObj ⟨⟨key2, true, n2⟩, ⟨key, true, n + 1⟩⟩), blk w8.heap.size (trObj ⟨⟨key, true, n + 1⟩, ⟨key2, true, n2⟩⟩), blk BO (opObj 0 X), blk C (trObj ⟨⟨key2, true, n2⟩, ⟨key, true, n⟩⟩), blk B (trObj ⟨⟨key, true, n⟩, ⟨key2, true, n2⟩⟩), arena r A']) := Lib.hid o10
               clear o10 e3
               simp only [Tr.val]
               have hop := O10.out.blk (i := 2) rfl
               have p0 := cell_of_heap (o := 0) hop
               have p1 := cell_of_heap (o := 1) hop
               simp only [List.getElem?_toArray, List.getElem?_cons_zero, List.getElem?_cons_succ] at p0 p1
               have lp := lt_of_heap hop
               clear hop
               have hv := O10.out.blk (i := 0) rfl
               have lv := lt_of_heap hv
               have fv := fun o => frozen_of_heap (o := o) hv
               obtain ⟨v0, v1, v2, v3, v4, v5⟩ := TrAt.cells hv
               dsimp only at v0 v1 v2 v3 v4 v5
               clear hv
               have hu := O10.out.blk (i := 1) rfl
               have lu := lt_of_heap hu
               have fu := fun o => frozen_of_heap (o := o) hu
               obtain ⟨u0, u1, u2, u3, u4, u5⟩ := TrAt.cells hu
               dsimp only at u0 u1 u2 u3 u4 u5
               clear hu
               have hc := O10.out.blk (i := 3) rfl
               have lc := lt_of_heap hc
               have fc := fun o => frozen_of_heap (o := o) hc
               obtain ⟨c0, c1, c2, c3, c4, c5⟩ := TrAt.cells hc
               dsimp only at c0 c1 c2 c3 c4 c5
               clear hc
               have hb := O10.out.blk (i := 4) rfl
               have lb := lt_of_heap hb
               have fb := fun o => frozen_of_heap (o := o) hb
               obtain ⟨b0, b1, b2, b3, b4, b5⟩ := TrAt.cells hb
               dsimp only at b0 b1 b2 b3 b4 b5
               clear hb
               have OZ : Hid (Own w _ [blk w10.heap.size (trObj ⟨⟨0, false, 0⟩, ⟨0, false, 0⟩⟩), blk w9.heap.size (trObj ⟨⟨key2, true, n2⟩, ⟨key, true, n + 1⟩⟩), blk w8.heap.size (trObj ⟨⟨key, true, n + 1⟩, ⟨key2, true, n2⟩⟩), blk BO (opObj 0 X), blk C (trObj ⟨⟨key2, true, n2⟩, ⟨key, true, n⟩⟩), blk B (trObj ⟨⟨key, true, n⟩, ⟨key2, true, n2⟩⟩), arena r A']) := Lib.hid (O10.out.alloc (trObj ⟨⟨0, false, 0⟩, ⟨0, false, 0⟩⟩))
               have ne01 := O10.out.ne (i := 0) (j := 1) rfl rfl (by decide)
               have ne10 := Ne.symm ne01
               have ne03 := O10.out.ne (i := 0) (j := 3) rfl rfl (by decide)
               have ne30 := Ne.symm ne03
               have ne04 := O10.out.ne (i := 0) (j := 4) rfl rfl (by decide)
               have ne40 := Ne.symm ne04
               have ne13 := O10.out.ne (i := 1) (j := 3) rfl rfl (by decide)
               have ne31 := Ne.symm ne13
               have ne14 := O10.out.ne (i := 1) (j := 4) rfl rfl (by decide)
               have ne41 := Ne.symm ne14
               have ne34 := O10.out.ne (i := 3) (j := 4) rfl rfl (by decide)
               have ne43 := Ne.symm ne34
               go_wp2_with fail
               go_region
               all_goals go_wp2_with fail
               all_goals go_meet

               have hfin : Own w _ [blk BO (opObj 0 X), blk C (trObj ⟨⟨key2, true, n2⟩, ⟨key, true, n + 1⟩⟩), blk B (trObj ⟨⟨key, true, n + 1⟩, ⟨key2, true, n2⟩⟩), arena r A'] := ((Own.set6 3 (Own.set6 4 O10.out rfl (.int .i64 key) (.bool true) (.int .u64 (n + 1)) (.int .i64 key2) (.bool true) (.int .u64 (n2))) rfl (.int .i64 key2) (.bool true) (.int .u64 (n2)) (.int .i64 key) (.bool true) (.int .u64 (n + 1))).alloc (trObj ⟨⟨0, false, 0⟩, ⟨0, false, 0⟩⟩)).tail.tail.tail
               all_goals first | exact ⟨A', key, n + 1, key2, n2, Hinv2.out, hfin.drew⟩
             · have hd0 : (ki == 0) = false := by simpa using hk0
               by_cases hk1 : ki = 1
               · subst hk1
                 obtain ⟨A', x, e1, e2, e3, hinv2⟩ := both_seal' (key := key2) (n := n2) (key2 := key) (n2 := n) Hinv.out.turned Hs.out.2 hX
                 have Hinv2 := Lib.hid hinv2
                 have hn : 0 ≤ n2 ∧ n2 ≤ (s : Int) := (Hinv.out.turned).sn
                 have hs30 := Hs.out.2
                 have Hn := Lib.hid hn
                 clear hinv2 hn
                 have hc := O7.out.blk (i := 1) rfl
                 have lc := lt_of_heap hc
                 have fc := fun o => frozen_of_heap (o := o) hc
                 obtain ⟨c0, c1, c2, c3, c4, c5⟩ := TrAt.cells hc
                 dsimp only at c0 c1 c2 c3 c4 c5
                 clear hc
                 have hop := O7.out.blk (i := 0) rfl
                 have p0 := cell_of_heap (o := 0) hop
                 have p1 := cell_of_heap (o := 1) hop
                 simp only [List.getElem?_toArray, List.getElem?_cons_zero, List.getElem?_cons_succ] at p0 p1
                 have lp := lt_of_heap hop
                 clear hop
                 go_wp2_with fail
                 refine (tSeal_own O7.out 3 rfl ⟨⟨key2, true, n2⟩, ⟨key, true, n⟩⟩ X (by have := Hn.out; dsimp only; omega) (by have := Hn.out; dsimp only; omega)).mono ?_
                 rintro e w8 ⟨rfl, o8⟩
                 rw [e1] at o8 ⊢
                 have O8 : Hid (Own w w8 [blk BO (opObj 1 X), blk C (trObj ⟨⟨key2, true, n2⟩, ⟨key, true, n⟩⟩), blk B (trObj ⟨⟨key, true, n⟩, ⟨key2, true, n2⟩⟩), arena r A']) := Lib.hid o8
                 clear o8 e1 p0 p1 lp
                 clear lc fc c0 c1 c2 c3 c4 c5
                 simp only [Tr.val]
                 have hb := O8.out.blk (i := 2) rfl
                 have lb := lt_of_heap hb
                 have fb := fun o => frozen_of_heap (o := o) hb
                 obtain ⟨b0, b1, b2, b3, b4, b5⟩ := TrAt.cells hb
                 dsimp only at b0 b1 b2 b3 b4 b5
                 clear hb
                 have hop := O8.out.blk (i := 0) rfl
                 have p0 := cell_of_heap (o := 0) hop
                 have p1 := cell_of_heap (o := 1) hop
                 simp only [List.getElem?_toArray, List.getElem?_cons_zero, List.getElem?_cons_succ] at p0 p1
                 have lp := lt_of_heap hop
                 clear hop
                 go_wp2_with fail
                 have O8u : Hid (Own w _ [blk w8.heap.size (trObj ⟨⟨key2, true, n2 + 1⟩, ⟨key, true, n⟩⟩), blk BO (opObj 1 X), blk C (trObj ⟨⟨key2, true, n2⟩, ⟨key, true, n⟩⟩), blk B (trObj ⟨⟨key, true, n⟩, ⟨key2, true, n2⟩⟩), arena r A']) := Lib.hid (O8.out.alloc (trObj ⟨⟨key2, true, n2 + 1⟩, ⟨key, true, n⟩⟩))
                 refine (tOpen_own O8u.out 4 rfl ⟨⟨key, true, n⟩, ⟨key2, true, n2⟩⟩ x (by have := Hn.out; dsimp only; omega) (by have := Hn.out; dsimp only; omega)).mono ?_
                 rintro e w9 ⟨rfl, o9⟩
                 rw [e2]
                 have O9 : Hid (Own w w9 [blk w8.heap.size (trObj ⟨⟨key2, true, n2 + 1⟩, ⟨key, true, n⟩⟩), blk BO (opObj 1 X), blk C (trObj ⟨⟨key2, true, n2⟩, ⟨key, true, n⟩⟩), blk B (trObj ⟨⟨key, true, n⟩, ⟨key2, true, n2⟩⟩), arena r A']) := Lib.hid o9
                 clear o9 e2 p0 p1 lp
                 clear lb fb b0 b1 b2 b3 b4 b5
                 simp only [Tr.val]
                 have hop := O9.out.blk (i := 1) rfl
                 have p0 := cell_of_heap (o := 0) hop
                 have p1 := cell_of_heap (o := 1) hop
                 simp only [List.getElem?_toArray, List.getElem?_cons_zero, List.getElem?_cons_succ] at p0 p1
                 have lp := lt_of_heap hop
                 clear hop
                 have hu := O9.out.blk (i := 0) rfl
                 have lu := lt_of_heap hu
                 have fu := fun o => frozen_of_heap (o := o) hu
                 obtain ⟨u0, u1, u2, u3, u4, u5⟩ := TrAt.cells hu
                 dsimp only at u0 u1 u2 u3 u4 u5
                 clear hu
                 have hc := O9.out.blk (i := 2) rfl
                 have lc := lt_of_heap hc
                 have fc := fun o => frozen_of_heap (o := o) hc
                 obtain ⟨c0, c1, c2, c3, c4, c5⟩ := TrAt.cells hc
                 dsimp only at c0 c1 c2 c3 c4 c5
                 clear hc
                 have hb := O9.out.blk (i := 3) rfl
                 have lb := lt_of_heap hb
                 have fb := fun o => frozen_of_heap (o := o) hb
                 obtain ⟨b0, b1, b2, b3, b4, b5⟩ := TrAt.cells hb
                 dsimp only at b0 b1 b2 b3 b4 b5
                 clear hb
                 have OZ : Hid (Own w _ [blk w9.heap.size (trObj ⟨⟨key, true, n⟩, ⟨key2, true, n2 + 1⟩⟩), blk w8.heap.size (trObj ⟨⟨key2, true, n2 + 1⟩, ⟨key, true, n⟩⟩), blk BO (opObj 1 X), blk C (trObj ⟨⟨key2, true, n2⟩, ⟨key, true, n⟩⟩), blk B (trObj ⟨⟨key, true, n⟩, ⟨key2, true, n2⟩⟩), arena r A']) := Lib.hid (O9.out.alloc (trObj ⟨⟨key, true, n⟩, ⟨key2, true, n2 + 1⟩⟩))
                 have ne02 := O9.out.ne (i := 0) (j := 2) rfl rfl (by decide)
                 have ne20 := Ne.symm ne02
                 have ne03 := O9.out.ne (i := 0) (j := 3) rfl rfl (by decide)
                 have ne30 := Ne.symm ne03
                 have ne23 := O9.out.ne (i := 2) (j := 3) rfl rfl (by decide)
                 have ne32 := Ne.symm ne23
                 go_wp2_with fail
                 go_region
                 all_goals go_wp2_with fail
                 all_goals go_meet

                 have hfin : Own w _ [blk BO (opObj 1 X), blk C (trObj ⟨⟨key2, true, n2 + 1⟩, ⟨key, true, n⟩⟩), blk B (trObj ⟨⟨key, true, n⟩, ⟨key2, true, n2 + 1⟩⟩), arena r A'] := ((Own.set6 3 (Own.set6 2 O9.out rfl (.int .i64 key2) (.bool true) (.int .u64 (n2 + 1)) (.int .i64 key) (.bool true) (.int .u64 (n))) rfl (.int .i64 key) (.bool true) (.int .u64 (n)) (.int .i64 key2) (.bool true) (.int .u64 (n2 + 1))).alloc (trObj ⟨⟨key, true, n⟩, ⟨key2, true, n2 + 1⟩⟩)).tail.tail
                 all_goals first | exact ⟨A', key, n, key2, n2 + 1, Hinv2.out.turned, hfin.drew⟩
               · have hd1 : (ki == 1) = false := by simpa using hk1
                 by_cases hk2 : ki = 2
                 · subst hk2
                   by_cases hr : Int.tmod X 2 = 0
                   · have hr1 : (Int.tmod X 2 == 0) = true := by simpa using hr
                     have hr2 : (Int.tmod X 2 != 0) = false := by simpa using hr
                     clear hr
                     obtain ⟨A', k2, e1, e2, hinv2⟩ := both_rekey1 Hinv.out Hs.out.2
                     have Hinv2 := Lib.hid hinv2
                     clear hinv2
                     have hb := O7.out.blk (i := 2) rfl
                     have lb := lt_of_heap hb
                     have fb := fun o => frozen_of_heap (o := o) hb
                     obtain ⟨b0, b1, b2, b3, b4, b5⟩ := TrAt.cells hb
                     dsimp only at b0 b1 b2 b3 b4 b5
                     clear hb
                     have hop := O7.out.blk (i := 0) rfl
                     have p0 := cell_of_heap (o := 0) hop
                     have p1 := cell_of_heap (o := 1) hop
                     simp only [List.getElem?_toArray, List.getElem?_cons_zero, List.getElem?_cons_succ] at p0 p1
                     have lp := lt_of_heap hop
                     clear hop
                     go_wp2_with fail
                     refine (tRekey_own O7.out 3 rfl ⟨⟨key, true, n⟩, ⟨key2, true, n2⟩⟩ true).mono ?_
                     rintro e w8 ⟨rfl, o8⟩
                     rw [e1] at o8 ⊢
                     have O8 : Hid (Own w w8 [blk BO (opObj 2 X), blk C (trObj ⟨⟨key2, true, n2⟩, ⟨key, true, n⟩⟩), blk B (trObj ⟨⟨key, true, n⟩, ⟨key2, true, n2⟩⟩), arena r A']) := Lib.hid o8
                     clear o8 e1 p0 p1 lp
                     clear lb fb b0 b1 b2 b3 b4 b5
                     simp only [Tr.val]
                     have hc := O8.out.blk (i := 1) rfl
                     have lc := lt_of_heap hc
                     have fc := fun o => frozen_of_heap (o := o) hc
                     obtain ⟨c0, c1, c2, c3, c4, c5⟩ := TrAt.cells hc
                     dsimp only at c0 c1 c2 c3 c4 c5
                     clear hc
                     have hop := O8.out.blk (i := 0) rfl
                     have p0 := cell_of_heap (o := 0) hop
                     have p1 := cell_of_heap (o := 1) hop
                     simp only [List.getElem?_toArray, List.getElem?_cons_zero, List.getElem?_cons_succ] at p0 p1
                     have lp := lt_of_heap hop
                     clear hop
                     go_wp2_with fail
                     have O8u : Hid (Own w _ [blk w8.heap.size (trObj ⟨⟨k2, true, n⟩, ⟨key2, true, n2⟩⟩), blk BO (opObj 2 X), blk C (trObj ⟨⟨key2, true, n2⟩, ⟨key, true, n⟩⟩), blk B (trObj ⟨⟨key, true, n⟩, ⟨key2, true, n2⟩⟩), arena r A']) := Lib.hid (O8.out.alloc (trObj ⟨⟨k2, true, n⟩, ⟨key2, true, n2⟩⟩))
                     refine (tRekey_own O8u.out 4 rfl ⟨⟨key2, true, n2⟩, ⟨key, true, n⟩⟩ false).mono ?_
                     rintro e w9 ⟨rfl, o9⟩
                     rw [e2] at o9 ⊢
                     have O9 : Hid (Own w w9 [blk w8.heap.size (trObj ⟨⟨k2, true, n⟩, ⟨key2, true, n2⟩⟩), blk BO (opObj 2 X), blk C (trObj ⟨⟨key2, true, n2⟩, ⟨key, true, n⟩⟩), blk B (trObj ⟨⟨key, true, n⟩, ⟨key2, true, n2⟩⟩), arena r A']) := Lib.hid o9
                     clear o9 e2 p0 p1 lp
                     clear lc fc c0 c1 c2 c3 c4 c5
                     simp only [Tr.val]
                     have hop := O9.out.blk (i := 1) rfl
                     have p0 := cell_of_heap (o := 0) hop
                     have p1 := cell_of_heap (o := 1) hop
                     simp only [List.getElem?_toArray, List.getElem?_cons_zero, List.getElem?_cons_succ] at p0 p1
                     have lp := lt_of_heap hop
                     clear hop
                     have hu := O9.out.blk (i := 0) rfl
                     have lu := lt_of_heap hu
                     have fu := fun o => frozen_of_heap (o := o) hu
                     obtain ⟨u0, u1, u2, u3, u4, u5⟩ := TrAt.cells hu
                     dsimp only at u0 u1 u2 u3 u4 u5
                     clear hu
                     have hc := O9.out.blk (i := 2) rfl
                     have lc := lt_of_heap hc
                     have fc := fun o => frozen_of_heap (o := o) hc
                     obtain ⟨c0, c1, c2, c3, c4, c5⟩ := TrAt.cells hc
                     dsimp only at c0 c1 c2 c3 c4 c5
                     clear hc
                     have hb := O9.out.blk (i := 3) rfl
                     have lb := lt_of_heap hb
                     have fb := fun o => frozen_of_heap (o := o) hb
                     obtain ⟨b0, b1, b2, b3, b4, b5⟩ := TrAt.cells hb
                     dsimp only at b0 b1 b2 b3 b4 b5
                     clear hb
                     have OZ : Hid (Own w _ [blk w9.heap.size (trObj ⟨⟨key2, true, n2⟩, ⟨k2, true, n⟩⟩), blk w8.heap.size (trObj ⟨⟨k2, true, n⟩, ⟨key2, true, n2⟩⟩), blk BO (opObj 2 X), blk C (trObj ⟨⟨key2, true, n2⟩, ⟨key, true, n⟩⟩), blk B (trObj ⟨⟨key, true, n⟩, ⟨key2, true, n2⟩⟩), arena r A']) := Lib.hid (O9.out.alloc (trObj ⟨⟨key2, true, n2⟩, ⟨k2, true, n⟩⟩))
                     have ne02 := O9.out.ne (i := 0) (j := 2) rfl rfl (by decide)
                     have ne20 := Ne.symm ne02
                     have ne03 := O9.out.ne (i := 0) (j := 3) rfl rfl (by decide)
                     have ne30 := Ne.symm ne03
                     have ne23 := O9.out.ne (i := 2) (j := 3) rfl rfl (by decide)
                     have ne32 := Ne.symm ne23
                     go_wp2_with fail
                     go_region
                     all_goals go_wp2_with fail
                     all_goals go_meet

                     have hfin : Own w _ [blk BO (opObj 2 X), blk C (trObj ⟨⟨key2, true, n2⟩, ⟨k2, true, n⟩⟩), blk B (trObj ⟨⟨k2, true, n⟩, ⟨key2, true, n2⟩⟩), arena r A'] := ((Own.set6 2 (Own.set6 3 O9.out rfl (.int .i64 k2) (.bool true) (.int .u64 (n)) (.int .i64 key2) (.bool true) (.int .u64 (n2))) rfl (.int .i64 key2) (.bool true) (.int .u64 (n2)) (.int .i64 k2) (.bool true) (.int .u64 (n))).alloc (trObj ⟨⟨key2, true, n2⟩, ⟨k2, true, n⟩⟩)).tail.tail
                     all_goals first | exact ⟨A', k2, n, key2, n2, Hinv2.out, hfin.drew⟩
                   · have hr1 : (Int.tmod X 2 == 0) = false := by simpa using hr
                     have hr2 : (Int.tmod X 2 != 0) = true := by simpa using hr
                     clear hr
                     obtain ⟨A', k2, e1, e2, hinv2⟩ := both_rekey0 Hinv.out Hs.out.2
                     have Hinv2 := Lib.hid hinv2
                     clear hinv2
                     have hb := O7.out.blk (i := 2) rfl
                     have lb := lt_of_heap hb
                     have fb := fun o => frozen_of_heap (o := o) hb
                     obtain ⟨b0, b1, b2, b3, b4, b5⟩ := TrAt.cells hb
                     dsimp only at b0 b1 b2 b3 b4 b5
                     clear hb
                     have hop := O7.out.blk (i := 0) rfl
                     have p0 := cell_of_heap (o := 0) hop
                     have p1 := cell_of_heap (o := 1) hop
                     simp only [List.getElem?_toArray, List.getElem?_cons_zero, List.getElem?_cons_succ] at p0 p1
                     have lp := lt_of_heap hop
                     clear hop
                     go_wp2_with fail
                     refine (tRekey_own O7.out 3 rfl ⟨⟨key, true, n⟩, ⟨key2, true, n2⟩⟩ false).mono ?_
                     rintro e w8 ⟨rfl, o8⟩
                     rw [e1] at o8 ⊢
                     have O8 : Hid (Own w w8 [blk BO (opObj 2 X), blk C (trObj ⟨⟨key2, true, n2⟩, ⟨key, true, n⟩⟩), blk B (trObj ⟨⟨key, true, n⟩, ⟨key2, true, n2⟩⟩), arena r A']) := Lib.hid o8
                     clear o8 e1 p0 p1 lp
                     clear lb fb b0 b1 b2 b3 b4 b5
                     simp only [Tr.val]
                     have hc := O8.out.blk (i := 1) rfl
                     have lc := lt_of_heap hc
                     have fc := fun o => frozen_of_heap (o := o) hc
                     obtain ⟨c0, c1, c2, c3, c4, c5⟩ := TrAt.cells hc
                     dsimp only at c0 c1 c2 c3 c4 c5
                     clear hc
                     have hop := O8.out.blk (i := 0) rfl
                     have p0 := cell_of_heap (o := 0) hop
                     have p1 := cell_of_heap (o := 1) hop
                     simp only [List.getElem?_toArray, List.getElem?_cons_zero, List.getElem?_cons_succ] at p0 p1
                     have lp := lt_of_heap hop
                     clear hop
                     go_wp2_with fail
                     have O8u : Hid (Own w _ [blk w8.heap.size (trObj ⟨⟨key, true, n⟩, ⟨k2, true, n2⟩⟩), blk BO (opObj 2 X), blk C (trObj ⟨⟨key2, true, n2⟩, ⟨key, true, n⟩⟩), blk B (trObj ⟨⟨key, true, n⟩, ⟨key2, true, n2⟩⟩), arena r A']) := Lib.hid (O8.out.alloc (trObj ⟨⟨key, true, n⟩, ⟨k2, true, n2⟩⟩))
                     refine (tRekey_own O8u.out 4 rfl ⟨⟨key2, true, n2⟩, ⟨key, true, n⟩⟩ true).mono ?_
                     rintro e w9 ⟨rfl, o9⟩
                     rw [e2] at o9 ⊢
                     have O9 : Hid (Own w w9 [blk w8.heap.size (trObj ⟨⟨key, true, n⟩, ⟨k2, true, n2⟩⟩), blk BO (opObj 2 X), blk C (trObj ⟨⟨key2, true, n2⟩, ⟨key, true, n⟩⟩), blk B (trObj ⟨⟨key, true, n⟩, ⟨key2, true, n2⟩⟩), arena r A']) := Lib.hid o9
                     clear o9 e2 p0 p1 lp
                     clear lc fc c0 c1 c2 c3 c4 c5
                     simp only [Tr.val]
                     have hop := O9.out.blk (i := 1) rfl
                     have p0 := cell_of_heap (o := 0) hop
                     have p1 := cell_of_heap (o := 1) hop
                     simp only [List.getElem?_toArray, List.getElem?_cons_zero, List.getElem?_cons_succ] at p0 p1
                     have lp := lt_of_heap hop
                     clear hop
                     have hu := O9.out.blk (i := 0) rfl
                     have lu := lt_of_heap hu
                     have fu := fun o => frozen_of_heap (o := o) hu
                     obtain ⟨u0, u1, u2, u3, u4, u5⟩ := TrAt.cells hu
                     dsimp only at u0 u1 u2 u3 u4 u5
                     clear hu
                     have hc := O9.out.blk (i := 2) rfl
                     have lc := lt_of_heap hc
                     have fc := fun o => frozen_of_heap (o := o) hc
                     obtain ⟨c0, c1, c2, c3, c4, c5⟩ := TrAt.cells hc
                     dsimp only at c0 c1 c2 c3 c4 c5
                     clear hc
                     have hb := O9.out.blk (i := 3) rfl
                     have lb := lt_of_heap hb
                     have fb := fun o => frozen_of_heap (o := o) hb
                     obtain ⟨b0, b1, b2, b3, b4, b5⟩ := TrAt.cells hb
                     dsimp only at b0 b1 b2 b3 b4 b5
                     clear hb
                     have OZ : Hid (Own w _ [blk w9.heap.size (trObj ⟨⟨k2, true, n2⟩, ⟨key, true, n⟩⟩), blk w8.heap.size (trObj ⟨⟨key, true, n⟩, ⟨k2, true, n2⟩⟩), blk BO (opObj 2 X), blk C (trObj ⟨⟨key2, true, n2⟩, ⟨key, true, n⟩⟩), blk B (trObj ⟨⟨key, true, n⟩, ⟨key2, true, n2⟩⟩), arena r A']) := Lib.hid (O9.out.alloc (trObj ⟨⟨k2, true, n2⟩, ⟨key, true, n⟩⟩))
                     have ne02 := O9.out.ne (i := 0) (j := 2) rfl rfl (by decide)
                     have ne20 := Ne.symm ne02
                     have ne03 := O9.out.ne (i := 0) (j := 3) rfl rfl (by decide)
                     have ne30 := Ne.symm ne03
                     have ne23 := O9.out.ne (i := 2) (j := 3) rfl rfl (by decide)
                     have ne32 := Ne.symm ne23
                     go_wp2_with fail
                     go_region
                     all_goals go_wp2_with fail
                     all_goals go_meet

                     have hfin : Own w _ [blk BO (opObj 2 X), blk C (trObj ⟨⟨k2, true, n2⟩, ⟨key, true, n⟩⟩), blk B (trObj ⟨⟨key, true, n⟩, ⟨k2, true, n2⟩⟩), arena r A'] := ((Own.set6 2 (Own.set6 3 O9.out rfl (.int .i64 key) (.bool true) (.int .u64 (n)) (.int .i64 k2) (.bool true) (.int .u64 (n2))) rfl (.int .i64 k2) (.bool true) (.int .u64 (n2)) (.int .i64 key) (.bool true) (.int .u64 (n))).alloc (trObj ⟨⟨k2, true, n2⟩, ⟨key, true, n⟩⟩)).tail.tail
                     all_goals first | exact ⟨A', key, n, k2, n2, Hinv2.out, hfin.drew⟩
                 · have hd2 : (ki == 2) = false := by simpa using hk2
                   have Hinv2 := Lib.hid Hinv.out.more
                   have hop := O7.out.blk (i := 0) rfl
                   have p0 := cell_of_heap (o := 0) hop
                   have p1 := cell_of_heap (o := 1) hop
                   simp only [List.getElem?_toArray, List.getElem?_cons_zero, List.getElem?_cons_succ] at p0 p1
                   have lp := lt_of_heap hop
                   clear hop
                   go_wp2_with fail
                   go_meet
                   exact ⟨A, key, n, key2, n2, Hinv2.out, O7.out⟩
        · obtain rfl : s = os.length := by omega
          go_wp2_with fail
          refine (awake _).mono ?_
          rintro e w9 ⟨rfl, b9⟩
          go_wp2_with fail
          go_ret
          exact ⟨rfl, (OL.out.call b9).below⟩
end Go.Proofs.Ytgcjhmffndijhaa
