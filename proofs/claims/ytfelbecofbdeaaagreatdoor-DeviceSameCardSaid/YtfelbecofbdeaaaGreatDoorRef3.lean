/- The document's Right of layer 1. -/
import Derived.Test.YtfelbecofbdeaaaGreatDoorRef1
import Derived.Test.YtfelbecofbdeaaaGreatDoorTerm3
namespace Go.Proofs.YtfelbecofbdeaaaGreatDoor
open Go.RowKit

theorem manyI_in {k : Int} (h0 : 0 ≤ k) (h9 : k ≤ 9) : manyI k = many k := by unfold manyI; rw [if_neg (by omega)]
theorem many_le (k : Int) : many k ≤ 3 := by unfold many; (repeat' split) <;> omega
set_option warningAsError false in
set_option maxHeartbeats 6400000 in
set_option maxRecDepth 100000 in
theorem rRight_calls {A : Ar} {g cap : Nat} {x : Nd} {w : World} (hr : RefAt w g cap A.l) (hwf : Wf A.l) (hm : A.l.length ≤ 65536) (hn0 : 0 ≤ x.n) (hn1 : x.n ≤ 18446744073709551615) :
    Calls Tryz.prog 61 #[refV A g cap, x.val] w (RightPost A.l x w) := by
  have hv : refV A g cap = .agg #[.int .i64 A.limit, .slice (some ⟨g, 0, none⟩) A.l.length cap] := rfl
  have hvx : x.val = .agg #[.int .i64 x.kind, .int .u64 x.n, .int .i64 x.a, .int .i64 x.b, .int .i64 x.c] := rfl
  rw [hv, hvx]
  clear hv hvx
  by_cases hk : x.kind < 0 ∨ 9 < x.kind
  · have hbad := Lib.hid (right_bad (l := A.l) (x := x) (by rcases hk with h | h; exact .inl h; exact .inr (.inl h)))
    have hmI : manyI x.kind = -1 := by unfold manyI; rw [if_pos hk]
    clear hk
    go_enter Tryz.func61, Tryz.ntmps61
    go_wp2_with fail
    refine (rMany_calls x.kind _).mono ?_
    rintro e w1 ⟨rfl, rfl⟩
    rw [hmI]
    go_wp2_with fail
    go_ret
    exact ⟨ret_bool hbad.out.symm, below2 _ _ _⟩
  · have hk0 : 0 ≤ x.kind := by omega
    have hk9 : x.kind ≤ 9 := by omega
    have hmI := manyI_in hk0 hk9
    have hm3 := many_le x.kind
    have Hk := Lib.hid (And.intro hk0 hk9)
    have Hr := Lib.hid hr
    have Hwf := Lib.hid hwf
    have Hbad := Lib.hid (right_bad (l := A.l) (x := x))
    have Hpi := Lib.hid (partsOk_iff A.l x)
    clear hk hk0 hk9 hr hwf
    generalize hM : many x.kind = M at *
    have HM := Lib.hid hM
    clear hM
    go_enter Tryz.func61, Tryz.ntmps61
    go_wp2_with fail
    refine (rMany_calls x.kind _).mono ?_
    rintro e w1 ⟨rfl, rfl⟩
    rw [hmI]
    have hM0 : decide ((M : Int) < 0) = false := decide_eq_false (by omega)
    go_wp2_with fail
    have nx : RNdAt ((w.alloc (.cells #[.int .i64 A.limit, .slice (some ⟨g, 0, none⟩) A.l.length cap] 27)).alloc (.cells #[.int .i64 x.kind, .int .u64 x.n, .int .i64 x.a, .int .i64 x.b, .int .i64 x.c] 65)) (w.heap.size + 1) x := (two_new w _ _).2
    have bx : RBox ((w.alloc (.cells #[.int .i64 A.limit, .slice (some ⟨g, 0, none⟩) A.l.length cap] 27)).alloc (.cells #[.int .i64 x.kind, .int .u64 x.n, .int .i64 x.a, .int .i64 x.b, .int .i64 x.c] 65)) w.heap.size A g cap := (two_new w _ _).1
    have hbw := below2 w (.cells #[.int .i64 A.limit, .slice (some ⟨g, 0, none⟩) A.l.length cap] 27) (.cells #[.int .i64 x.kind, .int .u64 x.n, .int .i64 x.a, .int .i64 x.b, .int .i64 x.c] 65)
    generalize (w.alloc (.cells #[.int .i64 A.limit, .slice (some ⟨g, 0, none⟩) A.l.length cap] 27)).alloc (.cells #[.int .i64 x.kind, .int .u64 x.n, .int .i64 x.a, .int .i64 x.b, .int .i64 x.c] 65) = wS at *
    have Nb := Lib.hid (And.intro nx bx)
    clear nx bx hmI hM0
    go_loopw [6] (fun i wr => ∃ k : Nat, k ≤ 3 ∧ i = .int .i64 k ∧ (∀ j, j < k → okPart A.l x j = true) ∧ Below wS.heap.size wS wr)
      (fun i _ => (3 - intOf i).toNat)
    case atStart => exact ⟨0, by omega, rfl, fun j hj => absurd hj (Nat.not_lt_zero _), Below.refl _ _⟩
    case round =>
      obtain ⟨k, hk, rfl, hz, hbr⟩ := hrel
      have HZ := Lib.hid hz
      clear hz
      have nx := Nb.out.1.below hbr
      have bx := Nb.out.2.below hbr
      have Nr := Lib.hid (And.intro nx bx)
      obtain ⟨p0, p1, p2, p3, p4⟩ := nx.cells
      obtain ⟨b0, b1⟩ := bx.cells
      have lp := lt_of_heap nx
      have lb := lt_of_heap bx
      clear nx bx
      have hrr : Below wr.heap.size wr wr := Below.refl _ _
      by_cases hlt : k < 3
      · have hok : okPart A.l x k = if k < M then has A.l (x.part k) else decide (x.part k = 0) := by unfold okPart; rw [HM.out]
        by_cases hkm : k < M
        · have Hok := Lib.hid (hok.trans (if_pos hkm))
          have hd1 : decide ((k : Int) < (M : Int)) = true := decide_eq_true (by omega)
          have hd2 : decide ((M : Int) ≤ (k : Int)) = false := decide_eq_false (by omega)
          have hd3 : decide (k < M) = true := decide_eq_true hkm
          have hd4 : decide (M ≤ k) = false := decide_eq_false (by omega)
          clear hok hkm
          have hun : undef = Value.tuple #[] := rfl
          go_upto_region 7 with fail
          go_cut [37] (fun s wx => s = .bool (!has A.l (x.part k)) ∧ Below wr.heap.size wr wx)
          case first =>
            cases hh : has A.l (x.part k) with
            | true =>
              first | (go_region_held3 (fun w' => Below wr.heap.size wr w' ∧ w'.cell? ⟨w.heap.size + 1, 0, none⟩ = some (.int .i64 x.kind) ∧ w'.cell? ⟨w.heap.size + 1, 1, none⟩ = some (.int .u64 x.n) ∧ w'.cell? ⟨w.heap.size + 1, 2, none⟩ = some (.int .i64 x.a) ∧ w'.cell? ⟨w.heap.size + 1, 3, none⟩ = some (.int .i64 x.b) ∧ w'.cell? ⟨w.heap.size + 1, 4, none⟩ = some (.int .i64 x.c) ∧
                  w'.cell? ⟨w.heap.size, 0, none⟩ = some (.int .i64 A.limit) ∧ w'.cell? ⟨w.heap.size, 1, none⟩ = some (.slice (some ⟨g, 0, none⟩) A.l.length cap))
                (first | (refine ⟨(by first | assumption | exact Below.drew (by assumption)), ?_⟩; go_keep))
                (first
                  | (go_at_call 90; refine (rPart_calls x k _).mono ?_; rintro e w5 ⟨rfl, hb5⟩
                     have hx5 : Below wr.heap.size wr w5 := below_call (by first | assumption | exact Below.drew (by assumption)) hb5
                     obtain ⟨p0, p1, p2, p3, p4⟩ := (Nr.out.1.below hx5).cells
                     obtain ⟨b0, b1⟩ := (Nr.out.2.below hx5).cells)
                  | (go_at_call 14; refine (rHas_calls A g cap (x.part k) _).mono ?_; rintro e w5 ⟨rfl, hb5⟩
                     rw [hh]
                     have hx5 : Below wr.heap.size wr w5 := below_call (by first | assumption | exact Below.drew (by assumption)) hb5
                     obtain ⟨p0, p1, p2, p3, p4⟩ := (Nr.out.1.below hx5).cells
                     obtain ⟨b0, b1⟩ := (Nr.out.2.below hx5).cells))) | fail
              all_goals go_wp2_with fail
              all_goals go_meet
              all_goals exact ⟨by rw [hh]; rfl, by assumption⟩
            | false =>
              first | (go_region_held3 (fun w' => Below wr.heap.size wr w' ∧ w'.cell? ⟨w.heap.size + 1, 0, none⟩ = some (.int .i64 x.kind) ∧ w'.cell? ⟨w.heap.size + 1, 1, none⟩ = some (.int .u64 x.n) ∧ w'.cell? ⟨w.heap.size + 1, 2, none⟩ = some (.int .i64 x.a) ∧ w'.cell? ⟨w.heap.size + 1, 3, none⟩ = some (.int .i64 x.b) ∧ w'.cell? ⟨w.heap.size + 1, 4, none⟩ = some (.int .i64 x.c) ∧
                  w'.cell? ⟨w.heap.size, 0, none⟩ = some (.int .i64 A.limit) ∧ w'.cell? ⟨w.heap.size, 1, none⟩ = some (.slice (some ⟨g, 0, none⟩) A.l.length cap))
                (first | (refine ⟨(by first | assumption | exact Below.drew (by assumption)), ?_⟩; go_keep))
                (first
                  | (go_at_call 90; refine (rPart_calls x k _).mono ?_; rintro e w5 ⟨rfl, hb5⟩
                     have hx5 : Below wr.heap.size wr w5 := below_call (by first | assumption | exact Below.drew (by assumption)) hb5
                     obtain ⟨p0, p1, p2, p3, p4⟩ := (Nr.out.1.below hx5).cells
                     obtain ⟨b0, b1⟩ := (Nr.out.2.below hx5).cells)
                  | (go_at_call 14; refine (rHas_calls A g cap (x.part k) _).mono ?_; rintro e w5 ⟨rfl, hb5⟩
                     rw [hh]
                     have hx5 : Below wr.heap.size wr w5 := below_call (by first | assumption | exact Below.drew (by assumption)) hb5
                     obtain ⟨p0, p1, p2, p3, p4⟩ := (Nr.out.1.below hx5).cells
                     obtain ⟨b0, b1⟩ := (Nr.out.2.below hx5).cells))) | fail
              all_goals go_wp2_with fail
              all_goals go_meet
              all_goals exact ⟨by rw [hh]; rfl, by assumption⟩
          case rest =>
            clear hun
            obtain ⟨rfl, hbx⟩ := hcut
            have hbr2 := below_call hbr hbx
            clear p0 p1 p2 p3 p4 b0 b1 lp lb
            cases hh : okPart A.l x k with
            | true =>
              have HZ2 := Lib.hid (show ∀ j, j < k + 1 → okPart A.l x j = true from fun j hj => by
                by_cases hjk : j < k
                · exact HZ.out j hjk
                · rw [show j = k by omega]; exact hh)
              have hb := show (!has A.l (x.part k)) = false by rw [← Hok.out, hh]; rfl
              rw [hb]
              clear hb hh HZ
              go_wp2_with fail
              refine ⟨⟨k + 1, by omega, by simp, HZ2.out, hbr2⟩, ?_⟩
              simp only [intOf]; omega
            | false =>
              have Hf := Lib.hid (Hbad.out (.inr (.inr (.inr (by
                cases hp : partsOk A.l x with
                | false => rfl
                | true => have := Hpi.out.1 hp k hlt; rw [hh] at this; cases this)))))
              have hb := show (!has A.l (x.part k)) = true by rw [← Hok.out, hh]; rfl
              rw [hb]
              clear hb hh HZ
              go_wp2_with fail
              go_ret
              exact ⟨ret_bool Hf.out.symm, below_call hbw hbr2⟩
        · have Hok := Lib.hid (hok.trans (if_neg hkm))
          have hd1 : decide ((k : Int) < (M : Int)) = false := decide_eq_false (by omega)
          have hd2 : decide ((M : Int) ≤ (k : Int)) = true := decide_eq_true (by omega)
          have hd3 : decide (k < M) = false := decide_eq_false hkm
          have hd4 : decide (M ≤ k) = true := decide_eq_true (by omega)
          clear hok hkm
          have hun : undef = Value.tuple #[] := rfl
          go_upto_region 7 with fail
          go_cut [37] (fun s wx => s = .bool (x.part k != 0) ∧ Below wr.heap.size wr wx)
          case first =>
              first | (go_region_held3 (fun w' => Below wr.heap.size wr w' ∧ w'.cell? ⟨w.heap.size + 1, 0, none⟩ = some (.int .i64 x.kind) ∧ w'.cell? ⟨w.heap.size + 1, 1, none⟩ = some (.int .u64 x.n) ∧ w'.cell? ⟨w.heap.size + 1, 2, none⟩ = some (.int .i64 x.a) ∧ w'.cell? ⟨w.heap.size + 1, 3, none⟩ = some (.int .i64 x.b) ∧ w'.cell? ⟨w.heap.size + 1, 4, none⟩ = some (.int .i64 x.c) ∧
                  w'.cell? ⟨w.heap.size, 0, none⟩ = some (.int .i64 A.limit) ∧ w'.cell? ⟨w.heap.size, 1, none⟩ = some (.slice (some ⟨g, 0, none⟩) A.l.length cap))
                (first | (refine ⟨(by first | assumption | exact Below.drew (by assumption)), ?_⟩; go_keep))
                (first
                  | (go_at_call 90; refine (rPart_calls x k _).mono ?_; rintro e w5 ⟨rfl, hb5⟩
                     have hx5 : Below wr.heap.size wr w5 := below_call (by first | assumption | exact Below.drew (by assumption)) hb5
                     obtain ⟨p0, p1, p2, p3, p4⟩ := (Nr.out.1.below hx5).cells
                     obtain ⟨b0, b1⟩ := (Nr.out.2.below hx5).cells)
                  | (go_at_call 14; refine (rHas_calls A g cap (x.part k) _).mono ?_; rintro e w5 ⟨rfl, hb5⟩
                     have hx5 : Below wr.heap.size wr w5 := below_call (by first | assumption | exact Below.drew (by assumption)) hb5
                     obtain ⟨p0, p1, p2, p3, p4⟩ := (Nr.out.1.below hx5).cells
                     obtain ⟨b0, b1⟩ := (Nr.out.2.below hx5).cells))) | fail
              all_goals go_wp2_with fail
              all_goals go_meet
              all_goals exact ⟨rfl, by assumption⟩
          case rest =>
            clear hun
            obtain ⟨rfl, hbx⟩ := hcut
            have hbr2 := below_call hbr hbx
            clear p0 p1 p2 p3 p4 b0 b1 lp lb
            cases hh : okPart A.l x k with
            | true =>
              have HZ2 := Lib.hid (show ∀ j, j < k + 1 → okPart A.l x j = true from fun j hj => by
                by_cases hjk : j < k
                · exact HZ.out j hjk
                · rw [show j = k by omega]; exact hh)
              have hb := show (x.part k != 0) = false by have h1 := Hok.out; rw [hh] at h1; simpa using h1.symm
              rw [hb]
              clear hb hh HZ
              go_wp2_with fail
              refine ⟨⟨k + 1, by omega, by simp, HZ2.out, hbr2⟩, ?_⟩
              simp only [intOf]; omega
            | false =>
              have Hf := Lib.hid (Hbad.out (.inr (.inr (.inr (by
                cases hp : partsOk A.l x with
                | false => rfl
                | true => have := Hpi.out.1 hp k hlt; rw [hh] at this; cases this)))))
              have hb := show (x.part k != 0) = true by have h1 := Hok.out; rw [hh] at h1; simpa using h1.symm
              rw [hb]
              clear hb hh HZ
              go_wp2_with fail
              go_ret
              exact ⟨ret_bool Hf.out.symm, below_call hbw hbr2⟩
      · obtain rfl : k = 3 := by omega
        have hp := Lib.hid (Hpi.out.2 HZ.out)
        have hbr2 := below_call hbw hbr
        have hxn := Hk.out
        have hright : right A.l x = if numberedP x = false then false else if x.kind = 3 then decide (cmpA A.l x.a x.b ≤ 0) else if x.kind = 4 then decide ((nd A.l x.b).kind ≠ 2) else true := by
          unfold right
          rw [if_neg (by omega), hp.out]
          simp
        have Hri := Lib.hid hright
        clear HZ hright Hbad Hpi HM Nb Nr hrr Hk
        obtain ⟨xk, xn, xa, xb, xc⟩ := x
        simp only at *
        rcases many_cases hxn.1 hxn.2 with rfl | rfl | rfl | rfl | rfl | rfl | rfl | rfl | rfl | rfl
        · -- kind 0
          by_cases hn : xn = 0
          · subst hn
            have Hf := Lib.hid (show right A.l ⟨0, 0, xa, xb, xc⟩ = true by rw [Hri.out]; simp [numberedP])
            go_wp2_with fail
            go_ret
            exact ⟨ret_bool Hf.out.symm, hbr2⟩
          · have Hf := Lib.hid (show right A.l ⟨0, xn, xa, xb, xc⟩ = false by rw [Hri.out]; simp [numberedP, hn])
            have hnb : (xn != 0) = true := by simp [hn]
            clear hn
            go_wp2_with fail
            go_ret
            exact ⟨ret_bool Hf.out.symm, hbr2⟩
        · -- kind 1
          have Hf := Lib.hid (show right A.l ⟨1, xn, xa, xb, xc⟩ = true by rw [Hri.out]; simp [numberedP])
          go_wp2_with fail
          go_ret
          exact ⟨ret_bool Hf.out.symm, hbr2⟩
        · -- kind 2
          by_cases hn : xn = 0
          · subst hn
            have Hf := Lib.hid (show right A.l ⟨2, 0, xa, xb, xc⟩ = true by rw [Hri.out]; simp [numberedP])
            go_wp2_with fail
            go_ret
            exact ⟨ret_bool Hf.out.symm, hbr2⟩
          · have Hf := Lib.hid (show right A.l ⟨2, xn, xa, xb, xc⟩ = false by rw [Hri.out]; simp [numberedP, hn])
            have hnb : (xn != 0) = true := by simp [hn]
            clear hn
            go_wp2_with fail
            go_ret
            exact ⟨ret_bool Hf.out.symm, hbr2⟩
        · -- kind 3
          by_cases hn : xn = 0
          · subst hn
            have Hf := Lib.hid (show right A.l ⟨3, 0, xa, xb, xc⟩ = decide (cmpA A.l xa xb ≤ 0) by rw [Hri.out]; simp [numberedP])
            go_wp2_with fail
            refine (rcmp_calls xa xb Hwf.out hm (Hr.out.below hbr2)).mono ?_
            rintro e w9 ⟨rfl, hb9⟩
            generalize cmpA A.l xa xb = q at *
            go_wp2_with fail
            go_ret
            exact ⟨ret_bool Hf.out.symm, below_call hbr2 hb9⟩
          · have Hf := Lib.hid (show right A.l ⟨3, xn, xa, xb, xc⟩ = false by rw [Hri.out]; simp [numberedP, hn])
            have hnb : (xn != 0) = true := by simp [hn]
            clear hn
            go_wp2_with fail
            go_ret
            exact ⟨ret_bool Hf.out.symm, hbr2⟩
        · -- kind 4
          by_cases hn : xn = 0
          · subst hn
            have Hf := Lib.hid (show right A.l ⟨4, 0, xa, xb, xc⟩ = decide ((nd A.l xb).kind ≠ 2) by rw [Hri.out]; simp [numberedP])
            have hb : has A.l xb = true := by have := (partsOk_iff A.l ⟨4, 0, xa, xb, xc⟩).1 hp.out 1 (by decide); simpa [okPart, many, Nd.part] using this
            obtain ⟨q0, q1, q2, q3, q4⟩ := (Hr.out.below hbr2).node (getElem?_of_has hb)
            have hb0 := has_iff.1 hb
            generalize nd A.l xb = m at *
            obtain ⟨kb, rfl⟩ := Int.eq_ofNat_of_zero_le hb0.1
            rw [Int.toNat_natCast] at *
            have ib : (kb : Int) < A.l.length := hb0.2
            have hmk : decide (m.kind ≠ 2) = (m.kind != 2) := by rw [Bool.eq_iff_iff]; simp
            have Hmk := Lib.hid hmk
            clear hb hmk
            go_wp2_with fail
            go_ret
            exact ⟨ret_bool (by rw [Hf.out, Hmk.out]), hbr2⟩
          · have Hf := Lib.hid (show right A.l ⟨4, xn, xa, xb, xc⟩ = false by rw [Hri.out]; simp [numberedP, hn])
            have hnb : (xn != 0) = true := by simp [hn]
            clear hn
            go_wp2_with fail
            go_ret
            exact ⟨ret_bool Hf.out.symm, hbr2⟩
        · -- kind 5
          by_cases hn : xn = 0
          · subst hn
            have Hf := Lib.hid (show right A.l ⟨5, 0, xa, xb, xc⟩ = true by rw [Hri.out]; simp [numberedP])
            go_wp2_with fail
            go_ret
            exact ⟨ret_bool Hf.out.symm, hbr2⟩
          · have Hf := Lib.hid (show right A.l ⟨5, xn, xa, xb, xc⟩ = false by rw [Hri.out]; simp [numberedP, hn])
            have hnb : (xn != 0) = true := by simp [hn]
            clear hn
            go_wp2_with fail
            go_ret
            exact ⟨ret_bool Hf.out.symm, hbr2⟩
        · -- kind 6
          by_cases h1 : xn < 1
          · have Hf := Lib.hid (show right A.l ⟨6, xn, xa, xb, xc⟩ = false by rw [Hri.out]; simp [numberedP]; intro h; omega)
            have hd1 : decide (xn < 1) = true := decide_eq_true h1
            clear h1
            go_wp2_with fail
            go_ret
            exact ⟨ret_bool Hf.out.symm, hbr2⟩
          · have hd1 : decide (xn < 1) = false := decide_eq_false h1
            by_cases h4 : 4 < xn
            · have Hf := Lib.hid (show right A.l ⟨6, xn, xa, xb, xc⟩ = false by rw [Hri.out]; simp [numberedP]; intro h; omega)
              have hd4 : decide (4 < xn) = true := decide_eq_true h4
              clear h1 h4
              go_wp2_with fail
              go_ret
              exact ⟨ret_bool Hf.out.symm, hbr2⟩
            · have Hf := Lib.hid (show right A.l ⟨6, xn, xa, xb, xc⟩ = true by rw [Hri.out]; simp [numberedP]; omega)
              have hd4 : decide (4 < xn) = false := decide_eq_false h4
              clear h1 h4
              go_wp2_with fail
              go_ret
              exact ⟨ret_bool Hf.out.symm, hbr2⟩
        · -- kind 7
          have Hf := Lib.hid (show right A.l ⟨7, xn, xa, xb, xc⟩ = true by rw [Hri.out]; simp [numberedP])
          go_wp2_with fail
          go_ret
          exact ⟨ret_bool Hf.out.symm, hbr2⟩
        · -- kind 8
          by_cases hn : xn = 0
          · subst hn
            have Hf := Lib.hid (show right A.l ⟨8, 0, xa, xb, xc⟩ = true by rw [Hri.out]; simp [numberedP])
            go_wp2_with fail
            go_ret
            exact ⟨ret_bool Hf.out.symm, hbr2⟩
          · have Hf := Lib.hid (show right A.l ⟨8, xn, xa, xb, xc⟩ = false by rw [Hri.out]; simp [numberedP, hn])
            have hnb : (xn != 0) = true := by simp [hn]
            clear hn
            go_wp2_with fail
            go_ret
            exact ⟨ret_bool Hf.out.symm, hbr2⟩
        · -- kind 9
          have Hf := Lib.hid (show right A.l ⟨9, xn, xa, xb, xc⟩ = true by rw [Hri.out]; simp [numberedP])
          go_wp2_with fail
          go_ret
          exact ⟨ret_bool Hf.out.symm, hbr2⟩
end Go.Proofs.YtfelbecofbdeaaaGreatDoor
