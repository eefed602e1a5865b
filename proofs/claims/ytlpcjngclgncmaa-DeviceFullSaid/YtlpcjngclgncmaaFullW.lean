/- DeviceFull answers true. -/
import Derived.Test.YtlpcjngclgncmaaAwake15
import Derived.Test.YtlpcjngclgncmaaDevLaw
namespace Go.Proofs.Ytlpcjngclgncmaa
open Go.RowKit

set_option maxHeartbeats 1600000 in
set_option maxRecDepth 100000 in
theorem full_walk (f more : Int) (w : World) : Calls Try.prog 3 #[.int .i64 f, .int .i64 more] w fun e w' => e = .returned (.bool true) ∧ Below w.heap.size w w' := by
  by_cases hg : f < 0 ∨ 900 < f
  · have hd : (decide (f < 0) = true) ∨ (decide (f < 0) = false ∧ decide (900 < f) = true) := by
      by_cases h : f < 0
      · exact .inl (decide_eq_true h)
      · exact .inr ⟨decide_eq_false h, decide_eq_true (by omega)⟩
    clear hg
    go_enter Try.func3, Try.ntmps3
    go_wp2_with fail
    refine (dNew_own (Own.start w) 1 1 1 rfl).mono ?_
    rintro e w1 ⟨d, r1, r2, rfl, o1⟩
    rcases hd with hd | ⟨hd, hd2⟩
    · go_wp2_with (go_quiet (fail))
      refine (awake _).mono ?_
      rintro e w9 ⟨rfl, b9⟩
      go_wp2_with fail
      go_ret
      exact ⟨rfl, (o1.call b9).below⟩
    · go_wp2_with (go_quiet (fail))
      refine (awake _).mono ?_
      rintro e w9 ⟨rfl, b9⟩
      go_wp2_with fail
      go_ret
      exact ⟨rfl, (o1.call b9).below⟩
  · have h0 : 0 ≤ f := by omega
    have h9 : f ≤ 900 := by omega
    have hd : decide (f < 0) = false := decide_eq_false (by omega)
    have hd2 : decide (900 < f) = false := decide_eq_false (by omega)
    clear hg
    go_enter Try.func3, Try.ntmps3
    go_wp2_with fail
    refine (dNew_own (Own.start w) 1 1 1 rfl).mono ?_
    rintro e w1 ⟨d, r1, r2, rfl, o1⟩
    go_wp2_with (go_quiet (fail))
    go_loopw [36] (fun i wr => ∃ k : Nat, k ≤ 8 ∧ i = .int .i64 k ∧ Own w wr [blk d (devObj ⟨1, 1, 1, [], []⟩ r1 r2), storeT r2 (stI []), storeT r1 (stI (fuL f k))])
      (fun i _ => (8 - intOf i).toNat)
    case atStart => exact ⟨0, by omega, rfl, o1⟩
    case round =>
      obtain ⟨k, hk, rfl, ol⟩ := hrel
      by_cases hlt : k < 8
      · go_wp2_with fail
        refine (dAdd_own (D := fuD f k) ol 0 2 rfl rfl (f + (k : Int)) (10 + (k : Int))).mono ?_
        rintro e w2 ⟨rfl, o2⟩
        rw [fu_add h0 h9 hlt] at o2 ⊢
        clear ol
        go_wp2_with fail
        refine ⟨⟨k + 1, by omega, by simp, o2⟩, ?_⟩
        simp only [intOf]; omega
      · obtain rfl : k = 8 := by omega
        go_wp2_with fail
        refine (dAdd_own (D := fuD f 8) ol 0 2 rfl rfl (f + 8) 18).mono ?_
        rintro e w2 ⟨rfl, o2⟩
        rw [fu_full h0 h9] at o2 ⊢
        clear ol
        have hm0 : 0 ≤ min (max more 0) 7 := by omega
        have hm7 : min (max more 0) 7 ≤ 7 := by omega
        generalize hM : min (max more 0) 7 = m at *
        go_wp2_with fail
        refine (dDrop_own (D := fuD f 8) o2 0 2 1 rfl rfl rfl (by decide) (by decide) (f + m)).mono ?_
        rintro e w3 ⟨rfl, o3⟩
        rw [fu_drop hm0 hm7] at o3 ⊢
        clear o2
        go_wp2_with fail
        refine (dAdd_own (D := ⟨1, 1, 1, dropI (f + m) (fuL f 8), []⟩) o3 0 2 rfl rfl (f + 8) 18).mono ?_
        rintro e w4 ⟨rfl, o4⟩
        rw [fu_again h0 h9 hm0 hm7] at o4 ⊢
        clear o3
        go_wp2_with fail
        refine (dPeers_own (D := ⟨1, 1, 1, dropI (f + m) (fuL f 8) ++ [(f + 8, 18)], []⟩) o4 0 2 rfl rfl).mono ?_
        rintro e w5 ⟨v, rfl, o5⟩
        clear o4
        have hrow := o5.row (i := 0) rfl
        simp only [List.length_append, fu_len7 hm0 hm7, List.length_cons, List.length_nil, Nat.zero_add] at hrow
        obtain ⟨g, cap, rfl, -, -⟩ := hrow.form (by decide)
        have c7 : w5.cell? ⟨g, 7, none⟩ = some (.int .i64 (f + 8)) := by
          have := hrow.cells (g := g) rfl 7 (.int .i64 (f + 8)) (by
            rw [List.map_map, List.map_append, List.getElem?_append_right (by simp [fu_len7 hm0 hm7])]
            simp [fu_len7 hm0 hm7])
          simpa [Addr.add] using this
        clear hrow
        go_wp2_with (go_quiet (fail))
        refine (awake _).mono ?_
        rintro e w9 ⟨rfl, b9⟩
        go_wp2_with fail
        go_ret
        exact ⟨rfl, (o5.call b9).below⟩
end Go.Proofs.Ytlpcjngclgncmaa
