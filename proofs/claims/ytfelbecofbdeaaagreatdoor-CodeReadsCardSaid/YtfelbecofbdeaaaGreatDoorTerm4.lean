/- right of layer 1: it only reads. -/
import Derived.Test.YtfelbecofbdeaaaGreatDoorTerm3
namespace Go.Proofs.YtfelbecofbdeaaaGreatDoor
open Go.RowKit

theorem many_cases {k : Int} (h0 : 0 ≤ k) (h9 : k ≤ 9) : k = 0 ∨ k = 1 ∨ k = 2 ∨ k = 3 ∨ k = 4 ∨ k = 5 ∨ k = 6 ∨ k = 7 ∨ k = 8 ∨ k = 9 := by omega
theorem index10 {k : Int} (h0 : 0 ≤ k) (h9 : k ≤ 9) (w : World) : (Instr.index 130 tenV (.int .i64 k)).run Tryz.prog w = .ok (.int .i64 (many k)) w := by
  rcases many_cases h0 h9 with rfl | rfl | rfl | rfl | rfl | rfl | rfl | rfl | rfl | rfl <;> kernel_rfl
theorem index3k (x : Nd) {k : Nat} (hk : k < 3) (w : World) : (Instr.index 133 (.agg #[.int .i64 x.a, .int .i64 x.b, .int .i64 x.c]) (.int .i64 k)).run Tryz.prog w = .ok (.int .i64 (x.part k)) w := by
  match k, hk with
  | 0, _ => exact (index3 _ _ _ w).1
  | 1, _ => exact (index3 _ _ _ w).2.1
  | 2, _ => exact (index3 _ _ _ w).2.2
def okPart (l : List Nd) (x : Nd) (k : Nat) : Bool := if k < many x.kind then has l (x.part k) else decide (x.part k = 0)
theorem partsOk_iff (l : List Nd) (x : Nd) : partsOk l x = true ↔ ∀ k, k < 3 → okPart l x k = true := by
  unfold partsOk okPart
  rw [List.all_eq_true]
  exact ⟨fun h k hk => h k (List.mem_range.2 hk), fun h k hk => h k (List.mem_range.1 hk)⟩
def RightPost (l : List Nd) (x : Nd) (w : World) (e : Ending) (w' : World) : Prop := e = .returned (.bool (right l x)) ∧ Below w.heap.size w w'
theorem right_bad {l : List Nd} {x : Nd} (h : x.kind < 0 ∨ 9 < x.kind ∨ numberedP x = false ∨ partsOk l x = false) : right l x = false := by
  unfold right
  split
  · rfl
  · rename_i h1
    split
    · rfl
    · rename_i h2
      split
      · rfl
      · rename_i h3
        exfalso
        rcases h with h | h | h | h
        · exact h1 (.inl h)
        · exact h1 (.inr h)
        · exact h2 h
        · exact h3 h
set_option maxHeartbeats 3200000 in
set_option maxRecDepth 100000 in
theorem right_calls {S : Nat → Prop} {r : Nat} {R : Ar} {x : Nd} {w : World} (hr : IsArena w r R S) (hn0 : 0 ≤ x.n) (hn1 : x.n ≤ 18446744073709551615) :
    Calls Tryz.prog 60 #[.pointer (some ⟨r, 0, none⟩), x.val] w (RightPost R.l x w) := by
  by_cases hk : x.kind < 0
  · have hbad := Lib.hid (right_bad (l := R.l) (x := x) (.inl hk))
    have hd : decide (x.kind < 0) = true := decide_eq_true hk
    unfold Nd.val
    go_enter Tryz.func60, Tryz.ntmps60
    go_wp2_with fail
    go_ret
    exact ⟨ret_bool hbad.out.symm, (Below.refl _ _).alloc (Nat.le_refl _) _⟩
  by_cases hk9 : 9 < x.kind
  · have hbad := Lib.hid (right_bad (l := R.l) (x := x) (.inr (.inl hk9)))
    have hd : decide (x.kind < 0) = false := decide_eq_false hk
    have hd9 : decide (9 < x.kind) = true := decide_eq_true hk9
    unfold Nd.val
    go_enter Tryz.func60, Tryz.ntmps60
    go_wp2_with fail
    go_ret
    exact ⟨ret_bool hbad.out.symm, (Below.refl _ _).alloc (Nat.le_refl _) _⟩
  have hd : decide (x.kind < 0) = false := decide_eq_false hk
  have hd9 : decide (9 < x.kind) = false := decide_eq_false hk9
  have Hr := Lib.hid hr
  have hk0 : 0 ≤ x.kind := by omega
  have hk9' : x.kind ≤ 9 := by omega
  have hi10 := fun w => index10 hk0 hk9' w
  have Hbad := Lib.hid (right_bad (l := R.l) (x := x))
  clear hr hk hk9
  have hvx : x.val = .agg #[.int .i64 x.kind, .int .u64 x.n, .int .i64 x.a, .int .i64 x.b, .int .i64 x.c] := rfl
  rw [hvx]
  have Hvx := Lib.hid hvx
  clear hvx
  go_enter Tryz.func60, Tryz.ntmps60
  go_wp2_with fail
  refine (numbered_calls x _ hn0 hn1).mono ?_
  rintro e w1 ⟨rfl, hb1⟩
  have nx : NdAt w1 w.heap.size x := NdAt.below (w := w.alloc (.cells #[.int .i64 x.kind, .int .u64 x.n, .int .i64 x.a, .int .i64 x.b, .int .i64 x.c] 61)) (heap_alloc_new w _) hb1
  have hbw : Below w.heap.size w w1 := ((Below.refl _ _).alloc (Nat.le_refl _) _).trans (hb1.mono (by simp))
  clear hb1 hn0 hn1
  cases hnum : numberedP x with
  | false =>
    have hb := Lib.hid (Hbad.out (.inr (.inr (.inl hnum))))
    clear hi10 Hbad
    go_wp2_with fail
    go_ret
    exact ⟨ret_bool hb.out.symm, hbw⟩
  | true =>
    have lx := lt_of_heap nx
    obtain ⟨c0, -, c2, c3, c4⟩ := nx.cells
    go_upto_region 3 with fail
    go_cut [5] (fun s5 wx => s5 = .int .i64 (many x.kind) ∧ Below w1.heap.size w1 wx)
    case first =>
      go_region_held3 (fun w' => w'.cell? ⟨w.heap.size, 0, none⟩ = some (.int .i64 x.kind))
        (first | go_keep | exact (hbp.cell (p := ⟨w.heap.size, 0, none⟩) (by simpa using lx)).trans (by assumption))
        (first | (go_at_call 88; refine (parts_calls _).mono ?_; rintro e wp ⟨rfl, hbp⟩))
      all_goals go_wp2_with fail
      all_goals go_meet
      all_goals exact ⟨rfl, (Below.refl _ _).drew.trans hbp⟩
    case rest =>
      obtain ⟨rfl, hbc⟩ := hcut
      have nxc := nx.below hbc
      have hbw2 := hbw.trans (hbc.mono hbw.size)
      clear hbc hbw nx c0 c2 c3 c4 hi10
      have lx := lt_of_heap nxc
      obtain ⟨c0, -, c2, c3, c4⟩ := nxc.cells
      have Nx := Lib.hid nxc
      clear nxc
      have hi3 := fun (k : Nat) (hk : k < 3) (w : World) => index3k x hk w
      have Hi3 := Lib.hid hi3
      clear hi3
      have hmany : many x.kind ≤ 3 := by unfold many; (repeat' split) <;> omega
      generalize hmg : many x.kind = m at *
      have Hmg := Lib.hid hmg
      clear hmg
      go_wp2_with fail
      clear c0 c2 c3 c4
      go_loopw [32] (fun i wr => ∃ k : Nat, k ≤ 3 ∧ i = .int .i64 k ∧ Hid (∀ j, j < k → okPart R.l x j = true) ∧ Below wc.heap.size wc wr) (fun i _ => 3 - (intOf i).toNat)
      case atStart => exact ⟨0, by omega, rfl, fun j hj => absurd hj (by omega), Below.refl _ _⟩
      case round =>
        obtain ⟨k, hk, rfl, hall, hbr⟩ := hrel
        by_cases hk3 : k < 3
        · have hix := fun w => Hi3.out k hk3 w
          have hok : okPart R.l x k = if k < m then has R.l (x.part k) else decide (x.part k = 0) := by unfold okPart; rw [Hmg.out]
          have Hok := Lib.hid hok
          clear hok
          have hbad1 : okPart R.l x k = false → right R.l x = false := fun h => Hbad.out (.inr (.inr (.inr (by
            cases hp : partsOk R.l x with
            | false => rfl
            | true => rw [(partsOk_iff R.l x).1 hp k hk3] at h; cases h))))
          have Hbad1 := Lib.hid hbad1
          clear hbad1
          have hnext : okPart R.l x k = true → Hid (∀ j, j < k + 1 → okPart R.l x j = true) := fun h j hj => by
            rcases Nat.lt_or_ge j k with h' | h'
            · exact hall.out j h'
            · obtain rfl : j = k := by omega
              exact h
          have Hnext := Lib.hid hnext
          clear hnext hall
          generalize x.part k = q at *
          have hbwr := hbw2.trans (hbr.mono hbw2.size)
          by_cases hkm : k < m
          · have hkm1 : decide ((k : Int) < (m : Int)) = true := decide_eq_true (by omega)
            have hkm2 : decide ((m : Int) ≤ (k : Int)) = false := decide_eq_false (by omega)
            have Hok2 := Lib.hid (show okPart R.l x k = has R.l q by rw [Hok.out, if_pos hkm])
            clear Hok
            go_wp2_with fail
            with_reducible refine (has_one (x := q) (Hr.out.below (hbwr.alloc hbwr.size _)) (by go_simp)).mono ?_
            rintro e w4 ⟨rfl, hb4⟩
            have hbr4 := (hbr.alloc hbr.size _).trans (hb4.mono (by have := hbr.size; simp; omega))
            clear hb4
            cases hh : has R.l q with
            | true =>
              have hn := Hnext.out (by rw [Hok2.out, hh])
              clear Hnext Hbad1 Hok2
              go_wp2_with fail
              go_roundw
              case rel => exact ⟨k + 1, by omega, by go_num, hn, hbr4⟩
              case measure => simp [intOf]; omega
            | false =>
              have hb := Lib.hid (Hbad1.out (by rw [Hok2.out, hh]))
              clear Hnext Hbad1 Hok2
              go_wp2_with fail
              go_ret
              exact ⟨ret_bool hb.out.symm, hbw2.trans (hbr4.mono hbw2.size)⟩
          · have hkm1 : decide ((k : Int) < (m : Int)) = false := decide_eq_false (by omega)
            have hkm2 : decide ((m : Int) ≤ (k : Int)) = true := decide_eq_true (by omega)
            have Hok2 := Lib.hid (show okPart R.l x k = decide (q = 0) by rw [Hok.out, if_neg hkm])
            clear Hok
            by_cases hq : q = 0
            · have hq1 : (q != 0) = false := by simp [hq]
              have hn := Hnext.out (by rw [Hok2.out]; simp [hq])
              clear Hnext Hbad1 Hok2 hq
              go_wp2_with fail
              go_roundw
              case rel => exact ⟨k + 1, by omega, by go_num, hn, hbr⟩
              case measure => simp [intOf]; omega
            · have hq1 : (q != 0) = true := by simp [hq]
              have hb := Lib.hid (Hbad1.out (by rw [Hok2.out]; simp [hq]))
              clear Hnext Hbad1 Hok2
              go_wp2_with fail
              go_ret
              exact ⟨ret_bool hb.out.symm, hbwr⟩
        · have hall3 : partsOk R.l x = true := (partsOk_iff R.l x).2 (fun j hj => hall.out j (by omega))
          have hbwr := hbw2.trans (hbr.mono hbw2.size)
          have nr := Nx.out.below hbr
          have lr := lt_of_heap nr
          obtain ⟨c0, -, c2, c3, c4⟩ := nr.cells
          have hR : right R.l x = if x.kind = 3 then decide (cmpA R.l x.a x.b ≤ 0) else if x.kind = 4 then decide ((nd R.l x.b).kind ≠ 2) else true := by
            unfold right
            rw [if_neg (by omega), if_neg (by rw [hnum]; decide), if_neg (by rw [hall3]; decide)]
          have HR := Lib.hid hR
          clear hR hall Hbad hbr hbw2 Nx nr
          by_cases h3 : x.kind = 3
          · have h31 : (x.kind == 3) = true := by simp [h3]
            have HR2 := Lib.hid (show right R.l x = decide (cmpA R.l x.a x.b ≤ 0) by rw [HR.out, if_pos h3])
            clear h3 HR
            go_wp2_with fail
            refine (cmp_calls x.a x.b (Hr.out.below hbwr)).mono ?_
            rintro e w4 ⟨rfl, hb4⟩
            go_wp2_with fail
            go_ret
            exact ⟨ret_bool HR2.out.symm, hbwr.trans (hb4.mono hbwr.size)⟩
          · have h31 : (x.kind == 3) = false := by simp [h3]
            by_cases h4 : x.kind = 4
            · have h41 : (x.kind == 4) = true := by simp [h4]
              have hb1 : has R.l x.b = true := by
                have := (partsOk_iff R.l x).1 hall3 1 (by omega)
                unfold okPart at this
                rw [if_pos (by rw [h4]; decide)] at this
                exact this
              have HR2 := Lib.hid (show right R.l x = ((nd R.l x.b).kind != 2) by rw [HR.out, if_neg h3, if_pos h4, Bool.eq_iff_iff]; simp)
              obtain ⟨g, cap, bm, -, a1, -, an⟩ := (Hr.out.below hbwr).cells
              have hg := (an x.b.toNat (nd R.l x.b) (getElem?_of_has hb1)).1
              have hb2 := has_iff.1 hb1
              clear an h3 h4 HR
              generalize x.b = q at *
              obtain ⟨qn, rfl⟩ := Int.eq_ofNat_of_zero_le hb2.1
              rw [Int.toNat_natCast] at hg
              have hq2 : (qn : Int) < R.l.length := hb2.2
              generalize nd R.l qn = y at *
              go_wp2_with fail
              go_quiet (fail)
              go_wp2_with fail
              go_ret
              exact ⟨ret_bool HR2.out.symm, hbwr.trans (Upd.below (S := None) ((Upd.refl _ _).drewN _) hbwr.size (fun _ _ h => h))⟩
            · have h41 : (x.kind == 4) = false := by simp [h4]
              have HR2 := Lib.hid (show right R.l x = true by rw [HR.out, if_neg h3, if_neg h4])
              clear h3 h4 HR
              go_wp2_with fail
              go_ret
              exact ⟨ret_bool HR2.out.symm, hbwr⟩
end Go.Proofs.YtfelbecofbdeaaaGreatDoor
