/- What All and Move of a box do: all items in order, and they stay; items go on to another box while there is room. -/
import Derived.Test.YtpngaghmojcjnaaBox
import Derived.Lib.Hide
import Derived.LaidEqlPtr
import Derived.Deep.QuietTactic
import Derived.BigQuiet
namespace Go.Proofs.Ytpngaghmojcjnaa
open Go.Conc Go.RowKit

theorem einfo_int : (Try.prog.info? 3).map (fun i => (i.zero, i.size, i.bytes)) = some (some (.int .i64 0), 1, 8) := by kernel_rfl
set_option maxHeartbeats 1600000 in
set_option maxRecDepth 100000 in
theorem all_int {b c cap : Nat} {xs : List Value} {w : World} (hbox : BoxIs 63 w b c cap xs) (h64 : xs.length ≤ 64) (hcap : xs.length ≤ cap) (h1 : ∀ u ∈ xs, ∃ n, u = .int .i64 n) :
    Calls Try.prog 19 #[.pointer (some ⟨b, 0, none⟩)] w fun e w' => ∃ v, e = .returned v ∧ w'.ownsRow w.heap.size 3 1 v xs.length xs ∧ BoxIs 63 w' b c cap xs ∧ Upd (One c) w w' := by
  have hlt := hbox.lt
  have hb : ∀ k, k < w.heap.size → ¬ One c k → k ≠ c := fun k _ h e => h e
  go_enter Try.func19, Try.ntmps19
  go_wp2_with fail
  refine (len_int hbox).mono ?_
  rintro e w' ⟨rfl, rfl⟩
  go_wp2_with fail
  clear hb
  go_loopw [3, 8] (fun v i wr => ∃ k : Nat, k ≤ xs.length ∧ i = .int .i64 k ∧ wr.ownsRow w.heap.size 3 1 v k (xs.take k) ∧ BoxIs 63 wr b c cap (xs.drop k ++ xs.take k) ∧ Upd (One c) w wr)
    (fun _ i _ => xs.length - (intOf i).toNat)
  case atStart => exact ⟨0, Nat.zero_le _, rfl, by simpa using World.ownsRow_nil _ _ _ _, by simpa using hbox, Upd.refl _ _⟩
  case round =>
    obtain ⟨k, hk, rfl, hown, hbx, hu⟩ := hrel
    by_cases hlt2 : k < xs.length
    · have hd : xs.drop k = xs[k] :: xs.drop (k + 1) := List.drop_eq_getElem_cons hlt2
      rw [hd, List.cons_append] at hbx
      clear hd
      obtain ⟨x, hx⟩ := h1 _ (List.getElem_mem hlt2)
      have hts : xs.take (k + 1) = xs.take k ++ [.int .i64 x] := by rw [← hx]; exact List.take_succ_eq_append_getElem hlt2
      rw [hx] at hbx
      have Hts := Lib.hid hts
      clear hts hx
      have hlb := hbx.lt
      go_wp2_with fail
      refine (take_int_some hbx).mono ?_
      rintro e w1 ⟨rfl, hbx1, ht1⟩
      have hown1 := ownsRow_upd hown ht1.upd (fun j hj e => by unfold One at e; omega)
      have hb1 : w.heap.size ≤ w1.heap.size := by have := ht1.size; have := hu.size; omega
      go_wp2_with (at_builtin; go_loud (refine wpList_app1 rfl (.tmp 15) (.tmp 17) 26 rfl w.heap.size 3 (.int .i64 0) 8 Try.underlying26 einfo_int rfl _ k (xs.take k) rfl hown1 _ (.int .i64 x) rfl rfl rfl (by unfold maxLen; omega) (by omega) hb1 ?_))
      intro v' w2 hown2 hg2
      rw [← Hts.out] at hown2
      have hu2 : Upd (fun j => u3.ownBlock = some j) w1 w2 := ((Upd.refl _ _).alloc _).grown hg2 (fun j hj _ => hj)
      have hob := hown1.lt
      have hbx2 := hbx1.upd hu2 (fun e => by have := hob _ e; omega) (fun e => by have := hob _ e; omega)
      have hu13 : Upd (One c) w w2 := (hu.trans ht1.upd).trans' hu2 (fun j hj e => by have := hob _ e; omega)
      clear hown hown1 hg2 hob ht1 hu2 hbx1 hu hbx
      go_wp2_with fail
      refine (put_int_room _ hbx2 (by simp only [List.length_append, List.length_drop, List.length_take]; omega)).mono ?_
      rintro e w3 ⟨rfl, hbx3, ht3⟩
      rw [List.append_assoc, ← Hts.out] at hbx3
      have hown3 := ownsRow_upd hown2 ht3.upd (fun j hj e => by unfold One at e; omega)
      have hu3 := hu13.trans ht3.upd
      clear hown2 hbx2 hu13 ht3
      go_wp2_with fail
      go_roundw
      case rel => exact ⟨k + 1, by omega, by go_num, hown3, hbx3, hu3⟩
      case measure => simp [intOf]; omega
    · have hkl : k = xs.length := by omega
      subst hkl
      rw [List.drop_length, List.nil_append, List.take_length] at hbx
      rw [List.take_length] at hown
      go_wp2_with fail
      go_ret
      exact ⟨_, rfl, hown, hbx, hu⟩

theorem einfo_str : (Try.prog.info? 9).map (fun i => (i.zero, i.size, i.bytes)) = some (some (.string ⟨#[]⟩), 1, 16) := by kernel_rfl
set_option maxHeartbeats 1600000 in
set_option maxRecDepth 100000 in
theorem all_str {b c cap : Nat} {xs : List Value} {w : World} (hbox : BoxIs 58 w b c cap xs) (h64 : xs.length ≤ 64) (hcap : xs.length ≤ cap) (h1 : ∀ u ∈ xs, ∃ n, u = .string n) :
    Calls Try.prog 16 #[.pointer (some ⟨b, 0, none⟩)] w fun e w' => ∃ v, e = .returned v ∧ w'.ownsRow w.heap.size 9 1 v xs.length xs ∧ BoxIs 58 w' b c cap xs ∧ Upd (One c) w w' := by
  have hlt := hbox.lt
  have hb : ∀ k, k < w.heap.size → ¬ One c k → k ≠ c := fun k _ h e => h e
  go_enter Try.func16, Try.ntmps16
  go_wp2_with fail
  refine (len_str hbox).mono ?_
  rintro e w' ⟨rfl, rfl⟩
  go_wp2_with fail
  clear hb
  go_loopw [3, 8] (fun v i wr => ∃ k : Nat, k ≤ xs.length ∧ i = .int .i64 k ∧ wr.ownsRow w.heap.size 9 1 v k (xs.take k) ∧ BoxIs 58 wr b c cap (xs.drop k ++ xs.take k) ∧ Upd (One c) w wr)
    (fun _ i _ => xs.length - (intOf i).toNat)
  case atStart => exact ⟨0, Nat.zero_le _, rfl, by simpa using World.ownsRow_nil _ _ _ _, by simpa using hbox, Upd.refl _ _⟩
  case round =>
    obtain ⟨k, hk, rfl, hown, hbx, hu⟩ := hrel
    by_cases hlt2 : k < xs.length
    · have hd : xs.drop k = xs[k] :: xs.drop (k + 1) := List.drop_eq_getElem_cons hlt2
      rw [hd, List.cons_append] at hbx
      clear hd
      obtain ⟨x, hx⟩ := h1 _ (List.getElem_mem hlt2)
      have hts : xs.take (k + 1) = xs.take k ++ [.string x] := by rw [← hx]; exact List.take_succ_eq_append_getElem hlt2
      rw [hx] at hbx
      have Hts := Lib.hid hts
      clear hts hx
      have hlb := hbx.lt
      go_wp2_with fail
      refine (take_str_some hbx).mono ?_
      rintro e w1 ⟨rfl, hbx1, ht1⟩
      have hown1 := ownsRow_upd hown ht1.upd (fun j hj e => by unfold One at e; omega)
      have hb1 : w.heap.size ≤ w1.heap.size := by have := ht1.size; have := hu.size; omega
      go_wp2_with (at_builtin; go_loud (refine wpList_app1 rfl (.tmp 15) (.tmp 17) 36 rfl w.heap.size 9 (.string ⟨#[]⟩) 16 Try.underlying36 einfo_str rfl _ k (xs.take k) rfl hown1 _ (.string x) rfl rfl rfl (by unfold maxLen; omega) (by omega) hb1 ?_))
      intro v' w2 hown2 hg2
      rw [← Hts.out] at hown2
      have hu2 : Upd (fun j => u3.ownBlock = some j) w1 w2 := ((Upd.refl _ _).alloc _).grown hg2 (fun j hj _ => hj)
      have hob := hown1.lt
      have hbx2 := hbx1.upd hu2 (fun e => by have := hob _ e; omega) (fun e => by have := hob _ e; omega)
      have hu13 : Upd (One c) w w2 := (hu.trans ht1.upd).trans' hu2 (fun j hj e => by have := hob _ e; omega)
      clear hown hown1 hg2 hob ht1 hu2 hbx1 hu hbx
      go_wp2_with fail
      refine (put_str_room _ hbx2 (by simp only [List.length_append, List.length_drop, List.length_take]; omega)).mono ?_
      rintro e w3 ⟨rfl, hbx3, ht3⟩
      rw [List.append_assoc, ← Hts.out] at hbx3
      have hown3 := ownsRow_upd hown2 ht3.upd (fun j hj e => by unfold One at e; omega)
      have hu3 := hu13.trans ht3.upd
      clear hown2 hbx2 hu13 ht3
      go_wp2_with fail
      go_roundw
      case rel => exact ⟨k + 1, by omega, by go_num, hown3, hbx3, hu3⟩
      case measure => simp [intOf]; omega
    · have hkl : k = xs.length := by omega
      subst hkl
      rw [List.drop_length, List.nil_append, List.take_length] at hbx
      rw [List.take_length] at hown
      go_wp2_with fail
      go_ret
      exact ⟨_, rfl, hown, hbx, hu⟩

theorem len_int' {b c cap : Nat} {xs : List Value} {w : World} (hbox : BoxIs 63 w b c cap xs) (n : Nat) :
    Calls Try.prog 21 #[.pointer (some ⟨b, 0, none⟩)] (w.drewN n) fun e w' => e = .returned (.int .i64 xs.length) ∧ w' = w.drewN n :=
  (len_int (w := w.drewN n) ⟨hbox.hb, hbox.hc⟩).mono fun _ _ ⟨h, h'⟩ => ⟨h, h'.symm⟩
theorem pinfo_int : ∃ i, Try.prog.info? 63 = some i ∧ i.size ≠ 0 := by
  have h : (Try.prog.info? 63).map (·.size) = some 1 := by kernel_rfl
  obtain ⟨i, hi, hb⟩ := Option.map_eq_some_iff.1 h
  exact ⟨i, hi, by omega⟩
theorem move_int_nil (x : Value) (w : World) : Calls Try.prog 23 #[x, .pointer none] w fun e w' => e = .returned (.int .i64 0) ∧ w = w' := by
  go_enter Try.func23, Try.ntmps23
  go_wp2
  go_ret
  exact ⟨rfl, rfl⟩
theorem move_int_self (b : Nat) (w : World) : Calls Try.prog 23 #[.pointer (some ⟨b, 0, none⟩), .pointer (some ⟨b, 0, none⟩)] w fun e w' => e = .returned (.int .i64 0) ∧ w = w' := by
  obtain ⟨i, hi, _⟩ := pinfo_int
  have hs := run_eql_ptr_same (P := Try.prog) w (tp := 39) ⟨b, 0, none⟩ Try.underlying39 hi
  go_enter Try.func23, Try.ntmps23
  go_wp2
  go_ret
  exact ⟨rfl, rfl⟩
/-- How many go on. -/
def moves (m n cap : Nat) : Nat := min m (cap - n)
set_option maxHeartbeats 3200000 in
set_option maxRecDepth 100000 in
theorem move_int_two {b c cap b' c' cap' : Nat} {xs ys : List Value} {w : World} (hx : BoxIs 63 w b c cap xs) (hy : BoxIs 63 w b' c' cap' ys) (hbb : b ≠ b') (hcc : c ≠ c') (h64 : xs.length ≤ 64) :
    Calls Try.prog 23 #[.pointer (some ⟨b, 0, none⟩), .pointer (some ⟨b', 0, none⟩)] w fun e w' => e = .returned (.int .i64 (moves xs.length ys.length cap')) ∧
      BoxIs 63 w' b c cap (xs.drop (moves xs.length ys.length cap')) ∧ BoxIs 63 w' b' c' cap' (ys ++ xs.take (moves xs.length ys.length cap')) ∧ Upd (fun k => k = c ∨ k = c') w w' := by
  obtain ⟨i, hi, hsz⟩ := pinfo_int
  have hxl := hx.lt
  have hyl := hy.lt
  have hne : (⟨b, 0, none⟩ : Addr) ≠ ⟨b', 0, none⟩ := by intro e; exact hbb (by injection e)
  have ho := run_eql_ptr_other (P := Try.prog) w (tp := 39) Try.underlying39 hi hsz hne.symm hy.hb hx.hb
  have hmv : moves xs.length ys.length cap' ≤ xs.length ∧ moves xs.length ys.length cap' ≤ cap' - ys.length := by unfold moves; omega
  have hmv2 : moves xs.length ys.length cap' = xs.length ∨ moves xs.length ys.length cap' = cap' - ys.length := by unfold moves; omega
  generalize moves xs.length ys.length cap' = m at *
  have hbb' : b' ≠ c := by intro e; obtain ⟨s, r, h⟩ := hx.hc; have := hy.hb; rw [e, h] at this; cases this
  have hbc' : b ≠ c' := by intro e; obtain ⟨s, r, h⟩ := hy.hc; have := hx.hb; rw [e, h] at this; cases this
  go_enter Try.func23, Try.ntmps23
  go_wp2
  clear ho hne
  go_loopw [5] (fun v wr => ∃ k : Nat, k ≤ m ∧ v = .int .i64 k ∧ BoxIs 63 wr b c cap (xs.drop k) ∧ BoxIs 63 wr b' c' cap' (ys ++ xs.take k) ∧ Upd (fun k => k = c ∨ k = c') w wr)
    (fun v _ => m - (intOf v).toNat)
  case atStart => exact ⟨0, Nat.zero_le _, rfl, by simpa using hx, by simpa using hy, Upd.refl _ _⟩
  case round =>
    obtain ⟨k, hk, rfl, hbx, hby, hu⟩ := hrel
    obtain ⟨s', r', hc'⟩ := hby.hc
    have hcell : wr.cell? ⟨b', 0, none⟩ = some (.chan (some c')) := by simp [World.cell?, hby.hb]
    have hcp := fun ty n => run_cap_chan (P := Try.prog) (w := wr.drewN n) 61 ty Try.underlying61 hc'
    have hl1 : (xs.drop k).length = xs.length - k := List.length_drop ..
    have hl2 : (ys ++ xs.take k).length = ys.length + k := by rw [List.length_append, List.length_take]; omega
    have H3 := Lib.hid (show xs.drop k = (xs.drop k).headD (.int .i64 0) :: xs.drop (k + 1) ∨ xs.length ≤ k from by
      rcases Nat.lt_or_ge k xs.length with h | h
      · left; rw [List.drop_eq_getElem_cons h]; rfl
      · exact .inr h)
    have H4 := Lib.hid (show k < xs.length → ys ++ xs.take (k + 1) = (ys ++ xs.take k) ++ [(xs.drop k).headD (.int .i64 0)] from fun h => by
      rw [List.drop_eq_getElem_cons h, List.take_succ_eq_append_getElem h, List.append_assoc]; rfl)
    generalize hX0 : xs.drop k = L1 at *
    generalize hY0 : ys ++ xs.take k = L2 at *
    have hX := Lib.hid hX0.symm
    have hY := Lib.hid hY0.symm
    clear hX0 hY0
    by_cases hlt : 0 < L1.length
    · have hg1 : decide ((0 : Int) < (L1.length : Int)) = true := decide_eq_true (by omega)
      have hg1' : decide (0 < L1.length) = true := decide_eq_true (by omega)
      by_cases hroom : L2.length < cap'
      · have hg2 : decide ((L2.length : Int) < (cap' : Int)) = true := decide_eq_true (by omega)
        have hg2' : decide (L2.length < cap') = true := decide_eq_true (by omega)
        have hk1 : k < m := by omega
        have H1 := Lib.hid hl1
        have H2 := Lib.hid hl2
        clear hl1 hl2 hc'
        go_wp2_with fail
        go_quiet (((go_at_call 21; first | (with_reducible exact Calls.quiet_of_same (len_int' hbx _)) | (with_reducible exact Calls.quiet_of_same (len_int' hby _)))))
        go_wp2_with fail
        have H5 := H3.out.resolve_right (by have := H1.out; omega)
        have H6 := H4.out (by have := H1.out; omega)
        generalize L1.headD (.int .i64 0) = x at H5 H6
        have H7 := Lib.hid H6
        subst H5
        clear H6 H3 H4
        refine (take_int_some (hbx.drewN nq)).mono ?_
        rintro e w1 ⟨rfl, hbx1, ht1⟩
        have hby1 := (hby.drewN nq).keep ht1 hbb' hcc.symm
        have hu1 := (hu.drewN nq).trans (ht1.upd.mono fun j _ e => Or.inl e)
        clear hbx hby hu ht1
        go_wp2_with fail
        refine (put_int_room x hby1 hroom).mono ?_
        rintro e w2 ⟨rfl, hby2, ht2⟩
        have hbx2 := hbx1.keep ht2 hbc' hcc
        have hu2 := hu1.trans (ht2.upd.mono fun j _ e => Or.inr e)
        rw [← H7.out] at hby2
        clear hbx1 hby1 hu1 ht2 H7
        go_wp2_with fail
        go_roundw
        case rel => exact ⟨k + 1, by omega, by go_num, hbx2, hby2, hu2⟩
        case measure => simp [intOf]; omega
      · have hg2 : decide ((L2.length : Int) < (cap' : Int)) = false := decide_eq_false (by omega)
        have hg2' : decide (L2.length < cap') = false := decide_eq_false (by omega)
        have hkm : k = m := by omega
        clear hl1 hl2 hc' H3 H4
        go_wp2_with fail
        go_quiet (((go_at_call 21; first | (with_reducible exact Calls.quiet_of_same (len_int' hbx _)) | (with_reducible exact Calls.quiet_of_same (len_int' hby _)))))
        go_wp2_with fail
        go_ret
        rw [← hkm]
        exact ⟨rfl, hX.out ▸ hbx.drewN _, hY.out ▸ hby.drewN _, hu.drewN _⟩
    · have hg1 : decide ((0 : Int) < (L1.length : Int)) = false := decide_eq_false (by omega)
      have hg1' : decide (0 < L1.length) = false := decide_eq_false (by omega)
      have hkm : k = m := by omega
      clear hl1 hl2 hc' H3 H4
      go_wp2_with fail
      go_quiet (((go_at_call 21; first | (with_reducible exact Calls.quiet_of_same (len_int' hbx _)) | (with_reducible exact Calls.quiet_of_same (len_int' hby _)))))
      go_wp2_with fail
      go_ret
      rw [← hkm]
      exact ⟨rfl, hX.out ▸ hbx.drewN _, hY.out ▸ hby.drewN _, hu.drewN _⟩

end Go.Proofs.Ytpngaghmojcjnaa
