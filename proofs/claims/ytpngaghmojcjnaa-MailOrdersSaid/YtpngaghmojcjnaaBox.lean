/- What New, Put, Take and Len of a box of layer 16 do to the world: a box holds a list of values, up to its room; nothing else changes. No condition but that the box is one. -/
import Derived.Test.YtpngaghmojcjnaaLib
import Derived.Conc.LoneCalls
import Derived.Conc.LoneSelect
import Derived.Conc.LoneSelectN
namespace Go.Proofs.Ytpngaghmojcjnaa
open Go.Conc Go.RowKit

/-- The room of a box. -/
def roomOf (room : Int) : Nat := (min (max room 1) 64).toNat
theorem roomOf_le (r : Int) : roomOf r ≤ 64 := by unfold roomOf; omega
theorem roomOf_pos (r : Int) : 1 ≤ roomOf r := by unfold roomOf; omega
theorem roomOf_cast (r : Int) : ((roomOf r : Nat) : Int) = min (max r 1) 64 := by unfold roomOf; omega

/-- Block b is a box, over the channel in block c, with such room, that holds xs. -/
structure BoxIs (T : TypeId) (w : World) (b c cap : Nat) (xs : List Value) : Prop where
  hb : w.heap[b]? = some (.cells #[.chan (some c)] T (0, 0))
  hc : ∃ s r, w.heap[c]? = some (.chan cap xs.toArray false s r false)

/-- Nothing but block c has changed. -/
structure Touch (c : Nat) (w w' : World) : Prop where
  os : w'.os = w.os
  tape : w'.tape = w.tape
  output : w'.output = w.output
  size : w'.heap.size = w.heap.size
  block : ∀ k, k ≠ c → w'.heap[k]? = w.heap[k]?

theorem Touch.refl (c : Nat) (w : World) : Touch c w w := ⟨rfl, rfl, rfl, rfl, fun _ _ => rfl⟩
theorem Touch.trans {c : Nat} {w w' w'' : World} (h : Touch c w w') (h' : Touch c w' w'') : Touch c w w'' :=
  ⟨h'.os.trans h.os, h'.tape.trans h.tape, h'.output.trans h.output, h'.size.trans h.size, fun k hk => (h'.block k hk).trans (h.block k hk)⟩
theorem Touch.setChan (w : World) (c cap : Nat) (buf : Array Value) (cl : Bool) (s r : Nat) (tm : Bool) : Touch c w (w.setChan c cap buf cl s r tm) :=
  ⟨rfl, rfl, rfl, by simp [World.setChan], fun k hk => by simp only [World.setChan]; rw [Array.getElem?_setIfInBounds_ne (by omega)]⟩
theorem Touch.below {c : Nat} {w w' : World} (h : Touch c w w') {B : Nat} (hc : B ≤ c) : Below B w w' :=
  ⟨h.os, h.tape, h.output, by have := h.size; omega, fun k hk => h.block k (by omega)⟩
theorem Touch.upd {c : Nat} {w w' : World} (h : Touch c w w') : Upd (One c) w w' := ⟨h.os, h.tape, h.output, by have := h.size; omega, fun k _ hk => h.block k hk⟩
theorem BoxIs.upd {T : TypeId} {w w' : World} {b c cap : Nat} {xs : List Value} {S : Nat → Prop} (h : BoxIs T w b c cap xs) (t : Upd S w w') (h1 : ¬ S b) (h2 : ¬ S c) : BoxIs T w' b c cap xs := by
  obtain ⟨s, r, hc⟩ := h.hc
  exact ⟨t.heap h.hb h1, s, r, t.heap hc h2⟩
theorem BoxIs.drewN {T : TypeId} {w : World} {b c cap : Nat} {xs : List Value} (h : BoxIs T w b c cap xs) (n : Nat) : BoxIs T (w.drewN n) b c cap xs := ⟨h.hb, h.hc⟩
theorem BoxIs.lt {T : TypeId} {w : World} {b c cap : Nat} {xs : List Value} (h : BoxIs T w b c cap xs) : b < w.heap.size ∧ c < w.heap.size := by
  obtain ⟨s, r, hc⟩ := h.hc
  exact ⟨lt_of_heap h.hb, lt_of_heap hc⟩
theorem BoxIs.ne {T : TypeId} {w : World} {b c cap : Nat} {xs : List Value} (h : BoxIs T w b c cap xs) : b ≠ c := by
  intro e; subst e
  obtain ⟨s, r, hc⟩ := h.hc
  have := h.hb
  rw [hc] at this; cases this
theorem BoxIs.set {T : TypeId} {w : World} {b c cap : Nat} {xs : List Value} (h : BoxIs T w b c cap xs) (ys : List Value) (s r : Nat) : BoxIs T (w.setChan c cap ys.toArray false s r false) b c cap ys := by
  obtain ⟨s', r', hc⟩ := h.hc
  exact ⟨((Touch.setChan w c cap ys.toArray false s r false).block b h.ne).trans h.hb, s, r, heap_setChan _ _ _ _ _ _ _ _ (lt_of_heap hc)⟩
theorem BoxIs.keep {T : TypeId} {w w' : World} {b c d cap : Nat} {xs : List Value} (h : BoxIs T w b c cap xs) (t : Touch d w w') (h1 : b ≠ d) (h2 : c ≠ d) : BoxIs T w' b c cap xs := by
  obtain ⟨s, r, hc⟩ := h.hc
  exact ⟨(t.block b h1).trans h.hb, s, r, (t.block c h2).trans hc⟩

/-! ### boxes of int -/
theorem info_int : ∃ i, Try.prog.info? 3 = some i ∧ i.bytes = 8 := by
  have h : (Try.prog.info? 3).map (·.bytes) = some 8 := by kernel_rfl
  obtain ⟨i, hi, hb⟩ := Option.map_eq_some_iff.1 h
  exact ⟨i, hi, hb⟩
theorem mkChan_int (r : Int) (w : World) : (Instr.makeChan 61 (.int .i64 (min (max r 1) 64))).run Try.prog w = .ok (.chan (some w.heap.size)) (w.alloc (.chan (roomOf r) #[] false 0 0 false)) := by
  obtain ⟨i, hi, hb⟩ := info_int
  have := run_makeChan (P := Try.prog) (w := w) Try.underlying61 hi .i64 (roomOf r) (by have := roomOf_le r; omega) (by rw [hb]; have := roomOf_le r; omega)
  rwa [roomOf_cast] at this
set_option maxHeartbeats 400000 in
theorem new_int_at (room : Int) (w : World) : Calls Try.prog 17 #[.int .i64 room] w fun e w' =>
    e = .returned (.pointer (some ⟨w.heap.size + 1, 0, none⟩)) ∧ w' = (w.alloc (.chan (roomOf room) #[] false 0 0 false)).alloc (.cells #[.chan (some w.heap.size)] 63 (0, 0)) := by
  have hmc := mkChan_int room
  go_enter Try.func17, Try.ntmps17
  go_wp2
  go_ret
  exact ⟨rfl, rfl⟩
theorem new_int (room : Int) (w : World) : Calls Try.prog 17 #[.int .i64 room] w fun e w' =>
    e = .returned (.pointer (some ⟨w.heap.size + 1, 0, none⟩)) ∧ BoxIs 63 w' (w.heap.size + 1) w.heap.size (roomOf room) [] ∧ Below w.heap.size w w' ∧ w'.heap.size = w.heap.size + 2 :=
  (new_int_at room w).mono fun e w' ⟨he, hw⟩ => by
    subst hw
    refine ⟨he, ⟨?_, 0, 0, ?_⟩, ((Below.refl _ _).alloc (Nat.le_refl _) _).alloc (by simp) _, by simp⟩
    · have := heap_alloc_new (w.alloc (.chan (roomOf room) #[] false 0 0 false)) (.cells #[.chan (some w.heap.size)] 63 (0, 0))
      simpa only [World.size_alloc] using this
    · rw [Below.heap_alloc _ _ _ (by simp)]
      exact heap_alloc_new w _

set_option maxRecDepth 100000 in
theorem put_int_room {b c cap : Nat} {xs : List Value} (x : Value) {w : World} (hbox : BoxIs 63 w b c cap xs) (hroom : xs.length < cap) :
    Calls Try.prog 18 #[.pointer (some ⟨b, 0, none⟩), x] w fun e w' => e = .returned (.bool true) ∧ BoxIs 63 w' b c cap (xs ++ [x]) ∧ Touch c w w' := by
  refine calls_of_loneTo fun cs => ?_
  have e : Frame.enter Try.prog 18 #[.pointer (some ⟨b, 0, none⟩), x] .normal = (base 18).at ⟨#[.pointer (some ⟨b, 0, none⟩), x, undef, undef, undef, undef, undef, undef, undef, undef, undef, undef, undef], []⟩ [.code (Try.f18.body.getD .skip)] := by
    simp [Frame.enter, Frame.at, Try.func18, base, Try.f18]
  rw [e]
  obtain ⟨s, r, hc⟩ := hbox.hc
  have hcell : w.cell? ⟨b, 0, none⟩ = some (.chan (some c)) := by simp [World.cell?, hbox.hb]
  refine LoneTo.goes (n := 60) ?_
  simp only [Try.f18, Option.getD_some]
  s_c stepG_seq
  s_reg
  s_op
  s_c stepG_region_end
  s_c stepG_seq
  s_c stepG_seq
  s_reg
  s_op
  s_op
  s_op
  s_op
  s_c stepG_region_end
  s_reg
  s_op
  s_c stepG_region_end
  s_c stepG_seq
  s_reg
  s_stop
  refine LoneTo.step (step_lone_select_send_room (c := c) (v := x) (z' := .int .i64 0) (cap := cap) (buf := xs.toArray) (s := s) (r := r) (tm := false)
    (stepG_comm (cases := #[scase c x (.int .i64 0)]) (blocking := false) (shape := .select) (w' := w) rfl rfl (by decide) (by simp [go_sem, execOp, scase, Act.eval]))
    hc (by simpa using hroom)) ?_
  rw [Frame.finish_at]
  walk_nrm
  refine LoneTo.goes (n := 19) ?_
  s_op
  s_op
  s_c stepG_region_end
  s_c stepG_block
  s_cond true
  s_c stepG_seq
  s_reg
  s_op
  s_c stepG_region_end
  s_c stepG_ret'
  s_stop
  refine LoneTo.done ⟨.returned (.bool true), _, rfl, ⟨rfl, ?_⟩, rfl, rfl, rfl, rfl, _, Try.func18, by simp [results, Try.f18, Frame.at]⟩
  exact ⟨hbox.set _ _ _, Touch.setChan _ _ _ _ _ _ _ _⟩

set_option maxRecDepth 100000 in
theorem put_int_full {b c cap : Nat} {xs : List Value} (x : Value) {w : World} (hbox : BoxIs 63 w b c cap xs) (hroom : cap ≤ xs.length) :
    Calls Try.prog 18 #[.pointer (some ⟨b, 0, none⟩), x] w fun e w' => e = .returned (.bool false) ∧ BoxIs 63 w' b c cap (xs) ∧ Touch c w w' := by
  refine calls_of_loneTo fun cs => ?_
  have e : Frame.enter Try.prog 18 #[.pointer (some ⟨b, 0, none⟩), x] .normal = (base 18).at ⟨#[.pointer (some ⟨b, 0, none⟩), x, undef, undef, undef, undef, undef, undef, undef, undef, undef, undef, undef], []⟩ [.code (Try.f18.body.getD .skip)] := by
    simp [Frame.enter, Frame.at, Try.func18, base, Try.f18]
  rw [e]
  obtain ⟨s, r, hc⟩ := hbox.hc
  have hcell : w.cell? ⟨b, 0, none⟩ = some (.chan (some c)) := by simp [World.cell?, hbox.hb]
  refine LoneTo.goes (n := 60) ?_
  simp only [Try.f18, Option.getD_some]
  s_c stepG_seq
  s_reg
  s_op
  s_c stepG_region_end
  s_c stepG_seq
  s_c stepG_seq
  s_reg
  s_op
  s_op
  s_op
  s_op
  s_c stepG_region_end
  s_reg
  s_op
  s_c stepG_region_end
  s_c stepG_seq
  s_reg
  s_stop
  refine LoneTo.step (step_lone_select_send_full (c := c) (v := x) (z' := .int .i64 0) (cap := cap) (buf := xs.toArray) (s := s) (r := r) (tm := false)
    (stepG_comm (cases := #[scase c x (.int .i64 0)]) (blocking := false) (shape := .select) (w' := w) rfl rfl (by decide) (by simp [go_sem, execOp, scase, Act.eval]))
    hc (by simpa using hroom)) ?_
  rw [Frame.finish_at]
  walk_nrm
  refine LoneTo.goes (n := 19) ?_
  s_op
  s_op
  s_c stepG_region_end
  s_c stepG_block
  s_cond false
  s_c stepG_seq
  s_reg
  s_op
  s_c stepG_region_end
  s_c stepG_ret'
  s_stop
  refine LoneTo.done ⟨.returned (.bool false), _, rfl, ⟨rfl, ?_⟩, rfl, rfl, rfl, rfl, _, Try.func18, by simp [results, Try.f18, Frame.at]⟩
  exact ⟨hbox, Touch.refl _ _⟩

set_option maxRecDepth 100000 in
theorem take_int_some {b c cap : Nat} {x : Value} {xs : List Value} {w : World} (hbox : BoxIs 63 w b c cap (x :: xs)) :
    Calls Try.prog 20 #[.pointer (some ⟨b, 0, none⟩)] w fun e w' => e = .returned (.tuple #[x, .bool true]) ∧ BoxIs 63 w' b c cap xs ∧ Touch c w w' := by
  refine calls_of_loneTo fun cs => ?_
  have e : Frame.enter Try.prog 20 #[.pointer (some ⟨b, 0, none⟩)] .normal = (base 20).at ⟨#[.pointer (some ⟨b, 0, none⟩), undef, undef, undef, undef, undef, undef, undef, undef, undef, undef, undef, undef, undef, undef, undef], []⟩ [.code (Try.f20.body.getD .skip)] := by
    simp [Frame.enter, Frame.at, Try.func20, base, Try.f20]
  rw [e]
  obtain ⟨s, r, hc⟩ := hbox.hc
  have hcell : w.cell? ⟨b, 0, none⟩ = some (.chan (some c)) := by simp [World.cell?, hbox.hb]
  refine LoneTo.goes (n := 60) ?_
  simp only [Try.f20, Option.getD_some]
  s_c stepG_seq
  s_reg
  s_op
  s_op
  s_c stepG_region_end
  s_c stepG_seq
  s_reg
  s_op
  s_op
  s_op
  s_op
  s_c stepG_region_end
  s_c stepG_seq
  s_reg
  s_stop
  refine LoneTo.step (step_lone_select_recv_buf (c := c) (z := .int .i64 0) (cap := cap) (buf := (x :: xs).toArray) (closed := false) (s := s) (r := r) (tm := false)
    (stepG_comm (cases := #[rcase c (.int .i64 0)]) (blocking := false) (shape := .select) (w' := w) rfl rfl (by decide) (by simp [go_sem, execOp, rcase, Act.eval]))
    hc (by simp)) ?_
  rw [Frame.finish_at]
  walk_nrm
  refine LoneTo.goes (n := 40) ?_
  s_op
  s_op
  s_c stepG_region_end
  s_c stepG_block
  s_cond true
  s_c stepG_seq
  s_reg
  s_op
  s_op
  s_c stepG_region_end
  s_c stepG_seq
  s_reg
  s_op
  s_op
  s_op
  s_c stepG_region_end
  s_c stepG_ret'
  s_stop
  refine LoneTo.done ⟨.returned (.tuple #[x, .bool true]), _, rfl, ⟨rfl, ?_⟩, rfl, rfl, rfl, rfl, _, Try.func20, by simp [results, Try.f20, Frame.at]⟩
  exact ⟨hbox.set _ _ _, Touch.setChan _ _ _ _ _ _ _ _⟩

set_option maxRecDepth 100000 in
theorem take_int_none {b c cap : Nat} {w : World} (hbox : BoxIs 63 w b c cap []) :
    Calls Try.prog 20 #[.pointer (some ⟨b, 0, none⟩)] w fun e w' => e = .returned (.tuple #[.int .i64 0, .bool false]) ∧ BoxIs 63 w' b c cap [] ∧ Touch c w w' := by
  refine calls_of_loneTo fun cs => ?_
  have e : Frame.enter Try.prog 20 #[.pointer (some ⟨b, 0, none⟩)] .normal = (base 20).at ⟨#[.pointer (some ⟨b, 0, none⟩), undef, undef, undef, undef, undef, undef, undef, undef, undef, undef, undef, undef, undef, undef, undef], []⟩ [.code (Try.f20.body.getD .skip)] := by
    simp [Frame.enter, Frame.at, Try.func20, base, Try.f20]
  rw [e]
  obtain ⟨s, r, hc⟩ := hbox.hc
  have hcell : w.cell? ⟨b, 0, none⟩ = some (.chan (some c)) := by simp [World.cell?, hbox.hb]
  refine LoneTo.goes (n := 60) ?_
  simp only [Try.f20, Option.getD_some]
  s_c stepG_seq
  s_reg
  s_op
  s_op
  s_c stepG_region_end
  s_c stepG_seq
  s_reg
  s_op
  s_op
  s_op
  s_op
  s_c stepG_region_end
  s_c stepG_seq
  s_reg
  s_stop
  refine LoneTo.step (step_lone_select_default (c := c) (z := .int .i64 0) (cap := cap) (s := s) (r := r) (tm := false)
    (stepG_comm (cases := #[rcase c (.int .i64 0)]) (blocking := false) (shape := .select) (w' := w) rfl rfl (by decide) (by simp [go_sem, execOp, rcase, Act.eval]))
    hc) ?_
  rw [Frame.finish_at]
  walk_nrm
  refine LoneTo.goes (n := 40) ?_
  s_op
  s_op
  s_c stepG_region_end
  s_c stepG_block
  s_cond false
  s_c stepG_seq
  s_reg
  s_op
  s_c stepG_region_end
  s_c stepG_seq
  s_reg
  s_op
  s_op
  s_op
  s_c stepG_region_end
  s_c stepG_ret'
  s_stop
  refine LoneTo.done ⟨.returned (.tuple #[.int .i64 0, .bool false]), _, rfl, ⟨rfl, ?_⟩, rfl, rfl, rfl, rfl, _, Try.func20, by simp [results, Try.f20, Frame.at]⟩
  exact ⟨hbox, Touch.refl _ _⟩

set_option maxHeartbeats 400000 in
theorem len_int {b c cap : Nat} {xs : List Value} {w : World} (hbox : BoxIs 63 w b c cap xs) :
    Calls Try.prog 21 #[.pointer (some ⟨b, 0, none⟩)] w fun e w' => e = .returned (.int .i64 xs.length) ∧ w = w' := by
  obtain ⟨s, r, hc⟩ := hbox.hc
  have hcell : w.cell? ⟨b, 0, none⟩ = some (.chan (some c)) := by simp [World.cell?, hbox.hb]
  have hlen := fun ty => run_len_chan (P := Try.prog) 61 ty Try.underlying61 hc
  simp only [List.size_toArray] at hlen
  clear hbox
  go_enter Try.func21, Try.ntmps21
  go_wp2
  go_ret
  exact ⟨rfl, rfl⟩

/-! ### boxes of rows -/
theorem info_rows : ∃ i, Try.prog.info? 26 = some i ∧ i.bytes = 24 := by
  have h : (Try.prog.info? 26).map (·.bytes) = some 24 := by kernel_rfl
  obtain ⟨i, hi, hb⟩ := Option.map_eq_some_iff.1 h
  exact ⟨i, hi, hb⟩
theorem mkChan_rows (r : Int) (w : World) : (Instr.makeChan 53 (.int .i64 (min (max r 1) 64))).run Try.prog w = .ok (.chan (some w.heap.size)) (w.alloc (.chan (roomOf r) #[] false 0 0 false)) := by
  obtain ⟨i, hi, hb⟩ := info_rows
  have := run_makeChan (P := Try.prog) (w := w) Try.underlying53 hi .i64 (roomOf r) (by have := roomOf_le r; omega) (by rw [hb]; have := roomOf_le r; omega)
  rwa [roomOf_cast] at this
set_option maxHeartbeats 400000 in
theorem new_rows_at (room : Int) (w : World) : Calls Try.prog 9 #[.int .i64 room] w fun e w' =>
    e = .returned (.pointer (some ⟨w.heap.size + 1, 0, none⟩)) ∧ w' = (w.alloc (.chan (roomOf room) #[] false 0 0 false)).alloc (.cells #[.chan (some w.heap.size)] 55 (0, 0)) := by
  have hmc := mkChan_rows room
  go_enter Try.func9, Try.ntmps9
  go_wp2
  go_ret
  exact ⟨rfl, rfl⟩
theorem new_rows (room : Int) (w : World) : Calls Try.prog 9 #[.int .i64 room] w fun e w' =>
    e = .returned (.pointer (some ⟨w.heap.size + 1, 0, none⟩)) ∧ BoxIs 55 w' (w.heap.size + 1) w.heap.size (roomOf room) [] ∧ Below w.heap.size w w' ∧ w'.heap.size = w.heap.size + 2 :=
  (new_rows_at room w).mono fun e w' ⟨he, hw⟩ => by
    subst hw
    refine ⟨he, ⟨?_, 0, 0, ?_⟩, ((Below.refl _ _).alloc (Nat.le_refl _) _).alloc (by simp) _, by simp⟩
    · have := heap_alloc_new (w.alloc (.chan (roomOf room) #[] false 0 0 false)) (.cells #[.chan (some w.heap.size)] 55 (0, 0))
      simpa only [World.size_alloc] using this
    · rw [Below.heap_alloc _ _ _ (by simp)]
      exact heap_alloc_new w _

set_option maxRecDepth 100000 in
theorem put_rows_room {b c cap : Nat} {xs : List Value} (x : Value) {w : World} (hbox : BoxIs 55 w b c cap xs) (hroom : xs.length < cap) :
    Calls Try.prog 10 #[.pointer (some ⟨b, 0, none⟩), x] w fun e w' => e = .returned (.bool true) ∧ BoxIs 55 w' b c cap (xs ++ [x]) ∧ Touch c w w' := by
  refine calls_of_loneTo fun cs => ?_
  have e : Frame.enter Try.prog 10 #[.pointer (some ⟨b, 0, none⟩), x] .normal = (base 10).at ⟨#[.pointer (some ⟨b, 0, none⟩), x, undef, undef, undef, undef, undef, undef, undef, undef, undef, undef, undef], []⟩ [.code (Try.f10.body.getD .skip)] := by
    simp [Frame.enter, Frame.at, Try.func10, base, Try.f10]
  rw [e]
  obtain ⟨s, r, hc⟩ := hbox.hc
  have hcell : w.cell? ⟨b, 0, none⟩ = some (.chan (some c)) := by simp [World.cell?, hbox.hb]
  refine LoneTo.goes (n := 60) ?_
  simp only [Try.f10, Option.getD_some]
  s_c stepG_seq
  s_reg
  s_op
  s_c stepG_region_end
  s_c stepG_seq
  s_c stepG_seq
  s_reg
  s_op
  s_op
  s_op
  s_op
  s_c stepG_region_end
  s_reg
  s_op
  s_c stepG_region_end
  s_c stepG_seq
  s_reg
  s_stop
  refine LoneTo.step (step_lone_select_send_room (c := c) (v := x) (z' := .slice none 0 0) (cap := cap) (buf := xs.toArray) (s := s) (r := r) (tm := false)
    (stepG_comm (cases := #[scase c x (.slice none 0 0)]) (blocking := false) (shape := .select) (w' := w) rfl rfl (by decide) (by simp [go_sem, execOp, scase, Act.eval]))
    hc (by simpa using hroom)) ?_
  rw [Frame.finish_at]
  walk_nrm
  refine LoneTo.goes (n := 19) ?_
  s_op
  s_op
  s_c stepG_region_end
  s_c stepG_block
  s_cond true
  s_c stepG_seq
  s_reg
  s_op
  s_c stepG_region_end
  s_c stepG_ret'
  s_stop
  refine LoneTo.done ⟨.returned (.bool true), _, rfl, ⟨rfl, ?_⟩, rfl, rfl, rfl, rfl, _, Try.func10, by simp [results, Try.f10, Frame.at]⟩
  exact ⟨hbox.set _ _ _, Touch.setChan _ _ _ _ _ _ _ _⟩

set_option maxRecDepth 100000 in
theorem put_rows_full {b c cap : Nat} {xs : List Value} (x : Value) {w : World} (hbox : BoxIs 55 w b c cap xs) (hroom : cap ≤ xs.length) :
    Calls Try.prog 10 #[.pointer (some ⟨b, 0, none⟩), x] w fun e w' => e = .returned (.bool false) ∧ BoxIs 55 w' b c cap (xs) ∧ Touch c w w' := by
  refine calls_of_loneTo fun cs => ?_
  have e : Frame.enter Try.prog 10 #[.pointer (some ⟨b, 0, none⟩), x] .normal = (base 10).at ⟨#[.pointer (some ⟨b, 0, none⟩), x, undef, undef, undef, undef, undef, undef, undef, undef, undef, undef, undef], []⟩ [.code (Try.f10.body.getD .skip)] := by
    simp [Frame.enter, Frame.at, Try.func10, base, Try.f10]
  rw [e]
  obtain ⟨s, r, hc⟩ := hbox.hc
  have hcell : w.cell? ⟨b, 0, none⟩ = some (.chan (some c)) := by simp [World.cell?, hbox.hb]
  refine LoneTo.goes (n := 60) ?_
  simp only [Try.f10, Option.getD_some]
  s_c stepG_seq
  s_reg
  s_op
  s_c stepG_region_end
  s_c stepG_seq
  s_c stepG_seq
  s_reg
  s_op
  s_op
  s_op
  s_op
  s_c stepG_region_end
  s_reg
  s_op
  s_c stepG_region_end
  s_c stepG_seq
  s_reg
  s_stop
  refine LoneTo.step (step_lone_select_send_full (c := c) (v := x) (z' := .slice none 0 0) (cap := cap) (buf := xs.toArray) (s := s) (r := r) (tm := false)
    (stepG_comm (cases := #[scase c x (.slice none 0 0)]) (blocking := false) (shape := .select) (w' := w) rfl rfl (by decide) (by simp [go_sem, execOp, scase, Act.eval]))
    hc (by simpa using hroom)) ?_
  rw [Frame.finish_at]
  walk_nrm
  refine LoneTo.goes (n := 19) ?_
  s_op
  s_op
  s_c stepG_region_end
  s_c stepG_block
  s_cond false
  s_c stepG_seq
  s_reg
  s_op
  s_c stepG_region_end
  s_c stepG_ret'
  s_stop
  refine LoneTo.done ⟨.returned (.bool false), _, rfl, ⟨rfl, ?_⟩, rfl, rfl, rfl, rfl, _, Try.func10, by simp [results, Try.f10, Frame.at]⟩
  exact ⟨hbox, Touch.refl _ _⟩

set_option maxRecDepth 100000 in
theorem take_rows_some {b c cap : Nat} {x : Value} {xs : List Value} {w : World} (hbox : BoxIs 55 w b c cap (x :: xs)) :
    Calls Try.prog 11 #[.pointer (some ⟨b, 0, none⟩)] w fun e w' => e = .returned (.tuple #[x, .bool true]) ∧ BoxIs 55 w' b c cap xs ∧ Touch c w w' := by
  refine calls_of_loneTo fun cs => ?_
  have e : Frame.enter Try.prog 11 #[.pointer (some ⟨b, 0, none⟩)] .normal = (base 11).at ⟨#[.pointer (some ⟨b, 0, none⟩), undef, undef, undef, undef, undef, undef, undef, undef, undef, undef, undef, undef, undef, undef, undef], []⟩ [.code (Try.f11.body.getD .skip)] := by
    simp [Frame.enter, Frame.at, Try.func11, base, Try.f11]
  rw [e]
  obtain ⟨s, r, hc⟩ := hbox.hc
  have hcell : w.cell? ⟨b, 0, none⟩ = some (.chan (some c)) := by simp [World.cell?, hbox.hb]
  refine LoneTo.goes (n := 60) ?_
  simp only [Try.f11, Option.getD_some]
  s_c stepG_seq
  s_reg
  s_op
  s_op
  s_c stepG_region_end
  s_c stepG_seq
  s_reg
  s_op
  s_op
  s_op
  s_op
  s_c stepG_region_end
  s_c stepG_seq
  s_reg
  s_stop
  refine LoneTo.step (step_lone_select_recv_buf (c := c) (z := .slice none 0 0) (cap := cap) (buf := (x :: xs).toArray) (closed := false) (s := s) (r := r) (tm := false)
    (stepG_comm (cases := #[rcase c (.slice none 0 0)]) (blocking := false) (shape := .select) (w' := w) rfl rfl (by decide) (by simp [go_sem, execOp, rcase, Act.eval]))
    hc (by simp)) ?_
  rw [Frame.finish_at]
  walk_nrm
  refine LoneTo.goes (n := 40) ?_
  s_op
  s_op
  s_c stepG_region_end
  s_c stepG_block
  s_cond true
  s_c stepG_seq
  s_reg
  s_op
  s_op
  s_c stepG_region_end
  s_c stepG_seq
  s_reg
  s_op
  s_op
  s_op
  s_c stepG_region_end
  s_c stepG_ret'
  s_stop
  refine LoneTo.done ⟨.returned (.tuple #[x, .bool true]), _, rfl, ⟨rfl, ?_⟩, rfl, rfl, rfl, rfl, _, Try.func11, by simp [results, Try.f11, Frame.at]⟩
  exact ⟨hbox.set _ _ _, Touch.setChan _ _ _ _ _ _ _ _⟩

set_option maxRecDepth 100000 in
theorem take_rows_none {b c cap : Nat} {w : World} (hbox : BoxIs 55 w b c cap []) :
    Calls Try.prog 11 #[.pointer (some ⟨b, 0, none⟩)] w fun e w' => e = .returned (.tuple #[.slice none 0 0, .bool false]) ∧ BoxIs 55 w' b c cap [] ∧ Touch c w w' := by
  refine calls_of_loneTo fun cs => ?_
  have e : Frame.enter Try.prog 11 #[.pointer (some ⟨b, 0, none⟩)] .normal = (base 11).at ⟨#[.pointer (some ⟨b, 0, none⟩), undef, undef, undef, undef, undef, undef, undef, undef, undef, undef, undef, undef, undef, undef, undef], []⟩ [.code (Try.f11.body.getD .skip)] := by
    simp [Frame.enter, Frame.at, Try.func11, base, Try.f11]
  rw [e]
  obtain ⟨s, r, hc⟩ := hbox.hc
  have hcell : w.cell? ⟨b, 0, none⟩ = some (.chan (some c)) := by simp [World.cell?, hbox.hb]
  refine LoneTo.goes (n := 60) ?_
  simp only [Try.f11, Option.getD_some]
  s_c stepG_seq
  s_reg
  s_op
  s_op
  s_c stepG_region_end
  s_c stepG_seq
  s_reg
  s_op
  s_op
  s_op
  s_op
  s_c stepG_region_end
  s_c stepG_seq
  s_reg
  s_stop
  refine LoneTo.step (step_lone_select_default (c := c) (z := .slice none 0 0) (cap := cap) (s := s) (r := r) (tm := false)
    (stepG_comm (cases := #[rcase c (.slice none 0 0)]) (blocking := false) (shape := .select) (w' := w) rfl rfl (by decide) (by simp [go_sem, execOp, rcase, Act.eval]))
    hc) ?_
  rw [Frame.finish_at]
  walk_nrm
  refine LoneTo.goes (n := 40) ?_
  s_op
  s_op
  s_c stepG_region_end
  s_c stepG_block
  s_cond false
  s_c stepG_seq
  s_reg
  s_op
  s_c stepG_region_end
  s_c stepG_seq
  s_reg
  s_op
  s_op
  s_op
  s_c stepG_region_end
  s_c stepG_ret'
  s_stop
  refine LoneTo.done ⟨.returned (.tuple #[.slice none 0 0, .bool false]), _, rfl, ⟨rfl, ?_⟩, rfl, rfl, rfl, rfl, _, Try.func11, by simp [results, Try.f11, Frame.at]⟩
  exact ⟨hbox, Touch.refl _ _⟩

/-! ### boxes of str -/
theorem info_str : ∃ i, Try.prog.info? 9 = some i ∧ i.bytes = 16 := by
  have h : (Try.prog.info? 9).map (·.bytes) = some 16 := by kernel_rfl
  obtain ⟨i, hi, hb⟩ := Option.map_eq_some_iff.1 h
  exact ⟨i, hi, hb⟩
theorem mkChan_str (r : Int) (w : World) : (Instr.makeChan 56 (.int .i64 (min (max r 1) 64))).run Try.prog w = .ok (.chan (some w.heap.size)) (w.alloc (.chan (roomOf r) #[] false 0 0 false)) := by
  obtain ⟨i, hi, hb⟩ := info_str
  have := run_makeChan (P := Try.prog) (w := w) Try.underlying56 hi .i64 (roomOf r) (by have := roomOf_le r; omega) (by rw [hb]; have := roomOf_le r; omega)
  rwa [roomOf_cast] at this
set_option maxHeartbeats 400000 in
theorem new_str_at (room : Int) (w : World) : Calls Try.prog 13 #[.int .i64 room] w fun e w' =>
    e = .returned (.pointer (some ⟨w.heap.size + 1, 0, none⟩)) ∧ w' = (w.alloc (.chan (roomOf room) #[] false 0 0 false)).alloc (.cells #[.chan (some w.heap.size)] 58 (0, 0)) := by
  have hmc := mkChan_str room
  go_enter Try.func13, Try.ntmps13
  go_wp2
  go_ret
  exact ⟨rfl, rfl⟩
theorem new_str (room : Int) (w : World) : Calls Try.prog 13 #[.int .i64 room] w fun e w' =>
    e = .returned (.pointer (some ⟨w.heap.size + 1, 0, none⟩)) ∧ BoxIs 58 w' (w.heap.size + 1) w.heap.size (roomOf room) [] ∧ Below w.heap.size w w' ∧ w'.heap.size = w.heap.size + 2 :=
  (new_str_at room w).mono fun e w' ⟨he, hw⟩ => by
    subst hw
    refine ⟨he, ⟨?_, 0, 0, ?_⟩, ((Below.refl _ _).alloc (Nat.le_refl _) _).alloc (by simp) _, by simp⟩
    · have := heap_alloc_new (w.alloc (.chan (roomOf room) #[] false 0 0 false)) (.cells #[.chan (some w.heap.size)] 58 (0, 0))
      simpa only [World.size_alloc] using this
    · rw [Below.heap_alloc _ _ _ (by simp)]
      exact heap_alloc_new w _

set_option maxRecDepth 100000 in
theorem put_str_room {b c cap : Nat} {xs : List Value} (x : Value) {w : World} (hbox : BoxIs 58 w b c cap xs) (hroom : xs.length < cap) :
    Calls Try.prog 14 #[.pointer (some ⟨b, 0, none⟩), x] w fun e w' => e = .returned (.bool true) ∧ BoxIs 58 w' b c cap (xs ++ [x]) ∧ Touch c w w' := by
  refine calls_of_loneTo fun cs => ?_
  have e : Frame.enter Try.prog 14 #[.pointer (some ⟨b, 0, none⟩), x] .normal = (base 14).at ⟨#[.pointer (some ⟨b, 0, none⟩), x, undef, undef, undef, undef, undef, undef, undef, undef, undef, undef, undef], []⟩ [.code (Try.f14.body.getD .skip)] := by
    simp [Frame.enter, Frame.at, Try.func14, base, Try.f14]
  rw [e]
  obtain ⟨s, r, hc⟩ := hbox.hc
  have hcell : w.cell? ⟨b, 0, none⟩ = some (.chan (some c)) := by simp [World.cell?, hbox.hb]
  refine LoneTo.goes (n := 60) ?_
  simp only [Try.f14, Option.getD_some]
  s_c stepG_seq
  s_reg
  s_op
  s_c stepG_region_end
  s_c stepG_seq
  s_c stepG_seq
  s_reg
  s_op
  s_op
  s_op
  s_op
  s_c stepG_region_end
  s_reg
  s_op
  s_c stepG_region_end
  s_c stepG_seq
  s_reg
  s_stop
  refine LoneTo.step (step_lone_select_send_room (c := c) (v := x) (z' := .string ⟨#[]⟩) (cap := cap) (buf := xs.toArray) (s := s) (r := r) (tm := false)
    (stepG_comm (cases := #[scase c x (.string ⟨#[]⟩)]) (blocking := false) (shape := .select) (w' := w) rfl rfl (by decide) (by simp [go_sem, execOp, scase, Act.eval]))
    hc (by simpa using hroom)) ?_
  rw [Frame.finish_at]
  walk_nrm
  refine LoneTo.goes (n := 19) ?_
  s_op
  s_op
  s_c stepG_region_end
  s_c stepG_block
  s_cond true
  s_c stepG_seq
  s_reg
  s_op
  s_c stepG_region_end
  s_c stepG_ret'
  s_stop
  refine LoneTo.done ⟨.returned (.bool true), _, rfl, ⟨rfl, ?_⟩, rfl, rfl, rfl, rfl, _, Try.func14, by simp [results, Try.f14, Frame.at]⟩
  exact ⟨hbox.set _ _ _, Touch.setChan _ _ _ _ _ _ _ _⟩

set_option maxRecDepth 100000 in
theorem put_str_full {b c cap : Nat} {xs : List Value} (x : Value) {w : World} (hbox : BoxIs 58 w b c cap xs) (hroom : cap ≤ xs.length) :
    Calls Try.prog 14 #[.pointer (some ⟨b, 0, none⟩), x] w fun e w' => e = .returned (.bool false) ∧ BoxIs 58 w' b c cap (xs) ∧ Touch c w w' := by
  refine calls_of_loneTo fun cs => ?_
  have e : Frame.enter Try.prog 14 #[.pointer (some ⟨b, 0, none⟩), x] .normal = (base 14).at ⟨#[.pointer (some ⟨b, 0, none⟩), x, undef, undef, undef, undef, undef, undef, undef, undef, undef, undef, undef], []⟩ [.code (Try.f14.body.getD .skip)] := by
    simp [Frame.enter, Frame.at, Try.func14, base, Try.f14]
  rw [e]
  obtain ⟨s, r, hc⟩ := hbox.hc
  have hcell : w.cell? ⟨b, 0, none⟩ = some (.chan (some c)) := by simp [World.cell?, hbox.hb]
  refine LoneTo.goes (n := 60) ?_
  simp only [Try.f14, Option.getD_some]
  s_c stepG_seq
  s_reg
  s_op
  s_c stepG_region_end
  s_c stepG_seq
  s_c stepG_seq
  s_reg
  s_op
  s_op
  s_op
  s_op
  s_c stepG_region_end
  s_reg
  s_op
  s_c stepG_region_end
  s_c stepG_seq
  s_reg
  s_stop
  refine LoneTo.step (step_lone_select_send_full (c := c) (v := x) (z' := .string ⟨#[]⟩) (cap := cap) (buf := xs.toArray) (s := s) (r := r) (tm := false)
    (stepG_comm (cases := #[scase c x (.string ⟨#[]⟩)]) (blocking := false) (shape := .select) (w' := w) rfl rfl (by decide) (by simp [go_sem, execOp, scase, Act.eval]))
    hc (by simpa using hroom)) ?_
  rw [Frame.finish_at]
  walk_nrm
  refine LoneTo.goes (n := 19) ?_
  s_op
  s_op
  s_c stepG_region_end
  s_c stepG_block
  s_cond false
  s_c stepG_seq
  s_reg
  s_op
  s_c stepG_region_end
  s_c stepG_ret'
  s_stop
  refine LoneTo.done ⟨.returned (.bool false), _, rfl, ⟨rfl, ?_⟩, rfl, rfl, rfl, rfl, _, Try.func14, by simp [results, Try.f14, Frame.at]⟩
  exact ⟨hbox, Touch.refl _ _⟩

set_option maxRecDepth 100000 in
theorem take_str_some {b c cap : Nat} {x : Value} {xs : List Value} {w : World} (hbox : BoxIs 58 w b c cap (x :: xs)) :
    Calls Try.prog 24 #[.pointer (some ⟨b, 0, none⟩)] w fun e w' => e = .returned (.tuple #[x, .bool true]) ∧ BoxIs 58 w' b c cap xs ∧ Touch c w w' := by
  refine calls_of_loneTo fun cs => ?_
  have e : Frame.enter Try.prog 24 #[.pointer (some ⟨b, 0, none⟩)] .normal = (base 24).at ⟨#[.pointer (some ⟨b, 0, none⟩), undef, undef, undef, undef, undef, undef, undef, undef, undef, undef, undef, undef, undef, undef, undef], []⟩ [.code (Try.f24.body.getD .skip)] := by
    simp [Frame.enter, Frame.at, Try.func24, base, Try.f24]
  rw [e]
  obtain ⟨s, r, hc⟩ := hbox.hc
  have hcell : w.cell? ⟨b, 0, none⟩ = some (.chan (some c)) := by simp [World.cell?, hbox.hb]
  refine LoneTo.goes (n := 60) ?_
  simp only [Try.f24, Option.getD_some]
  s_c stepG_seq
  s_reg
  s_op
  s_op
  s_c stepG_region_end
  s_c stepG_seq
  s_reg
  s_op
  s_op
  s_op
  s_op
  s_c stepG_region_end
  s_c stepG_seq
  s_reg
  s_stop
  refine LoneTo.step (step_lone_select_recv_buf (c := c) (z := .string ⟨#[]⟩) (cap := cap) (buf := (x :: xs).toArray) (closed := false) (s := s) (r := r) (tm := false)
    (stepG_comm (cases := #[rcase c (.string ⟨#[]⟩)]) (blocking := false) (shape := .select) (w' := w) rfl rfl (by decide) (by simp [go_sem, execOp, rcase, Act.eval]))
    hc (by simp)) ?_
  rw [Frame.finish_at]
  walk_nrm
  refine LoneTo.goes (n := 40) ?_
  s_op
  s_op
  s_c stepG_region_end
  s_c stepG_block
  s_cond true
  s_c stepG_seq
  s_reg
  s_op
  s_op
  s_c stepG_region_end
  s_c stepG_seq
  s_reg
  s_op
  s_op
  s_op
  s_c stepG_region_end
  s_c stepG_ret'
  s_stop
  refine LoneTo.done ⟨.returned (.tuple #[x, .bool true]), _, rfl, ⟨rfl, ?_⟩, rfl, rfl, rfl, rfl, _, Try.func24, by simp [results, Try.f24, Frame.at]⟩
  exact ⟨hbox.set _ _ _, Touch.setChan _ _ _ _ _ _ _ _⟩

set_option maxRecDepth 100000 in
theorem take_str_none {b c cap : Nat} {w : World} (hbox : BoxIs 58 w b c cap []) :
    Calls Try.prog 24 #[.pointer (some ⟨b, 0, none⟩)] w fun e w' => e = .returned (.tuple #[.string ⟨#[]⟩, .bool false]) ∧ BoxIs 58 w' b c cap [] ∧ Touch c w w' := by
  refine calls_of_loneTo fun cs => ?_
  have e : Frame.enter Try.prog 24 #[.pointer (some ⟨b, 0, none⟩)] .normal = (base 24).at ⟨#[.pointer (some ⟨b, 0, none⟩), undef, undef, undef, undef, undef, undef, undef, undef, undef, undef, undef, undef, undef, undef, undef], []⟩ [.code (Try.f24.body.getD .skip)] := by
    simp [Frame.enter, Frame.at, Try.func24, base, Try.f24]
  rw [e]
  obtain ⟨s, r, hc⟩ := hbox.hc
  have hcell : w.cell? ⟨b, 0, none⟩ = some (.chan (some c)) := by simp [World.cell?, hbox.hb]
  refine LoneTo.goes (n := 60) ?_
  simp only [Try.f24, Option.getD_some]
  s_c stepG_seq
  s_reg
  s_op
  s_op
  s_c stepG_region_end
  s_c stepG_seq
  s_reg
  s_op
  s_op
  s_op
  s_op
  s_c stepG_region_end
  s_c stepG_seq
  s_reg
  s_stop
  refine LoneTo.step (step_lone_select_default (c := c) (z := .string ⟨#[]⟩) (cap := cap) (s := s) (r := r) (tm := false)
    (stepG_comm (cases := #[rcase c (.string ⟨#[]⟩)]) (blocking := false) (shape := .select) (w' := w) rfl rfl (by decide) (by simp [go_sem, execOp, rcase, Act.eval]))
    hc) ?_
  rw [Frame.finish_at]
  walk_nrm
  refine LoneTo.goes (n := 40) ?_
  s_op
  s_op
  s_c stepG_region_end
  s_c stepG_block
  s_cond false
  s_c stepG_seq
  s_reg
  s_op
  s_c stepG_region_end
  s_c stepG_seq
  s_reg
  s_op
  s_op
  s_op
  s_c stepG_region_end
  s_c stepG_ret'
  s_stop
  refine LoneTo.done ⟨.returned (.tuple #[.string ⟨#[]⟩, .bool false]), _, rfl, ⟨rfl, ?_⟩, rfl, rfl, rfl, rfl, _, Try.func24, by simp [results, Try.f24, Frame.at]⟩
  exact ⟨hbox, Touch.refl _ _⟩

set_option maxHeartbeats 400000 in
theorem len_str {b c cap : Nat} {xs : List Value} {w : World} (hbox : BoxIs 58 w b c cap xs) :
    Calls Try.prog 15 #[.pointer (some ⟨b, 0, none⟩)] w fun e w' => e = .returned (.int .i64 xs.length) ∧ w = w' := by
  obtain ⟨s, r, hc⟩ := hbox.hc
  have hcell : w.cell? ⟨b, 0, none⟩ = some (.chan (some c)) := by simp [World.cell?, hbox.hb]
  have hlen := fun ty => run_len_chan (P := Try.prog) 56 ty Try.underlying56 hc
  simp only [List.size_toArray] at hlen
  clear hbox
  go_enter Try.func15, Try.ntmps15
  go_wp2
  go_ret
  exact ⟨rfl, rfl⟩

end Go.Proofs.Ytpngaghmojcjnaa
