/- Packed by packn.py: CCopy, L12T. -/
import Derived.Test.YtikimmgileffgaaGreatDoorQk14
import Derived.Test.YtikimmgileffgaaGreatDoorQk05
import Derived.Shelf.SlMaps.Clone
import Derived.Lib.SliceRun
import Derived.Test.YtikimmgileffgaaGreatDoorQk35
/- Copy of layer 1: another arena with the same terms. -/
section
namespace Go.Proofs.YtikimmgileffgaaGreatDoor
open Go.RowKit

set_option maxHeartbeats 1000000 in
set_option maxRecDepth 100000 in
theorem cloneMap_calls {w : World} {bm : Nat} {l : List (Nd × Value)} (h : MapIs Nd.val w bm l) :
    Calls Tryz.prog 82 #[.map (some bm)] w fun e w' => e = .returned (.map (some w.heap.size)) ∧ MapIs Nd.val w' w.heap.size l ∧ Below w.heap.size w w' := by
  obtain ⟨es, clock, h1, h2⟩ := h
  have hq := fun w => run_eql_map_nil_sl (P := Tryz.prog) w 139 _ _ (some bm) Tryz.underlying139
  have H2 := Lib.hid h2
  clear h2
  go_enter Tryz.func82, Tryz.ntmps82
  go_wp2_with fail
  rw [run_callFunc_extern Tryz.func136 (by kernel_rfl) (by kernel_rfl) (by kernel_rfl) (e := Extern.MapsClone.clone) (by kernel_rfl), run_maps_clone_sl w 139 h1]
  simp only [Result.andThen]
  rw [Oper.upon_value]
  go_wp2_with fail
  rw [run_typeAssert_map_sl _ 139 20 _ _ _ Tryz.underlying139]
  simp only [Result.andThen]
  rw [Oper.upon_value]
  go_wp2_with fail
  go_ret
  exact ⟨rfl, ⟨es, clock, new_at rfl, H2.out⟩, (Below.refl _ _).alloc (Nat.le_refl _) _⟩
theorem ninfo : (Tryz.prog.info? 103).map (fun i => (i.zero, i.size, i.bytes)) = some (some (.agg #[.int .i64 0, .int .u64 0, .int .i64 0, .int .i64 0, .int .i64 0]), 5, 40) := by kernel_rfl
def CloneNPost (n : Nat) (xs : List Value) (w : World) (e : Ending) (w' : World) : Prop :=
  ∃ v, e = .returned v ∧ w'.ownsRow w.heap.size 103 5 v n xs ∧ Below w.heap.size w w'
set_option maxHeartbeats 1600000 in
set_option maxRecDepth 100000 in
theorem cloneNodes_calls {w : World} {g n c : Nat} {xs : List Value} (h : w.ownsRow 0 103 5 (.slice (some ⟨g, 0, none⟩) n c) n xs) (hn : n ≤ 65536) (h1 : ∀ u ∈ xs, u.oneCell' = true) :
    Calls Tryz.prog 81 #[.slice (some ⟨g, 0, none⟩) n c] w (CloneNPost n xs w) := by
  have hg := (h.lt g rfl).2
  have hnews : News w (some ⟨g, 0, none⟩) 5 n xs := by obtain ⟨A, c', e, hN, -⟩ := News.of_owns h; cases e; exact hN
  have HN := Lib.hid hnews
  have H1 := Lib.hid h1
  clear h hnews h1
  have hq := fun w => Lib.run_eql_slice_nil (P := Tryz.prog) w 138 103 (some ⟨g, 0, none⟩) n c 0 0 Tryz.underlying138
  go_enter Tryz.func81, Tryz.ntmps81
  go_wp2_with (at_builtin; go_loud (refine wpList_cat (W := w) (belowAlloc (Below.refl _ _) _) rfl (.tmp 5) (.tmp 6) 138 rfl 103 (.agg #[.int .i64 0, .int .u64 0, .int .i64 0, .int .i64 0, .int .i64 0]) 5 40 Tryz.underlying138 ninfo rfl (by decide) (.slice (some ⟨w.heap.size, 0, none⟩) 0 0) 0 [] rfl (owns_empty 5 (Nat.le_refl _) (new_at rfl)) (some ⟨g, 0, none⟩) n c xs rfl (News.upd HN.out (belowAlloc (Below.refl _ _) _) (by rintro ad ⟨⟩; exact hg)) H1.out (by unfold maxLen; omega) (by omega) ?_))
  intro v' w' h2 h3 h4
  obtain ⟨A2, c2, rfl⟩ : ∃ A c, v' = .slice A n c := by
    rcases h2.2 with ⟨h5, h6⟩ | ⟨g', cp, cur, h5, _⟩
    · exact ⟨none, 0, by rw [h5, h6]⟩
    · exact ⟨_, _, h5⟩
  have H2 := Lib.hid h2
  have H3 := Lib.hid h3
  clear h2 h3 h4
  go_wp2_with fail
  go_ret
  exact ⟨.slice A2 n c2, rfl, H2.out, H3.out⟩
theorem nd_one (l : List Nd) : ∀ u ∈ l.flatMap Nd.cells, u.oneCell' = true := by
  intro u hu
  rw [List.mem_flatMap] at hu
  obtain ⟨x, _, hx⟩ := hu
  simp only [Nd.cells, List.mem_cons, List.not_mem_nil, or_false] at hx
  rcases hx with rfl | rfl | rfl | rfl | rfl <;> rfl
def CopyPost (A : Ar) (w : World) (e : Ending) (w' : World) : Prop :=
  ∃ r S, e = .returned (.pointer (some ⟨r, 0, none⟩)) ∧ IsArena w' r A S ∧ Below w.heap.size w w' ∧ ∀ b, S b → w.heap.size ≤ b
theorem copy_end {w w' : World} {A : Ar} {r g bm cap : Nat} (hw : Wf A.l) (hr : A.l.length ≤ A.limit ∧ A.limit ≤ 65536)
    (O : Own w w' [blk r (.cells #[.int .i64 A.limit, .slice (some ⟨g, 0, none⟩) A.l.length cap, .map (some bm)] 141 (0, 0)), mapT Nd.val bm (entriesOf A.l), rowT 103 5 (.slice (some ⟨g, 0, none⟩) A.l.length cap) A.l.length (A.l.flatMap Nd.cells)]) :
    CopyPost A w (.returned (.pointer (some ⟨r, 0, none⟩))) w' := by
  obtain ⟨S0, h0, l0⟩ := O.at (i := 0) rfl
  obtain ⟨S1, h1, l1⟩ := O.at (i := 1) rfl
  obtain ⟨S2, h2, l2⟩ := O.at (i := 2) rfl
  refine ⟨r, fun b => b = r ∨ b = g ∨ b = bm, rfl, ⟨g, bm, cap, ⟨h0.1, h2.1, h1.1, hw, hr⟩, .inl rfl, .inr (.inl rfl), .inr (.inr rfl), fun b hb => ?_⟩, O.below, fun b hb => ?_⟩
  · rcases hb with rfl | rfl | rfl
    · exact lt_of_heap h0.1
    · exact (h2.1.lt b rfl).2
    · exact h1.1.lt
  · rcases hb with rfl | rfl | rfl
    · exact l0 b ((h0.2 b).2 rfl)
    · exact l2 b ((h2.2 b).2 rfl)
    · exact l1 b ((h1.2 b).2 rfl)
set_option maxHeartbeats 3200000 in
set_option maxRecDepth 100000 in
theorem copy_calls {S : Nat → Prop} {w : World} {r : Nat} {A : Ar} (h : IsArena w r A S) : Calls Tryz.prog 27 #[.pointer (some ⟨r, 0, none⟩)] w (CopyPost A w) := by
  obtain ⟨g, bm, cap, ha, -⟩ := h
  have HA := Lib.hid ha
  have rl := lt_of_heap ha.root
  have KS := Lib.hid (show ∀ w', Below w.heap.size w w' → (Below w.heap.size w w' ∧ w'.cell? ⟨r, 0, none⟩ = some (.int .i64 A.limit) ∧ w'.cell? ⟨r, 1, none⟩ = some (.slice (some ⟨g, 0, none⟩) A.l.length cap) ∧ w'.cell? ⟨r, 2, none⟩ = some (.map (some bm))) from fun w' hb => by
    have := (hb.block r rl).trans HA.out.root
    exact ⟨hb, cell_of_heap this, cell_of_heap this, cell_of_heap this⟩)
  obtain ⟨-, c0, c1, c2⟩ := KS.out _ (Below.refl _ _)
  have hbb : Below w.heap.size w w := Below.refl _ _
  have HK := Lib.hid (fun w' (hb : Below w.heap.size w w') => (show w'.ownsRow 0 103 5 (.slice (some ⟨g, 0, none⟩) A.l.length cap) A.l.length (A.l.flatMap Nd.cells) ∧ MapIs Nd.val w' bm (entriesOf A.l) from ⟨ownsRow_upd HA.out.row (Upd.of_below (S := None) hb) (fun _ _ h => h), HA.out.map.upd (Upd.of_below (S := None) hb) (fun h => h)⟩))
  have hroom : A.l.length ≤ 65536 := by have := HA.out.room; omega
  have O0 := Lib.hid (Own.start w)
  have hap : A.l.length ≠ 0 := by have := HA.out.wf.head; intro e; rw [List.eq_nil_of_length_eq_zero e] at this; cases this
  have HAP := Lib.hid hap
  clear ha hap
  go_enter Tryz.func27, Tryz.ntmps27
  go_wp2_with fail
  go_region_held3 (fun w' => Below w.heap.size w w' ∧ w'.cell? ⟨r, 0, none⟩ = some (.int .i64 A.limit) ∧ w'.cell? ⟨r, 1, none⟩ = some (.slice (some ⟨g, 0, none⟩) A.l.length cap) ∧ w'.cell? ⟨r, 2, none⟩ = some (.map (some bm)))
    (first | exact KS.out _ (by repeat (first | with_reducible assumption | with_reducible refine Below.drew ?_ | with_reducible refine belowAlloc ?_ _)))
    (first
      | (go_at_call 81; refine (cloneNodes_calls (HK.out _ (by repeat (first | with_reducible assumption | with_reducible refine Below.drew ?_ | with_reducible refine belowAlloc ?_ _))).1 hroom (nd_one _)).mono ?_; rintro e w5 ⟨v5, rfl, hr5, hb5⟩
         have hx5 : Below w.heap.size w w5 := below_call (by repeat (first | with_reducible assumption | with_reducible refine Below.drew ?_ | with_reducible refine belowAlloc ?_ _)) hb5
         obtain ⟨g5, cap5, rfl⟩ : ∃ g5 cap5, v5 = .slice (some ⟨g5, 0, none⟩) A.l.length cap5 := by
           rcases hr5.2 with ⟨_, h6⟩ | ⟨g', cp, cur, h5, _⟩
           · exact absurd h6 HAP.out
           · exact ⟨_, _, h5⟩
         have HR5 := Lib.hid hr5
         have HB5 := Lib.hid hb5
         clear hr5 hb5)
      | (go_at_call 82; refine (cloneMap_calls (HK.out _ (by repeat (first | with_reducible assumption | with_reducible refine Below.drew ?_ | with_reducible refine belowAlloc ?_ _))).2).mono ?_; rintro e w6 ⟨rfl, hm6, hb6⟩
         have hx6 : Below w.heap.size w w6 := below_call (by repeat (first | with_reducible assumption | with_reducible refine Below.drew ?_ | with_reducible refine belowAlloc ?_ _)) hb6
         have HM6 := Lib.hid hm6
         have HB6 := Lib.hid hb6
         clear hm6 hb6))
  all_goals go_wp2_with fail
  all_goals go_ret
  have o5 := O0.out.drew.newRow HB5.out HR5.out
  have o6 := o5.new HB6.out (Q := mapT Nd.val w5.heap.size (entriesOf A.l)) (S := One w5.heap.size) ⟨HM6.out, fun _ => Iff.rfl⟩ (fun b hb => by unfold One at hb; omega)
  exact copy_end HA.out.wf HA.out.room (o6.alloc _)
end Go.Proofs.YtikimmgileffgaaGreatDoor
end
/- What ShakeTurns calls; and what it comes to (layer 12). -/
section
namespace Go.Proofs.YtikimmgileffgaaGreatDoor
open Go.RowKit

theorem copyE {w0 w : World} {M : List Thing} {r : Nat} {A : Ar} (O : Own w0 w M) (i : Nat) (hi : M[i]? = some (arena r A)) : Calls Tryz.prog 27 #[.pointer (some ⟨r, 0, none⟩)] w fun e w' => ∃ r2, e = .returned (.pointer (some ⟨r2, 0, none⟩)) ∧ Own w0 w' (arena r2 A :: M) := by
  obtain ⟨S, hr⟩ := O.arena hi
  exact (copy_calls hr).mono fun e w' ⟨r2, S2, he, hA, hb, hS⟩ => ⟨r2, he, O.new hb (Q := arena r2 A) hA hS⟩
/-- How many parts, as the document counts them. -/
def partsR : List Int → Int
  | [] => 1
  | t :: l => if t = 1 ∨ t = 2 then partsR l + 1 else partsR l
theorem partsR_eq : ∀ (l : List Int), (∀ t ∈ l, 1 ≤ t ∧ t ≤ 7) → partsR l = partsC l
  | [], _ => rfl
  | t :: l, h => by
    have h1 := h t (List.mem_cons_self ..)
    simp only [partsR, partsC, partsR_eq l fun x hx => h x (List.mem_cons_of_mem _ hx)]
    by_cases h2 : t ≤ 2
    · rw [if_pos h2, if_pos (by omega)]
    · rw [if_neg h2, if_neg (by omega)]
theorem writeC_turn {A : Ar} {role S e payload : Int} {psks : List Int} {p : Pat} {h : Hs} (hs : sendsP p role h.at_ = false) : writeC A role S psks p h e payload = (A, Hs.zero, [], 5) := by
  unfold writeC; rw [if_pos hs]
theorem writeC_arg {A : Ar} {role S e payload : Int} {psks : List Int} {p : Pat} {h : Hs} (hs : sendsP p role h.at_ = true) (hp : has A.l payload = false) : writeC A role S psks p h e payload = (A, Hs.zero, [], 1) := by
  unfold writeC; rw [if_neg (by rw [hs]; decide), if_pos (by rw [hp]; simp)]
theorem readC_turn {A : Ar} {role S : Int} {psks msg : List Int} {p : Pat} {h : Hs} (hs : sendsP p role h.at_ = true) : readC A role S psks p h msg = (A, Hs.zero, 0, 5) := by
  unfold readC; rw [if_pos (.inr hs)]
theorem ciphersC_turn {A : Ar} {role at_ : Int} {p : Pat} {y : Sy} (h : at_ < p.msgs.length) : ciphersC A role at_ p y = (A, Ci.zero, Ci.zero, 5) := by
  unfold ciphersC; rw [if_pos h]
theorem readC_parts {A A' : Ar} {role S y no : Int} {psks : List Int} {p : Pat} {h h' : Hs} {m : Nat} (hA : has A.l 0 = true) (hat : ¬ (p.msgs.length : Int) ≤ h.at_) (hs : sendsP p role h.at_ = false) (hr : readC A role S psks p h (List.replicate m 0) = (A', h', y, no)) (hm : (m : Int) ≠ partsC (toks p h.at_)) : no = 7 := by
  unfold readC at hr
  rw [if_neg (by rw [hs]; simp [hat]), if_neg (by
    have : ((List.replicate m 0).all fun x => has A.l x) = true := List.all_eq_true.2 fun x hx => by rw [(List.mem_replicate.1 hx).2]; exact hA
    rw [this]; decide), if_pos (by simpa using hm)] at hr
  simp only [Prod.mk.injEq] at hr
  exact hr.2.2.2.symm
/-- What ShakeTurns meets of a handshake that was begun; W: whose the first message is. -/
structure TurnsAt (p : Pat) (A : Ar) (K : List Int) (W : Int) (Sw Sr : Int) (hw hr : Hs) : Prop where
  sw : sendsP p W 0 = true
  sr : sendsP p (1 - W) 0 = false
  aw : hw.at_ = 0
  ar : hr.at_ = 0
  pos : 0 < p.msgs.length
  has0 : has A.l 0 = true
theorem turns_write {p : Pat} {S0 S1 : Int} {psks : List Int} {A : Ar} {h0 h1 : Hs} {m : Msg} {pay : Int} (I : Inv p S0 S1 psks 0 A h0 h1) (hr : rightP p = true) (hm : p.msgs[0]? = some m) (hA : 29 ≤ A.l.length) (hp : has A.l pay = true) :
    (m.frm = 0 → ∃ A' h' msg, writeC A 0 S0 psks p h0 3 pay = (A', h', msg, 0) ∧ ArOk A') ∧ (m.frm = 1 → ∃ A' h' msg, writeC A 1 S1 psks p h1 3 pay = (A', h', msg, 0) ∧ ArOk A') := by
  refine ⟨fun h => ?_, fun h => ?_⟩
  · obtain ⟨A', g0, g1, msg, a1, a2, a3, a4⟩ := (I.step hr hm (e := 3) (payload := pay) (by omega) (has_small hA (by omega) (by omega)) hp).1 h
    exact ⟨A', g0, msg, a1, a3.ok⟩
  · obtain ⟨A', g0, g1, msg, a1, a2, a3, a4⟩ := (I.step hr hm (e := 3) (payload := pay) (by omega) (has_small hA (by omega) (by omega)) hp).2 h
    exact ⟨A', g1, msg, a1, a3.ok⟩
end Go.Proofs.YtikimmgileffgaaGreatDoor
end
