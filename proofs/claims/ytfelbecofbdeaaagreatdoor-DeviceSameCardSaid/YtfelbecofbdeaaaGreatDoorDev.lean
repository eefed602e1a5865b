/- The calls of layer 15 on a device: New, Id, Peer, Who. -/
import Derived.Test.YtfelbecofbdeaaaGreatDoorStore
namespace Go.Proofs.YtfelbecofbdeaaaGreatDoor
open Go.RowKit

structure Dv where
  id : Int
  secret : Int
  policy : Int
  peers : List (Int × Int)
  psks : List (Int × Int)
def stI (l : List (Int × Int)) : St := ⟨8, encI l⟩
def devObj (D : Dv) (r1 r2 : Nat) : Obj := .cells #[.int .i64 D.id, .int .i64 D.secret, .int .i64 D.policy, .pointer (some ⟨r1, 0, none⟩), .pointer (some ⟨r2, 0, none⟩)] 93 (0, 0)
/-- A device at block d. -/
def devs (d r1 r2 : Nat) (D : Dv) : List Thing := [blk d (devObj D r1 r2), storeT r1 (stI D.peers), storeT r2 (stI D.psks)]
theorem dev_cells {w : World} {d r1 r2 : Nat} {D : Dv} (h : w.heap[d]? = some (devObj D r1 r2)) : w.cell? ⟨d, 0, none⟩ = some (.int .i64 D.id) ∧ w.cell? ⟨d, 1, none⟩ = some (.int .i64 D.secret) ∧ w.cell? ⟨d, 2, none⟩ = some (.int .i64 D.policy) ∧ w.cell? ⟨d, 3, none⟩ = some (.pointer (some ⟨r1, 0, none⟩)) ∧ w.cell? ⟨d, 4, none⟩ = some (.pointer (some ⟨r2, 0, none⟩)) :=
  ⟨cell_of_heap h, cell_of_heap h, cell_of_heap h, cell_of_heap h, cell_of_heap h⟩
def namedP (id : Int) : Bool := decide (0 ≤ id) && decide (id < 1000)
set_option maxHeartbeats 400000 in
theorem named_calls (id : Int) (w : World) : Calls Tryz.prog 68 #[.int .i64 id] w fun e w' => e = .returned (.bool (namedP id)) ∧ w = w' := by
  by_cases h0 : 0 ≤ id
  · have hd : decide (0 ≤ id) = true := decide_eq_true h0
    cases h1 : decide (id < 1000) with
    | true =>
      have Hn := Lib.hid (show namedP id = true by simp only [namedP, hd, h1]; rfl)
      clear h0
      go_enter Tryz.func68, Tryz.ntmps68
      go_wp2_with (go_quiet (fail))
      go_ret
      exact ⟨by rw [Hn.out]; rfl, rfl⟩
    | false =>
      have Hn := Lib.hid (show namedP id = false by simp only [namedP, hd, h1]; rfl)
      clear h0
      go_enter Tryz.func68, Tryz.ntmps68
      go_wp2_with (go_quiet (fail))
      go_ret
      exact ⟨by rw [Hn.out]; rfl, rfl⟩
  · have hd : decide (0 ≤ id) = false := decide_eq_false h0
    have Hn := Lib.hid (show namedP id = false by simp only [namedP, hd]; rfl)
    clear h0
    go_enter Tryz.func68, Tryz.ntmps68
    go_wp2_with (go_quiet (fail))
    go_ret
    exact ⟨by rw [Hn.out]; rfl, rfl⟩
set_option maxHeartbeats 400000 in
theorem peer_calls {w : World} {d r1 r2 : Nat} {D : Dv} {S : Nat → Prop} (hd : w.heap[d]? = some (devObj D r1 r2)) (hs : IsStore w r1 (stI D.peers) S) (id : Int) :
    Calls Tryz.prog 19 #[.pointer (some ⟨d, 0, none⟩), .int .i64 id] w fun e w' => e = .returned (.tuple #[.int .i64 ((lk id D.peers).getD 0), .bool (lk id D.peers).isSome]) ∧ w = w' := by
  obtain ⟨c0, c1, c2, c3, c4⟩ := dev_cells hd
  have hg := sGet_calls hs id
  rw [stI, getS_encI, hasS_encI] at hg
  clear hd
  go_enter Tryz.func19, Tryz.ntmps19
  go_wp2_with fail
  refine hg.mono ?_
  rintro e w1 ⟨rfl, rfl⟩
  go_wp2_with fail
  go_ret2
  exact ⟨rfl, rfl⟩
set_option maxHeartbeats 400000 in
theorem id_calls {w : World} {d r1 r2 : Nat} {D : Dv} (hd : w.heap[d]? = some (devObj D r1 r2)) :
    Calls Tryz.prog 37 #[.pointer (some ⟨d, 0, none⟩)] w fun e w' => e = .returned (.int .i64 D.id) ∧ w = w' := by
  obtain ⟨c0, c1, c2, c3, c4⟩ := dev_cells hd
  clear hd
  go_enter Tryz.func37, Tryz.ntmps37
  go_wp2_with fail
  go_ret
  exact ⟨rfl, rfl⟩
theorem enters_who1 : ∀ args w, (callFunc 82 args).run Tryz.prog w = .ok (.enter 82 args) w := enters_of Tryz.func82 (by kernel_rfl) rfl
set_option maxHeartbeats 400000 in
theorem who1_gives {W : World} {d r1 r2 : Nat} {D : Dv} {S : Nat → Prop} (hd : W.heap[d]? = some (devObj D r1 r2)) (hs : IsStore W r1 (stI D.peers) S) (x pub : Int) (B C : Nat) (hB : W.cell? ⟨B, 0, none⟩ = some (.pointer (some ⟨d, 0, none⟩))) (hC : W.cell? ⟨C, 0, none⟩ = some (.int .i64 pub)) :
    FnGives Tryz.prog 82 #[.pointer (some ⟨B, 0, none⟩), .pointer (some ⟨C, 0, none⟩)] #[.int .i64 x] (.bool (decide ((lk x D.peers).getD 0 = pub))) W := by
  show Calls Tryz.prog 82 #[.int .i64 x, .pointer (some ⟨B, 0, none⟩), .pointer (some ⟨C, 0, none⟩)] W _
  have hp := peer_calls hd hs x
  generalize (lk x D.peers).getD 0 = q at *
  generalize (lk x D.peers).isSome = b at *
  have hq : decide (q = pub) = (q == pub) := by rw [Bool.eq_iff_iff]; simp
  rw [hq]
  clear hq hd hs
  go_enter Tryz.func82, Tryz.ntmps82
  go_wp2_with fail
  refine hp.mono ?_
  rintro e w1 ⟨rfl, rfl⟩
  go_wp2_with fail
  go_ret
  exact ⟨rfl, 0, rfl⟩
def WhoPost (D : Dv) (pub : Int) (w : World) (e : Ending) (w' : World) : Prop := e = .returned (.tuple #[.int .i64 ((wh pub D.peers).getD 0), .bool (wh pub D.peers).isSome]) ∧ Below w.heap.size w w'
set_option maxHeartbeats 1600000 in
set_option maxRecDepth 100000 in
theorem who_calls {w : World} {d r1 r2 : Nat} {D : Dv} {S : Nat → Prop} (hd : w.heap[d]? = some (devObj D r1 r2)) (hs : IsStore w r1 (stI D.peers) S) (pub : Int) :
    Calls Tryz.prog 48 #[.pointer (some ⟨d, 0, none⟩), .int .i64 pub] w (WhoPost D pub w) := by
  have hb2 := below2 w (.cells #[.pointer (some ⟨d, 0, none⟩)] 39) (.cells #[.int .i64 pub] 3)
  have hk := sKeys_calls (hs.below hb2)
  obtain ⟨c0, c1, c2, c3, c4⟩ := dev_cells (((hb2.block d (lt_of_heap hd)).trans hd))
  have Hs := Lib.hid hs
  have Hd := Lib.hid hd
  have hbx := two_new w (.cells #[.pointer (some ⟨d, 0, none⟩)] 39) (.cells #[.int .i64 pub] 3)
  have Hbx := Lib.hid hbx
  clear hs hd hbx
  go_enter Tryz.func48, Tryz.ntmps48
  go_wp2_with fail
  refine hk.mono ?_
  rintro e w1 ⟨v, rfl, hr, hb1⟩
  have hbw : Below w.heap.size w w1 := below_call hb2 hb1
  have hB := (hb1.block w.heap.size (by simp; omega)).trans Hbx.out.1
  have hC := (hb1.block (w.heap.size + 1) (by simp)).trans Hbx.out.2
  have hdw := (hbw.block d (lt_of_heap Hd.out)).trans Hd.out
  have hsw := Hs.out.below hbw
  obtain ⟨bm0, kv0, hat0, -⟩ := hsw
  have hnd : (D.peers.map (·.1)).Nodup := by have := hat0.nodup; simpa [stI, encI_keys] using this
  have hroom : D.peers.length ≤ 8 := by have := hat0.room.1; simpa [stI, encI_length] using this
  clear hat0
  have hsw := Hs.out.below hbw
  rw [show (stI D.peers).l = encI D.peers from rfl, keysV_encI, encI_length] at hr
  have hix := wh_idx pub (fun x => decide ((lk x D.peers).getD 0 = pub)) D.peers 0 (fun q hq => by rw [lk_mem hnd q hq]; rfl)
  have hmf : ∀ (fn : Fn) (first cap : Array Value) (w : World), (Instr.makeFunc fn first cap).run Tryz.prog w = .ok (.func fn first cap) w := fun _ _ _ _ => rfl
  have hpred : PredAt Tryz.prog 82 #[.pointer (some ⟨w.heap.size, 0, none⟩), .pointer (some ⟨w.heap.size + 1, 0, none⟩)] (Value.int .i64) (fun x => decide ((lk x D.peers).getD 0 = pub)) w1 := fun W x hb =>
    who1_gives ((hb.block d (lt_of_heap hdw)).trans hdw) (hsw.below hb) x pub _ _ (cell_of_heap ((hb.block _ (lt_of_heap hB)).trans hB)) (cell_of_heap ((hb.block _ (lt_of_heap hC)).trans hC))
  clear hdw hk c0 c1 c2 c3 c4 hB hC
  rcases hr.2 with ⟨rfl, h0⟩ | ⟨g, cap, cur, rfl, hgb, hg, hnc, hmax, hcs, hcur⟩
  · have hp0 : D.peers = [] := List.eq_nil_of_length_eq_zero h0
    have hw0 : wh pub D.peers = none := by rw [hp0]; rfl
    have Hw := Lib.hid hw0
    clear hw0
    have hcon := Sh.slices_IndexFunc_empty (α := Int) none 0 (.func (.func 82) #[] #[.pointer (some ⟨w.heap.size, 0, none⟩), .pointer (some ⟨w.heap.size + 1, 0, none⟩)]) w1
    clear hr hix hpred hnd hroom
    go_wp2_with fail
    refine hcon.mono ?_
    rintro e w2 ⟨rfl, rfl⟩
    go_wp2_with fail
    go_ret2
    exact ⟨by rw [Hw.out]; rfl, hbw⟩
  · have hcell : ∀ (j : Nat) (x : Int), (D.peers.map (·.1))[j]? = some x → w1.cell? ⟨g, j, none⟩ = some (.int .i64 x) := fun j x hj => by
      rw [cell_of_heap hg]
      have hjl := (List.getElem?_eq_some_iff.1 hj).1
      have : cur[j]? = ((D.peers.map (·.1)).map (Value.int .i64))[j]? := by
        rw [← hcur, List.getElem?_take, if_pos (by simp at hjl; omega), Array.getElem?_toList]
      rw [this, List.getElem?_map, hj]; rfl
    have Hcell := Lib.hid hcell
    clear hcell
    have hcon := Sh.slices_IndexFunc (Value.int .i64) (fun x => decide ((lk x D.peers).getD 0 = pub)) 82 #[.pointer (some ⟨w.heap.size, 0, none⟩), .pointer (some ⟨w.heap.size + 1, 0, none⟩)] enters_who1 g 0 D.peers.length cap (D.peers.map (·.1)) w1 hpred (by simp) (by omega) (fun j hj => by
      rw [Nat.zero_add, Hcell.out j _ (List.getElem?_eq_getElem hj), getElem!_pos _ j hj])
    rw [List.take_of_length_le (by simp), Lib.idxBy] at hcon
    cases hw : wh pub D.peers with
    | none =>
      rw [hw] at hix
      rw [hix] at hcon
      have Hw := Lib.hid hw
      clear hix hr hcur hpred hg hw
      go_wp2_with fail
      refine hcon.mono ?_
      rintro e w2 ⟨rfl, q, rfl⟩
      go_wp2_with fail
      go_ret2
      exact ⟨by rw [Hw.out]; rfl, hbw.trans (Upd.below (S := None) ((Upd.refl _ _).drewN _) hbw.size (fun _ _ h => h))⟩
    | some k =>
      rw [hw] at hix
      obtain ⟨j, hj, hi⟩ := hix
      rw [hi] at hcon
      have hcj := Hcell.out j k hj
      have hjl : j < D.peers.length := by have := (List.getElem?_eq_some_iff.1 hj).1; simpa using this
      have Hw := Lib.hid hw
      clear hi hj hr hcur hpred hg hw
      rw [Nat.zero_add] at hcon
      go_wp2_with fail
      refine hcon.mono ?_
      rintro e w2 ⟨rfl, q, rfl⟩
      go_wp2_with fail
      go_ret2
      exact ⟨by rw [Hw.out]; rfl, hbw.trans (Upd.below (S := None) ((Upd.refl _ _).drewN _) hbw.size (fun _ _ h => h))⟩
/-! The calls of layer 15 that make or change a device. -/
def mayD (id secret policy : Int) : Bool := namedP id && decide (1 ≤ secret) && decide (0 ≤ policy) && decide (policy ≤ 2)
def DNewPost (w0 : World) (L : List Thing) (id secret policy : Int) (e : Ending) (w' : World) : Prop :=
  ∃ d r1 r2, e = .returned (.tuple #[.pointer (some ⟨d, 0, none⟩), .int .i64 0]) ∧ Own w0 w' (blk d (devObj ⟨id, secret, policy, [], []⟩ r1 r2) :: storeT r2 (stI []) :: storeT r1 (stI []) :: L)
set_option maxHeartbeats 800000 in
theorem dNew_own {w0 w : World} {L : List Thing} (h : Own w0 w L) (id secret policy : Int) (hm : mayD id secret policy = true) : Calls Tryz.prog 34 #[.int .i64 id, .int .i64 secret, .int .i64 policy] w (DNewPost w0 L id secret policy) := by
  have hm' := hm
  simp only [mayD, Bool.and_eq_true, decide_eq_true_eq] at hm'
  obtain ⟨⟨⟨h1, h2⟩, h3⟩, h4⟩ := hm'
  have d2 : decide (secret < 1) = false := decide_eq_false (by omega)
  have d3 : decide (policy < 0) = false := decide_eq_false (by omega)
  have d4 : decide (2 < policy) = false := decide_eq_false (by omega)
  clear hm h2 h3 h4
  go_enter Tryz.func34, Tryz.ntmps34
  go_wp2_with fail
  refine (named_calls id w).mono ?_
  rintro e w1 ⟨rfl, rfl⟩
  rw [h1]
  go_wp2_with (go_quiet (fail))
  refine (sNew_own h 8 (by decide)).mono ?_
  rintro e w1 ⟨r1, rfl, o1⟩
  go_wp2_with fail
  refine (sNew_own o1 8 (by decide)).mono ?_
  rintro e w2 ⟨r2, rfl, o2⟩
  go_wp2_with fail
  go_ret2
  exact ⟨_, r1, r2, rfl, o2.alloc (devObj ⟨id, secret, policy, [], []⟩ r1 r2)⟩

/-- Add: the peers behind it, the error. -/
def addD (D : Dv) (id pub : Int) : List (Int × Int) × Int :=
  if namedP id = false ∨ pub < 1 then (D.peers, 1) else if (lk id D.peers).isSome = true ∨ (wh pub D.peers).isSome = true then (D.peers, 4) else if 8 ≤ D.peers.length then (D.peers, 3) else (setI id pub D.peers, 0)
def DAddPost (w0 : World) (L : List Thing) (j : Nat) (r1 : Nat) (D : Dv) (id pub : Int) (e : Ending) (w' : World) : Prop :=
  e = .returned (.int .i64 (addD D id pub).2) ∧ Own w0 w' (L.set j (storeT r1 (stI (addD D id pub).1)))
theorem set_same {α : Type} {L : List α} {j : Nat} {x : α} (h : L[j]? = some x) : L.set j x = L := by
  apply List.ext_getElem?
  intro k
  rw [List.getElem?_set]
  by_cases e : j = k
  · subst e
    rw [if_pos rfl, if_pos (idx_lt h)]; exact h.symm
  · rw [if_neg e]
set_option maxHeartbeats 1600000 in
set_option maxRecDepth 100000 in
theorem dAdd_own {w0 w : World} {L : List Thing} {d r1 r2 : Nat} {D : Dv} (h : Own w0 w L) (i j : Nat) (hi : L[i]? = some (blk d (devObj D r1 r2))) (hj : L[j]? = some (storeT r1 (stI D.peers))) (id pub : Int) :
    Calls Tryz.prog 35 #[.pointer (some ⟨d, 0, none⟩), .int .i64 id, .int .i64 pub] w (DAddPost w0 L j r1 D id pub) := by
  have H := Lib.hid h
  obtain ⟨S, hs⟩ := h.storeAt hj
  have hd := h.blk hi
  have hp := peer_calls hd hs id
  have hw := who_calls hd hs pub
  have Hf := Lib.hid (show addD D id pub = if namedP id = false ∨ pub < 1 then (D.peers, 1) else if (lk id D.peers).isSome = true ∨ (wh pub D.peers).isSome = true then (D.peers, 4) else if 8 ≤ D.peers.length then (D.peers, 3) else (setI id pub D.peers, 0) from rfl)
  have Ha := Lib.hid (addSt_encI 8 id pub D.peers)
  unfold WhoPost at hw
  have Hq := Lib.hid (show (L.set j (storeT r1 (stI D.peers))) = L from set_same hj)
  generalize (lk id D.peers).getD 0 = q1 at *
  generalize (wh pub D.peers).getD 0 = q2 at *
  generalize (lk id D.peers).isSome = b1 at *
  generalize (wh pub D.peers).isSome = b2 at *
  clear hd hs h
  go_enter Tryz.func35, Tryz.ntmps35
  go_wp2_with fail
  refine hp.mono ?_
  rintro e w1 ⟨rfl, rfl⟩
  go_wp2_with fail
  refine hw.mono ?_
  rintro e w1 ⟨rfl, hb⟩
  go_wp2_with fail
  refine (named_calls id w1).mono ?_
  rintro e w2 ⟨rfl, rfl⟩
  have o1 := H.out.call hb
  have O1 := Lib.hid o1
  obtain ⟨c0, c1, c2, c3, c4⟩ := dev_cells (o1.blk hi)
  clear hp hw hb o1
  generalize namedP id = b0 at *
  cases b0 with
  | false =>
    have Hf2 := Lib.hid (show addD D id pub = (D.peers, 1) by rw [Hf.out]; simp)
    clear Hf
    go_wp2_with (go_quiet (fail))
    go_ret
    exact ⟨by rw [Hf2.out]; rfl, by rw [Hf2.out, Hq.out]; exact O1.out⟩
  | true =>
    by_cases hpub : pub < 1
    · have Hf2 := Lib.hid (show addD D id pub = (D.peers, 1) by rw [Hf.out]; simp [hpub])
      have hd1 : decide (pub < 1) = true := decide_eq_true hpub
      clear Hf hpub
      go_wp2_with (go_quiet (fail))
      go_ret
      exact ⟨by rw [Hf2.out]; rfl, by rw [Hf2.out, Hq.out]; exact O1.out⟩
    · have hd1 : decide (pub < 1) = false := decide_eq_false hpub
      cases b1 with
      | true =>
        have Hf2 := Lib.hid (show addD D id pub = (D.peers, 4) by rw [Hf.out]; simp [hpub])
        clear Hf hpub
        go_wp2_with (go_quiet (fail))
        go_ret
        exact ⟨by rw [Hf2.out]; rfl, by rw [Hf2.out, Hq.out]; exact O1.out⟩
      | false =>
        cases b2 with
        | true =>
          have Hf2 := Lib.hid (show addD D id pub = (D.peers, 4) by rw [Hf.out]; simp [hpub])
          clear Hf hpub
          go_wp2_with (go_quiet (fail))
          go_ret
          exact ⟨by rw [Hf2.out]; rfl, by rw [Hf2.out, Hq.out]; exact O1.out⟩
        | false =>
          have hadd : (stI (addD D id pub).1, (addD D id pub).2) = addSt (stI D.peers) id (.int .i64 pub) := by
            rw [Hf.out, stI, stI, Ha.out]
            by_cases h8 : 8 ≤ D.peers.length <;> simp [hpub, h8]
          have Hadd := Lib.hid hadd
          clear Hf hpub hadd Ha
          go_wp2_with (go_quiet (fail))
          refine (sAdd_own O1.out j hj id (.int .i64 pub)).mono ?_
          rintro e w3 ⟨rfl, o3⟩
          rw [← Hadd.out] at o3 ⊢
          simp only
          go_wp2_with fail
          go_ret
          exact ⟨rfl, o3⟩

/-- Drop: the peers and psks behind it, the error. -/
def dropD (D : Dv) (id : Int) : List (Int × Int) × List (Int × Int) × Int :=
  if (lk id D.peers).isSome = true then (dropI id D.peers, (if (lk id D.psks).isSome then dropI id D.psks else D.psks), 0) else (D.peers, D.psks, 4)
def DDropPost (w0 : World) (L : List Thing) (j k : Nat) (r1 r2 : Nat) (D : Dv) (id : Int) (e : Ending) (w' : World) : Prop :=
  e = .returned (.int .i64 (dropD D id).2.2) ∧ Own w0 w' ((L.set j (storeT r1 (stI (dropD D id).1))).set k (storeT r2 (stI (dropD D id).2.1)))
set_option maxHeartbeats 1600000 in
set_option maxRecDepth 100000 in
theorem dDrop_own {w0 w : World} {L : List Thing} {d r1 r2 : Nat} {D : Dv} (h : Own w0 w L) (i j k : Nat) (hi : L[i]? = some (blk d (devObj D r1 r2))) (hj : L[j]? = some (storeT r1 (stI D.peers))) (hk : L[k]? = some (storeT r2 (stI D.psks))) (hij : i ≠ j) (hjk : j ≠ k) (id : Int) :
    Calls Tryz.prog 39 #[.pointer (some ⟨d, 0, none⟩), .int .i64 id] w (DDropPost w0 L j k r1 r2 D id) := by
  obtain ⟨c0, c1, c2, c3, c4⟩ := dev_cells (h.blk hi)
  have H := Lib.hid h
  have Hdp := Lib.hid (dropS_encI 8 id D.peers)
  have Hds := Lib.hid (dropS_encI 8 id D.psks)
  clear h
  go_enter Tryz.func39, Tryz.ntmps39
  go_wp2_with fail
  refine (sDrop_own H.out j hj id).mono ?_
  rintro e w1 ⟨rfl, o1⟩
  rw [stI, Hdp.out] at o1 ⊢
  cases hb : (lk id D.peers).isSome with
  | false =>
    have Hf := Lib.hid (show dropD D id = (D.peers, D.psks, 4) by simp [dropD, hb])
    rw [hb] at o1
    simp only [Bool.false_eq_true, if_false] at o1 ⊢
    have O1 := Lib.hid o1
    clear o1 hb
    go_wp2_with fail
    go_ret
    refine ⟨by rw [Hf.out]; rfl, ?_⟩
    rw [Hf.out, set_same (L := L.set j _) (by rw [List.getElem?_set, if_neg hjk]; exact hk)]
    exact O1.out
  | true =>
    rw [hb] at o1
    have Hf := Lib.hid (show dropD D id = (dropI id D.peers, (if (lk id D.psks).isSome then dropI id D.psks else D.psks), 0) by simp [dropD, hb])
    simp only [if_true] at o1 ⊢
    have O1 := Lib.hid o1
    have hdw := o1.blk (i := i) (b := d) (o := devObj D r1 r2) (by rw [List.getElem?_set, if_neg (Ne.symm hij)]; exact hi)
    clear c0 c1 c2 c3 c4 o1 hb
    obtain ⟨c0, c1, c2, c3, c4⟩ := dev_cells hdw
    clear hdw
    go_wp2_with fail
    refine (sDrop_own O1.out k (s := stI D.psks) (by rw [List.getElem?_set, if_neg hjk]; exact hk) id).mono ?_
    rintro e w2 ⟨rfl, o2⟩
    rw [stI, Hds.out] at o2 ⊢
    generalize (lk id D.psks).isSome = b at *
    have Hf2 := Lib.hid (show (dropD D id).1 = dropI id D.peers ∧ (dropD D id).2.2 = 0 ∧ (dropD D id).2.1 = if b = true then dropI id D.psks else D.psks by rw [Hf.out]; exact ⟨rfl, rfl, rfl⟩)
    have O2 := Lib.hid o2
    clear o2 Hf
    cases b with
    | true =>
      simp only [if_true]
      go_wp2_with fail
      go_ret
      refine ⟨by rw [Hf2.out.2.1]; rfl, ?_⟩
      rw [Hf2.out.1, Hf2.out.2.2]
      exact O2.out
    | false =>
      simp only [Bool.false_eq_true, if_false]
      go_wp2_with fail
      go_ret
      refine ⟨by rw [Hf2.out.2.1]; rfl, ?_⟩
      rw [Hf2.out.1, Hf2.out.2.2]
      exact O2.out
/-- SetPsk: the psks behind it, the error. -/
def pskD (D : Dv) (id ref : Int) : List (Int × Int) × Int :=
  if (lk id D.peers).isSome = false then (D.psks, 4) else if ref < 1 then (D.psks, 1) else if (lk id D.psks).isSome = false ∧ 8 ≤ D.psks.length then (D.psks, 3) else (setI id ref D.psks, 0)
def DPskPost (w0 : World) (L : List Thing) (k : Nat) (r2 : Nat) (D : Dv) (id ref : Int) (e : Ending) (w' : World) : Prop :=
  e = .returned (.int .i64 (pskD D id ref).2) ∧ Own w0 w' (L.set k (storeT r2 (stI (pskD D id ref).1)))
set_option maxHeartbeats 1600000 in
set_option maxRecDepth 100000 in
theorem dPsk_own {w0 w : World} {L : List Thing} {d r1 r2 : Nat} {D : Dv} (h : Own w0 w L) (i j k : Nat) (hi : L[i]? = some (blk d (devObj D r1 r2))) (hj : L[j]? = some (storeT r1 (stI D.peers))) (hk : L[k]? = some (storeT r2 (stI D.psks))) (id ref : Int) :
    Calls Tryz.prog 40 #[.pointer (some ⟨d, 0, none⟩), .int .i64 id, .int .i64 ref] w (DPskPost w0 L k r2 D id ref) := by
  obtain ⟨S, hs⟩ := h.storeAt hj
  have hd := h.blk hi
  obtain ⟨c0, c1, c2, c3, c4⟩ := dev_cells hd
  have hp := peer_calls hd hs id
  have H := Lib.hid h
  have Hq := Lib.hid (show (L.set k (storeT r2 (stI D.psks))) = L from set_same hk)
  have Hps := Lib.hid (putS_encI 8 id ref D.psks)
  clear h hd hs
  generalize (lk id D.peers).getD 0 = q1 at *
  cases hb : (lk id D.peers).isSome with
  | false =>
    rw [hb] at hp
    have Hf := Lib.hid (show pskD D id ref = (D.psks, 4) by simp [pskD, hb])
    clear hb
    go_enter Tryz.func40, Tryz.ntmps40
    go_wp2_with fail
    refine hp.mono ?_
    rintro e w1 ⟨rfl, rfl⟩
    go_wp2_with fail
    go_ret
    exact ⟨by rw [Hf.out]; rfl, by rw [Hf.out, Hq.out]; exact H.out⟩
  | true =>
    rw [hb] at hp
    by_cases hr : ref < 1
    · have Hf := Lib.hid (show pskD D id ref = (D.psks, 1) by simp [pskD, hb, hr])
      have hd1 : decide (ref < 1) = true := decide_eq_true hr
      clear hb hr
      go_enter Tryz.func40, Tryz.ntmps40
      go_wp2_with fail
      refine hp.mono ?_
      rintro e w1 ⟨rfl, rfl⟩
      go_wp2_with fail
      go_ret
      exact ⟨by rw [Hf.out]; rfl, by rw [Hf.out, Hq.out]; exact H.out⟩
    · have hps : (stI (pskD D id ref).1, (pskD D id ref).2) = putS (stI D.psks) id (.int .i64 ref) := by
        rw [stI, stI, Hps.out]
        simp only [pskD, hb, hr, if_false, Bool.true_eq_false]
        split <;> rfl
      have Hpt := Lib.hid hps
      have hd1 : decide (ref < 1) = false := decide_eq_false hr
      clear hb hr hps Hps
      go_enter Tryz.func40, Tryz.ntmps40
      go_wp2_with fail
      refine hp.mono ?_
      rintro e w1 ⟨rfl, rfl⟩
      go_wp2_with fail
      refine (sPut_own H.out k hk id (.int .i64 ref)).mono ?_
      rintro e w2 ⟨rfl, o2⟩
      rw [← Hpt.out] at o2 ⊢
      simp only
      have O2 := Lib.hid o2
      clear o2
      go_wp2_with fail
      go_ret
      exact ⟨rfl, O2.out⟩
theorem dPeers_own {w0 w : World} {L : List Thing} {d r1 r2 : Nat} {D : Dv} (h : Own w0 w L) (i j : Nat) (hi : L[i]? = some (blk d (devObj D r1 r2))) (hj : L[j]? = some (storeT r1 (stI D.peers))) :
    Calls Tryz.prog 36 #[.pointer (some ⟨d, 0, none⟩)] w fun e w' => ∃ v, e = .returned v ∧ Own w0 w' (rowT 3 1 v D.peers.length ((D.peers.map (·.1)).map (Value.int .i64)) :: L) := by
  have hk := sKeys_own h j hj
  obtain ⟨c0, c1, c2, c3, c4⟩ := dev_cells (h.blk hi)
  rw [show (stI D.peers).l = encI D.peers from rfl, keysV_encI, encI_length] at hk
  have Hk := Lib.hid hk
  clear hk h
  go_enter Tryz.func36, Tryz.ntmps36
  go_wp2_with fail
  refine Hk.out.mono ?_
  rintro e w1 ⟨v, rfl, o1⟩
  have O1 := Lib.hid o1
  clear o1
  go_wp2_with fail
  go_ret
  exact ⟨v, rfl, O1.out⟩
/-- Accept: whose it is, the error. -/
def accD (D : Dv) (pub : Int) : Int × Int :=
  if D.policy = 0 then (0, 11) else match wh pub D.peers with | none => if D.policy = 1 then (0, 11) else (-1, 0) | some k => (k, 0)
def AccPost (D : Dv) (pub : Int) (w : World) (e : Ending) (w' : World) : Prop := e = .returned (.tuple #[.int .i64 (accD D pub).1, .int .i64 (accD D pub).2]) ∧ Below w.heap.size w w'
set_option maxHeartbeats 1600000 in
theorem acc_calls {w : World} {d r1 r2 : Nat} {D : Dv} {S : Nat → Prop} (hd : w.heap[d]? = some (devObj D r1 r2)) (hs : IsStore w r1 (stI D.peers) S) (pub : Int) :
    Calls Tryz.prog 17 #[.pointer (some ⟨d, 0, none⟩), .int .i64 pub] w (AccPost D pub w) := by
  have hw := who_calls hd hs pub
  unfold WhoPost at hw
  have Hd := Lib.hid hd
  clear hd hs
  cases hb : wh pub D.peers with
  | none =>
    rw [hb] at hw
    simp only [Option.getD_none, Option.isSome_none] at hw
    by_cases h0 : D.policy = 0
    · have Hf := Lib.hid (show accD D pub = (0, 11) by simp [accD, h0])
      have hd1 : (D.policy == 0) = true := by simp [h0]
      clear hb h0
      go_enter Tryz.func17, Tryz.ntmps17
      go_wp2_with fail
      refine hw.mono ?_
      rintro e w1 ⟨rfl, hb1⟩
      obtain ⟨c0, c1, c2, c3, c4⟩ := dev_cells ((hb1.block d (lt_of_heap Hd.out)).trans Hd.out)
      go_wp2_with (go_quiet (fail))
      go_ret2
      exact ⟨by rw [Hf.out]; rfl, hb1⟩
    · have hd1 : (D.policy == 0) = false := by simp [h0]
      by_cases h1 : D.policy = 1
      · have Hf := Lib.hid (show accD D pub = (0, 11) by simp [accD, h1, hb])
        have hd2 : (D.policy == 1) = true := by simp [h1]
        clear hb h0 h1
        go_enter Tryz.func17, Tryz.ntmps17
        go_wp2_with fail
        refine hw.mono ?_
        rintro e w1 ⟨rfl, hb1⟩
        obtain ⟨c0, c1, c2, c3, c4⟩ := dev_cells ((hb1.block d (lt_of_heap Hd.out)).trans Hd.out)
        go_wp2_with (go_quiet (fail))
        go_ret2
        exact ⟨by rw [Hf.out]; rfl, hb1⟩
      · have Hf := Lib.hid (show accD D pub = (-1, 0) by simp [accD, h0, h1, hb])
        have hd2 : (D.policy == 1) = false := by simp [h1]
        clear hb h0 h1
        go_enter Tryz.func17, Tryz.ntmps17
        go_wp2_with fail
        refine hw.mono ?_
        rintro e w1 ⟨rfl, hb1⟩
        obtain ⟨c0, c1, c2, c3, c4⟩ := dev_cells ((hb1.block d (lt_of_heap Hd.out)).trans Hd.out)
        go_wp2_with (go_quiet (fail))
        go_ret2
        exact ⟨by rw [Hf.out]; rfl, hb1⟩
  | some k =>
    rw [hb] at hw
    simp only [Option.getD_some, Option.isSome_some] at hw
    by_cases h0 : D.policy = 0
    · have Hf := Lib.hid (show accD D pub = (0, 11) by simp [accD, h0])
      have hd1 : (D.policy == 0) = true := by simp [h0]
      clear hb h0
      go_enter Tryz.func17, Tryz.ntmps17
      go_wp2_with fail
      refine hw.mono ?_
      rintro e w1 ⟨rfl, hb1⟩
      obtain ⟨c0, c1, c2, c3, c4⟩ := dev_cells ((hb1.block d (lt_of_heap Hd.out)).trans Hd.out)
      go_wp2_with (go_quiet (fail))
      go_ret2
      exact ⟨by rw [Hf.out]; rfl, hb1⟩
    · have Hf := Lib.hid (show accD D pub = (k, 0) by simp [accD, h0, hb])
      have hd1 : (D.policy == 0) = false := by simp [h0]
      clear hb h0
      cases hd2 : (D.policy == 1) with
      | true =>
        go_enter Tryz.func17, Tryz.ntmps17
        go_wp2_with fail
        refine hw.mono ?_
        rintro e w1 ⟨rfl, hb1⟩
        obtain ⟨c0, c1, c2, c3, c4⟩ := dev_cells ((hb1.block d (lt_of_heap Hd.out)).trans Hd.out)
        go_wp2_with (go_quiet (fail))
        go_ret2
        exact ⟨by rw [Hf.out]; rfl, hb1⟩
      | false =>
        go_enter Tryz.func17, Tryz.ntmps17
        go_wp2_with fail
        refine hw.mono ?_
        rintro e w1 ⟨rfl, hb1⟩
        obtain ⟨c0, c1, c2, c3, c4⟩ := dev_cells ((hb1.block d (lt_of_heap Hd.out)).trans Hd.out)
        go_wp2_with (go_quiet (fail))
        go_ret2
        exact ⟨by rw [Hf.out]; rfl, hb1⟩
/-! What the calls of DeviceFull come to. No program in sight. -/
theorem lk_none {k : Int} : ∀ {l : List (Int × Int)}, (∀ p ∈ l, p.1 ≠ k) → lk k l = none
  | [], _ => rfl
  | p :: l, h => by
    unfold lk
    rw [if_neg (fun e => h p (List.mem_cons_self ..) e.symm)]
    exact lk_none (fun q hq => h q (List.mem_cons_of_mem _ hq))
theorem wh_none {v : Int} : ∀ {l : List (Int × Int)}, (∀ p ∈ l, p.2 ≠ v) → wh v l = none
  | [], _ => rfl
  | p :: l, h => by
    unfold wh
    rw [if_neg (h p (List.mem_cons_self ..))]
    exact wh_none (fun q hq => h q (List.mem_cons_of_mem _ hq))
theorem setI_new {k v : Int} : ∀ {l : List (Int × Int)}, lk k l = none → setI k v l = l ++ [(k, v)]
  | [], _ => rfl
  | p :: l, h => by
    unfold lk at h
    unfold setI
    by_cases e : k = p.1
    · rw [if_pos e] at h; cases h
    · rw [if_neg e] at h ⊢
      rw [setI_new h]; rfl
theorem lk_some {k v : Int} : ∀ {l : List (Int × Int)}, (k, v) ∈ l → (lk k l).isSome = true
  | [], h => by cases h
  | p :: l, h => by
    unfold lk
    by_cases e : k = p.1
    · rw [if_pos e]; rfl
    · rw [if_neg e]
      rcases List.mem_cons.1 h with h | h
      · exact absurd (by rw [← h]) e
      · exact lk_some h
theorem dropI_sub {k : Int} : ∀ {l : List (Int × Int)} {p : Int × Int}, p ∈ dropI k l → p ∈ l
  | [], p, h => h
  | q :: l, p, h => by
    unfold dropI at h
    split at h
    · exact List.mem_cons_of_mem _ h
    · rcases List.mem_cons.1 h with h | h
      · rw [h]; exact List.mem_cons_self ..
      · exact List.mem_cons_of_mem _ (dropI_sub h)
theorem dropI_length {k : Int} : ∀ {l : List (Int × Int)}, (lk k l).isSome = true → (dropI k l).length + 1 = l.length
  | [], h => by cases h
  | p :: l, h => by
    unfold lk at h
    unfold dropI
    by_cases e : k = p.1
    · rw [if_pos e]; rfl
    · rw [if_neg e] at h ⊢
      have := dropI_length h
      simp only [List.length_cons]; omega

/-- The peers behind so many. -/
def fuL (f : Int) (k : Nat) : List (Int × Int) := (List.range k).map fun (j : Nat) => (f + (j : Int), 10 + (j : Int))
def fuD (f : Int) (k : Nat) : Dv := ⟨1, 1, 1, fuL f k, []⟩
theorem fuL_len (f : Int) (k : Nat) : (fuL f k).length = k := by simp [fuL]
theorem fuL_mem {f : Int} {k : Nat} {p : Int × Int} (h : p ∈ fuL f k) : ∃ j : Nat, j < k ∧ p = (f + (j : Int), 10 + (j : Int)) := by
  simp only [fuL, List.mem_map, List.mem_range] at h
  obtain ⟨j, hj, rfl⟩ := h
  exact ⟨j, hj, rfl⟩
theorem fuL_next (f : Int) (k : Nat) : fuL f k ++ [(f + (k : Int), 10 + (k : Int))] = fuL f (k + 1) := by simp [fuL, List.range_succ]
theorem named_ok {id : Int} (h0 : 0 ≤ id) (h1 : id < 1000) : namedP id = true := by simp [namedP, h0, h1]
theorem fu_add {f : Int} {k : Nat} (h0 : 0 ≤ f) (h1 : f ≤ 900) (hk : k < 8) : addD (fuD f k) (f + (k : Int)) (10 + (k : Int)) = (fuL f (k + 1), 0) := by
  have hl : lk (f + (k : Int)) (fuL f k) = none := lk_none (fun p hp => by obtain ⟨j, hj, rfl⟩ := fuL_mem hp; simp only; omega)
  have hw : wh (10 + (k : Int)) (fuL f k) = none := wh_none (fun p hp => by obtain ⟨j, hj, rfl⟩ := fuL_mem hp; simp only; omega)
  simp only [addD, fuD, hl, hw, named_ok (show 0 ≤ f + (k : Int) by omega) (by omega), fuL_len, setI_new hl, fuL_next]
  rw [if_neg (by simp; omega), if_neg (by simp), if_neg (by omega)]
theorem fu_full {f : Int} (h0 : 0 ≤ f) (h1 : f ≤ 900) : addD (fuD f 8) (f + 8) 18 = (fuL f 8, 3) := by
  have hl : lk (f + 8) (fuL f 8) = none := lk_none (fun p hp => by obtain ⟨j, hj, rfl⟩ := fuL_mem hp; simp only; omega)
  have hw : wh 18 (fuL f 8) = none := wh_none (fun p hp => by obtain ⟨j, hj, rfl⟩ := fuL_mem hp; simp only; omega)
  simp [addD, fuD, hl, hw, named_ok (show 0 ≤ f + 8 by omega) (by omega), fuL_len]
theorem fu_drop {f m : Int} (h0 : 0 ≤ m) (h7 : m ≤ 7) : dropD (fuD f 8) (f + m) = (dropI (f + m) (fuL f 8), [], 0) := by
  have hl : (lk (f + m) (fuL f 8)).isSome = true := lk_some (v := 10 + m) (by
    simp only [fuL, List.mem_map, List.mem_range]
    exact ⟨m.toNat, by omega, by rw [show ((m.toNat : Nat) : Int) = m by omega]⟩)
  simp [dropD, fuD, hl, lk]
theorem fu_len7 {f m : Int} (h0 : 0 ≤ m) (h7 : m ≤ 7) : (dropI (f + m) (fuL f 8)).length = 7 := by
  have hl : (lk (f + m) (fuL f 8)).isSome = true := lk_some (v := 10 + m) (by
    simp only [fuL, List.mem_map, List.mem_range]
    exact ⟨m.toNat, by omega, by rw [show ((m.toNat : Nat) : Int) = m by omega]⟩)
  have := dropI_length hl
  rw [fuL_len] at this; omega
theorem fu_again {f m : Int} (h0 : 0 ≤ f) (h1 : f ≤ 900) (hm0 : 0 ≤ m) (hm7 : m ≤ 7) : addD ⟨1, 1, 1, dropI (f + m) (fuL f 8), []⟩ (f + 8) 18 = (dropI (f + m) (fuL f 8) ++ [(f + 8, 18)], 0) := by
  have hl : lk (f + 8) (dropI (f + m) (fuL f 8)) = none := lk_none (fun p hp => by obtain ⟨j, hj, rfl⟩ := fuL_mem (dropI_sub hp); simp only; omega)
  have hw : wh 18 (dropI (f + m) (fuL f 8)) = none := wh_none (fun p hp => by obtain ⟨j, hj, rfl⟩ := fuL_mem (dropI_sub hp); simp only; omega)
  simp [addD, hl, hw, named_ok (show 0 ≤ f + 8 by omega) (by omega), fu_len7 hm0 hm7, setI_new hl]
end Go.Proofs.YtfelbecofbdeaaaGreatDoor
