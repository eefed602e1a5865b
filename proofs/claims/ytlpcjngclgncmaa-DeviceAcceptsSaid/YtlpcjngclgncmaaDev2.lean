/- The calls of layer 15 that make or change a device. -/
import Derived.Test.YtlpcjngclgncmaaDev
namespace Go.Proofs.Ytlpcjngclgncmaa
open Go.RowKit

def mayD (id secret policy : Int) : Bool := namedP id && decide (1 ≤ secret) && decide (0 ≤ policy) && decide (policy ≤ 2)
def DNewPost (w0 : World) (L : List Thing) (id secret policy : Int) (e : Ending) (w' : World) : Prop :=
  ∃ d r1 r2, e = .returned (.tuple #[.pointer (some ⟨d, 0, none⟩), .int .i64 0]) ∧ Own w0 w' (blk d (devObj ⟨id, secret, policy, [], []⟩ r1 r2) :: storeT r2 (stI []) :: storeT r1 (stI []) :: L)
set_option maxHeartbeats 800000 in
theorem dNew_own {w0 w : World} {L : List Thing} (h : Own w0 w L) (id secret policy : Int) (hm : mayD id secret policy = true) : Calls Try.prog 5 #[.int .i64 id, .int .i64 secret, .int .i64 policy] w (DNewPost w0 L id secret policy) := by
  have hm' := hm
  simp only [mayD, Bool.and_eq_true, decide_eq_true_eq] at hm'
  obtain ⟨⟨⟨h1, h2⟩, h3⟩, h4⟩ := hm'
  have d2 : decide (secret < 1) = false := decide_eq_false (by omega)
  have d3 : decide (policy < 0) = false := decide_eq_false (by omega)
  have d4 : decide (2 < policy) = false := decide_eq_false (by omega)
  clear hm h2 h3 h4
  go_enter Try.func5, Try.ntmps5
  go_wp2_with fail
  refine (named_calls id w).mono ?_
  rintro e w1 ⟨rfl, rfl⟩
  rw [h1]
  go_wp2_with (go_quiet (fail))
  refine (sNew_own h 8 (by decide)).mono ?_
  rintro e w1 ⟨r1, rfl, o1⟩
  go_wp2_with fail
  refine (sNew_own o1 8 (by decide)).mono ?_
  rintro e w2 ⟨r2, rfl, o2⟩
  go_wp2_with fail
  go_ret2
  exact ⟨_, r1, r2, rfl, o2.alloc (devObj ⟨id, secret, policy, [], []⟩ r1 r2)⟩

/-- Add: the peers behind it, the error. -/
def addD (D : Dv) (id pub : Int) : List (Int × Int) × Int :=
  if namedP id = false ∨ pub < 1 then (D.peers, 1) else if (lk id D.peers).isSome = true ∨ (wh pub D.peers).isSome = true then (D.peers, 4) else if 8 ≤ D.peers.length then (D.peers, 3) else (setI id pub D.peers, 0)
def DAddPost (w0 : World) (L : List Thing) (j : Nat) (r1 : Nat) (D : Dv) (id pub : Int) (e : Ending) (w' : World) : Prop :=
  e = .returned (.int .i64 (addD D id pub).2) ∧ Own w0 w' (L.set j (storeT r1 (stI (addD D id pub).1)))
theorem set_same {α : Type} {L : List α} {j : Nat} {x : α} (h : L[j]? = some x) : L.set j x = L := by
  apply List.ext_getElem?
  intro k
  rw [List.getElem?_set]
  by_cases e : j = k
  · subst e
    rw [if_pos rfl, if_pos (idx_lt h)]; exact h.symm
  · rw [if_neg e]
set_option maxHeartbeats 1600000 in
set_option maxRecDepth 100000 in
theorem dAdd_own {w0 w : World} {L : List Thing} {d r1 r2 : Nat} {D : Dv} (h : Own w0 w L) (i j : Nat) (hi : L[i]? = some (blk d (devObj D r1 r2))) (hj : L[j]? = some (storeT r1 (stI D.peers))) (id pub : Int) :
    Calls Try.prog 7 #[.pointer (some ⟨d, 0, none⟩), .int .i64 id, .int .i64 pub] w (DAddPost w0 L j r1 D id pub) := by
  have H := Lib.hid h
  obtain ⟨S, hs⟩ := h.storeAt hj
  have hd := h.blk hi
  have hp := peer_calls hd hs id
  have hw := who_calls hd hs pub
  have Hf := Lib.hid (show addD D id pub = if namedP id = false ∨ pub < 1 then (D.peers, 1) else if (lk id D.peers).isSome = true ∨ (wh pub D.peers).isSome = true then (D.peers, 4) else if 8 ≤ D.peers.length then (D.peers, 3) else (setI id pub D.peers, 0) from rfl)
  have Ha := Lib.hid (addS_encI 8 id pub D.peers)
  unfold WhoPost at hw
  have Hq := Lib.hid (show (L.set j (storeT r1 (stI D.peers))) = L from set_same hj)
  generalize (lk id D.peers).getD 0 = q1 at *
  generalize (wh pub D.peers).getD 0 = q2 at *
  generalize (lk id D.peers).isSome = b1 at *
  generalize (wh pub D.peers).isSome = b2 at *
  clear hd hs h
  go_enter Try.func7, Try.ntmps7
  go_wp2_with fail
  refine hp.mono ?_
  rintro e w1 ⟨rfl, rfl⟩
  go_wp2_with fail
  refine hw.mono ?_
  rintro e w1 ⟨rfl, hb⟩
  go_wp2_with fail
  refine (named_calls id w1).mono ?_
  rintro e w2 ⟨rfl, rfl⟩
  have o1 := H.out.call hb
  have O1 := Lib.hid o1
  obtain ⟨c0, c1, c2, c3, c4⟩ := dev_cells (o1.blk hi)
  clear hp hw hb o1
  generalize namedP id = b0 at *
  cases b0 with
  | false =>
    have Hf2 := Lib.hid (show addD D id pub = (D.peers, 1) by rw [Hf.out]; simp)
    clear Hf
    go_wp2_with (go_quiet (fail))
    go_ret
    exact ⟨by rw [Hf2.out]; rfl, by rw [Hf2.out, Hq.out]; exact O1.out⟩
  | true =>
    by_cases hpub : pub < 1
    · have Hf2 := Lib.hid (show addD D id pub = (D.peers, 1) by rw [Hf.out]; simp [hpub])
      have hd1 : decide (pub < 1) = true := decide_eq_true hpub
      clear Hf hpub
      go_wp2_with (go_quiet (fail))
      go_ret
      exact ⟨by rw [Hf2.out]; rfl, by rw [Hf2.out, Hq.out]; exact O1.out⟩
    · have hd1 : decide (pub < 1) = false := decide_eq_false hpub
      cases b1 with
      | true =>
        have Hf2 := Lib.hid (show addD D id pub = (D.peers, 4) by rw [Hf.out]; simp [hpub])
        clear Hf hpub
        go_wp2_with (go_quiet (fail))
        go_ret
        exact ⟨by rw [Hf2.out]; rfl, by rw [Hf2.out, Hq.out]; exact O1.out⟩
      | false =>
        cases b2 with
        | true =>
          have Hf2 := Lib.hid (show addD D id pub = (D.peers, 4) by rw [Hf.out]; simp [hpub])
          clear Hf hpub
          go_wp2_with (go_quiet (fail))
          go_ret
          exact ⟨by rw [Hf2.out]; rfl, by rw [Hf2.out, Hq.out]; exact O1.out⟩
        | false =>
          have hadd : (stI (addD D id pub).1, (addD D id pub).2) = addS (stI D.peers) id (.int .i64 pub) := by
            rw [Hf.out, stI, stI, Ha.out]
            by_cases h8 : 8 ≤ D.peers.length <;> simp [hpub, h8]
          have Hadd := Lib.hid hadd
          clear Hf hpub hadd Ha
          go_wp2_with (go_quiet (fail))
          refine (sAdd_own O1.out j hj id (.int .i64 pub)).mono ?_
          rintro e w3 ⟨rfl, o3⟩
          rw [← Hadd.out] at o3 ⊢
          simp only
          go_wp2_with fail
          go_ret
          exact ⟨rfl, o3⟩

/-- Drop: the peers and psks behind it, the error. -/
def dropD (D : Dv) (id : Int) : List (Int × Int) × List (Int × Int) × Int :=
  if (lk id D.peers).isSome = true then (dropI id D.peers, (if (lk id D.psks).isSome then dropI id D.psks else D.psks), 0) else (D.peers, D.psks, 4)
def DDropPost (w0 : World) (L : List Thing) (j k : Nat) (r1 r2 : Nat) (D : Dv) (id : Int) (e : Ending) (w' : World) : Prop :=
  e = .returned (.int .i64 (dropD D id).2.2) ∧ Own w0 w' ((L.set j (storeT r1 (stI (dropD D id).1))).set k (storeT r2 (stI (dropD D id).2.1)))
set_option maxHeartbeats 1600000 in
set_option maxRecDepth 100000 in
theorem dDrop_own {w0 w : World} {L : List Thing} {d r1 r2 : Nat} {D : Dv} (h : Own w0 w L) (i j k : Nat) (hi : L[i]? = some (blk d (devObj D r1 r2))) (hj : L[j]? = some (storeT r1 (stI D.peers))) (hk : L[k]? = some (storeT r2 (stI D.psks))) (hij : i ≠ j) (hjk : j ≠ k) (id : Int) :
    Calls Try.prog 8 #[.pointer (some ⟨d, 0, none⟩), .int .i64 id] w (DDropPost w0 L j k r1 r2 D id) := by
  obtain ⟨c0, c1, c2, c3, c4⟩ := dev_cells (h.blk hi)
  have H := Lib.hid h
  have Hdp := Lib.hid (dropS_encI 8 id D.peers)
  have Hds := Lib.hid (dropS_encI 8 id D.psks)
  clear h
  go_enter Try.func8, Try.ntmps8
  go_wp2_with fail
  refine (sDrop_own H.out j hj id).mono ?_
  rintro e w1 ⟨rfl, o1⟩
  rw [stI, Hdp.out] at o1 ⊢
  cases hb : (lk id D.peers).isSome with
  | false =>
    have Hf := Lib.hid (show dropD D id = (D.peers, D.psks, 4) by simp [dropD, hb])
    rw [hb] at o1
    simp only [Bool.false_eq_true, if_false] at o1 ⊢
    have O1 := Lib.hid o1
    clear o1 hb
    go_wp2_with fail
    go_ret
    refine ⟨by rw [Hf.out]; rfl, ?_⟩
    rw [Hf.out, set_same (L := L.set j _) (by rw [List.getElem?_set, if_neg hjk]; exact hk)]
    exact O1.out
  | true =>
    rw [hb] at o1
    have Hf := Lib.hid (show dropD D id = (dropI id D.peers, (if (lk id D.psks).isSome then dropI id D.psks else D.psks), 0) by simp [dropD, hb])
    simp only [if_true] at o1 ⊢
    have O1 := Lib.hid o1
    have hdw := o1.blk (i := i) (b := d) (o := devObj D r1 r2) (by rw [List.getElem?_set, if_neg (Ne.symm hij)]; exact hi)
    clear c0 c1 c2 c3 c4 o1 hb
    obtain ⟨c0, c1, c2, c3, c4⟩ := dev_cells hdw
    clear hdw
    go_wp2_with fail
    refine (sDrop_own O1.out k (s := stI D.psks) (by rw [List.getElem?_set, if_neg hjk]; exact hk) id).mono ?_
    rintro e w2 ⟨rfl, o2⟩
    rw [stI, Hds.out] at o2 ⊢
    generalize (lk id D.psks).isSome = b at *
    have Hf2 := Lib.hid (show (dropD D id).1 = dropI id D.peers ∧ (dropD D id).2.2 = 0 ∧ (dropD D id).2.1 = if b = true then dropI id D.psks else D.psks by rw [Hf.out]; exact ⟨rfl, rfl, rfl⟩)
    have O2 := Lib.hid o2
    clear o2 Hf
    cases b with
    | true =>
      simp only [if_true]
      go_wp2_with fail
      go_ret
      refine ⟨by rw [Hf2.out.2.1]; rfl, ?_⟩
      rw [Hf2.out.1, Hf2.out.2.2]
      exact O2.out
    | false =>
      simp only [Bool.false_eq_true, if_false]
      go_wp2_with fail
      go_ret
      refine ⟨by rw [Hf2.out.2.1]; rfl, ?_⟩
      rw [Hf2.out.1, Hf2.out.2.2]
      exact O2.out
/-- SetPsk: the psks behind it, the error. -/
def pskD (D : Dv) (id ref : Int) : List (Int × Int) × Int :=
  if (lk id D.peers).isSome = false then (D.psks, 4) else if ref < 1 then (D.psks, 1) else if (lk id D.psks).isSome = false ∧ 8 ≤ D.psks.length then (D.psks, 3) else (setI id ref D.psks, 0)
def DPskPost (w0 : World) (L : List Thing) (k : Nat) (r2 : Nat) (D : Dv) (id ref : Int) (e : Ending) (w' : World) : Prop :=
  e = .returned (.int .i64 (pskD D id ref).2) ∧ Own w0 w' (L.set k (storeT r2 (stI (pskD D id ref).1)))
set_option maxHeartbeats 1600000 in
set_option maxRecDepth 100000 in
theorem dPsk_own {w0 w : World} {L : List Thing} {d r1 r2 : Nat} {D : Dv} (h : Own w0 w L) (i j k : Nat) (hi : L[i]? = some (blk d (devObj D r1 r2))) (hj : L[j]? = some (storeT r1 (stI D.peers))) (hk : L[k]? = some (storeT r2 (stI D.psks))) (id ref : Int) :
    Calls Try.prog 22 #[.pointer (some ⟨d, 0, none⟩), .int .i64 id, .int .i64 ref] w (DPskPost w0 L k r2 D id ref) := by
  obtain ⟨S, hs⟩ := h.storeAt hj
  have hd := h.blk hi
  obtain ⟨c0, c1, c2, c3, c4⟩ := dev_cells hd
  have hp := peer_calls hd hs id
  have H := Lib.hid h
  have Hq := Lib.hid (show (L.set k (storeT r2 (stI D.psks))) = L from set_same hk)
  have Hps := Lib.hid (putS_encI 8 id ref D.psks)
  clear h hd hs
  generalize (lk id D.peers).getD 0 = q1 at *
  cases hb : (lk id D.peers).isSome with
  | false =>
    rw [hb] at hp
    have Hf := Lib.hid (show pskD D id ref = (D.psks, 4) by simp [pskD, hb])
    clear hb
    go_enter Try.func22, Try.ntmps22
    go_wp2_with fail
    refine hp.mono ?_
    rintro e w1 ⟨rfl, rfl⟩
    go_wp2_with fail
    go_ret
    exact ⟨by rw [Hf.out]; rfl, by rw [Hf.out, Hq.out]; exact H.out⟩
  | true =>
    rw [hb] at hp
    by_cases hr : ref < 1
    · have Hf := Lib.hid (show pskD D id ref = (D.psks, 1) by simp [pskD, hb, hr])
      have hd1 : decide (ref < 1) = true := decide_eq_true hr
      clear hb hr
      go_enter Try.func22, Try.ntmps22
      go_wp2_with fail
      refine hp.mono ?_
      rintro e w1 ⟨rfl, rfl⟩
      go_wp2_with fail
      go_ret
      exact ⟨by rw [Hf.out]; rfl, by rw [Hf.out, Hq.out]; exact H.out⟩
    · have hps : (stI (pskD D id ref).1, (pskD D id ref).2) = putS (stI D.psks) id (.int .i64 ref) := by
        rw [stI, stI, Hps.out]
        simp only [pskD, hb, hr, if_false, Bool.true_eq_false]
        split <;> rfl
      have Hpt := Lib.hid hps
      have hd1 : decide (ref < 1) = false := decide_eq_false hr
      clear hb hr hps Hps
      go_enter Try.func22, Try.ntmps22
      go_wp2_with fail
      refine hp.mono ?_
      rintro e w1 ⟨rfl, rfl⟩
      go_wp2_with fail
      refine (sPut_own H.out k hk id (.int .i64 ref)).mono ?_
      rintro e w2 ⟨rfl, o2⟩
      rw [← Hpt.out] at o2 ⊢
      simp only
      have O2 := Lib.hid o2
      clear o2
      go_wp2_with fail
      go_ret
      exact ⟨rfl, O2.out⟩
theorem dPeers_own {w0 w : World} {L : List Thing} {d r1 r2 : Nat} {D : Dv} (h : Own w0 w L) (i j : Nat) (hi : L[i]? = some (blk d (devObj D r1 r2))) (hj : L[j]? = some (storeT r1 (stI D.peers))) :
    Calls Try.prog 9 #[.pointer (some ⟨d, 0, none⟩)] w fun e w' => ∃ v, e = .returned v ∧ Own w0 w' (rowT 3 1 v D.peers.length ((D.peers.map (·.1)).map (Value.int .i64)) :: L) := by
  have hk := sKeys_own h j hj
  obtain ⟨c0, c1, c2, c3, c4⟩ := dev_cells (h.blk hi)
  rw [show (stI D.peers).l = encI D.peers from rfl, keysV_encI, encI_length] at hk
  have Hk := Lib.hid hk
  clear hk h
  go_enter Try.func9, Try.ntmps9
  go_wp2_with fail
  refine Hk.out.mono ?_
  rintro e w1 ⟨v, rfl, o1⟩
  have O1 := Lib.hid o1
  clear o1
  go_wp2_with fail
  go_ret
  exact ⟨v, rfl, O1.out⟩
/-- Accept: whose it is, the error. -/
def accD (D : Dv) (pub : Int) : Int × Int :=
  if D.policy = 0 then (0, 11) else match wh pub D.peers with | none => if D.policy = 1 then (0, 11) else (-1, 0) | some k => (k, 0)
def AccPost (D : Dv) (pub : Int) (w : World) (e : Ending) (w' : World) : Prop := e = .returned (.tuple #[.int .i64 (accD D pub).1, .int .i64 (accD D pub).2]) ∧ Below w.heap.size w w'
set_option maxHeartbeats 1600000 in
theorem acc_calls {w : World} {d r1 r2 : Nat} {D : Dv} {S : Nat → Prop} (hd : w.heap[d]? = some (devObj D r1 r2)) (hs : IsStore w r1 (stI D.peers) S) (pub : Int) :
    Calls Try.prog 11 #[.pointer (some ⟨d, 0, none⟩), .int .i64 pub] w (AccPost D pub w) := by
  have hw := who_calls hd hs pub
  unfold WhoPost at hw
  have Hd := Lib.hid hd
  clear hd hs
  cases hb : wh pub D.peers with
  | none =>
    rw [hb] at hw
    simp only [Option.getD_none, Option.isSome_none] at hw
    by_cases h0 : D.policy = 0
    · have Hf := Lib.hid (show accD D pub = (0, 11) by simp [accD, h0])
      have hd1 : (D.policy == 0) = true := by simp [h0]
      clear hb h0
      go_enter Try.func11, Try.ntmps11
      go_wp2_with fail
      refine hw.mono ?_
      rintro e w1 ⟨rfl, hb1⟩
      obtain ⟨c0, c1, c2, c3, c4⟩ := dev_cells ((hb1.block d (lt_of_heap Hd.out)).trans Hd.out)
      go_wp2_with (go_quiet (fail))
      go_ret2
      exact ⟨by rw [Hf.out]; rfl, hb1⟩
    · have hd1 : (D.policy == 0) = false := by simp [h0]
      by_cases h1 : D.policy = 1
      · have Hf := Lib.hid (show accD D pub = (0, 11) by simp [accD, h1, hb])
        have hd2 : (D.policy == 1) = true := by simp [h1]
        clear hb h0 h1
        go_enter Try.func11, Try.ntmps11
        go_wp2_with fail
        refine hw.mono ?_
        rintro e w1 ⟨rfl, hb1⟩
        obtain ⟨c0, c1, c2, c3, c4⟩ := dev_cells ((hb1.block d (lt_of_heap Hd.out)).trans Hd.out)
        go_wp2_with (go_quiet (fail))
        go_ret2
        exact ⟨by rw [Hf.out]; rfl, hb1⟩
      · have Hf := Lib.hid (show accD D pub = (-1, 0) by simp [accD, h0, h1, hb])
        have hd2 : (D.policy == 1) = false := by simp [h1]
        clear hb h0 h1
        go_enter Try.func11, Try.ntmps11
        go_wp2_with fail
        refine hw.mono ?_
        rintro e w1 ⟨rfl, hb1⟩
        obtain ⟨c0, c1, c2, c3, c4⟩ := dev_cells ((hb1.block d (lt_of_heap Hd.out)).trans Hd.out)
        go_wp2_with (go_quiet (fail))
        go_ret2
        exact ⟨by rw [Hf.out]; rfl, hb1⟩
  | some k =>
    rw [hb] at hw
    simp only [Option.getD_some, Option.isSome_some] at hw
    by_cases h0 : D.policy = 0
    · have Hf := Lib.hid (show accD D pub = (0, 11) by simp [accD, h0])
      have hd1 : (D.policy == 0) = true := by simp [h0]
      clear hb h0
      go_enter Try.func11, Try.ntmps11
      go_wp2_with fail
      refine hw.mono ?_
      rintro e w1 ⟨rfl, hb1⟩
      obtain ⟨c0, c1, c2, c3, c4⟩ := dev_cells ((hb1.block d (lt_of_heap Hd.out)).trans Hd.out)
      go_wp2_with (go_quiet (fail))
      go_ret2
      exact ⟨by rw [Hf.out]; rfl, hb1⟩
    · have Hf := Lib.hid (show accD D pub = (k, 0) by simp [accD, h0, hb])
      have hd1 : (D.policy == 0) = false := by simp [h0]
      clear hb h0
      cases hd2 : (D.policy == 1) with
      | true =>
        go_enter Try.func11, Try.ntmps11
        go_wp2_with fail
        refine hw.mono ?_
        rintro e w1 ⟨rfl, hb1⟩
        obtain ⟨c0, c1, c2, c3, c4⟩ := dev_cells ((hb1.block d (lt_of_heap Hd.out)).trans Hd.out)
        go_wp2_with (go_quiet (fail))
        go_ret2
        exact ⟨by rw [Hf.out]; rfl, hb1⟩
      | false =>
        go_enter Try.func11, Try.ntmps11
        go_wp2_with fail
        refine hw.mono ?_
        rintro e w1 ⟨rfl, hb1⟩
        obtain ⟨c0, c1, c2, c3, c4⟩ := dev_cells ((hb1.block d (lt_of_heap Hd.out)).trans Hd.out)
        go_wp2_with (go_quiet (fail))
        go_ret2
        exact ⟨by rw [Hf.out]; rfl, hb1⟩
end Go.Proofs.Ytlpcjngclgncmaa
