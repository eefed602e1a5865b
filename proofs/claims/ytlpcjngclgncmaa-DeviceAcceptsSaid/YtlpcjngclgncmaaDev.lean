/- The calls of layer 15 on a device: New, Id, Peer, Who. -/
import Derived.Test.YtlpcjngclgncmaaAssoc
import Derived.Test.YtlpcjngclgncmaaOwnS
namespace Go.Proofs.Ytlpcjngclgncmaa
open Go.RowKit

structure Dv where
  id : Int
  secret : Int
  policy : Int
  peers : List (Int × Int)
  psks : List (Int × Int)
def stI (l : List (Int × Int)) : St := ⟨8, encI l⟩
def devObj (D : Dv) (r1 r2 : Nat) : Obj := .cells #[.int .i64 D.id, .int .i64 D.secret, .int .i64 D.policy, .pointer (some ⟨r1, 0, none⟩), .pointer (some ⟨r2, 0, none⟩)] 46 (0, 0)
/-- A device at block d. -/
def devs (d r1 r2 : Nat) (D : Dv) : List Thing := [blk d (devObj D r1 r2), storeT r1 (stI D.peers), storeT r2 (stI D.psks)]
theorem dev_cells {w : World} {d r1 r2 : Nat} {D : Dv} (h : w.heap[d]? = some (devObj D r1 r2)) : w.cell? ⟨d, 0, none⟩ = some (.int .i64 D.id) ∧ w.cell? ⟨d, 1, none⟩ = some (.int .i64 D.secret) ∧ w.cell? ⟨d, 2, none⟩ = some (.int .i64 D.policy) ∧ w.cell? ⟨d, 3, none⟩ = some (.pointer (some ⟨r1, 0, none⟩)) ∧ w.cell? ⟨d, 4, none⟩ = some (.pointer (some ⟨r2, 0, none⟩)) :=
  ⟨cell_of_heap h, cell_of_heap h, cell_of_heap h, cell_of_heap h, cell_of_heap h⟩
def namedP (id : Int) : Bool := decide (0 ≤ id) && decide (id < 1000)
set_option maxHeartbeats 400000 in
theorem named_calls (id : Int) (w : World) : Calls Try.prog 13 #[.int .i64 id] w fun e w' => e = .returned (.bool (namedP id)) ∧ w = w' := by
  by_cases h0 : 0 ≤ id
  · have hd : decide (0 ≤ id) = true := decide_eq_true h0
    cases h1 : decide (id < 1000) with
    | true =>
      have Hn := Lib.hid (show namedP id = true by simp only [namedP, hd, h1]; rfl)
      clear h0
      go_enter Try.func13, Try.ntmps13
      go_wp2_with (go_quiet (fail))
      go_ret
      exact ⟨by rw [Hn.out]; rfl, rfl⟩
    | false =>
      have Hn := Lib.hid (show namedP id = false by simp only [namedP, hd, h1]; rfl)
      clear h0
      go_enter Try.func13, Try.ntmps13
      go_wp2_with (go_quiet (fail))
      go_ret
      exact ⟨by rw [Hn.out]; rfl, rfl⟩
  · have hd : decide (0 ≤ id) = false := decide_eq_false h0
    have Hn := Lib.hid (show namedP id = false by simp only [namedP, hd]; rfl)
    clear h0
    go_enter Try.func13, Try.ntmps13
    go_wp2_with (go_quiet (fail))
    go_ret
    exact ⟨by rw [Hn.out]; rfl, rfl⟩
set_option maxHeartbeats 400000 in
theorem peer_calls {w : World} {d r1 r2 : Nat} {D : Dv} {S : Nat → Prop} (hd : w.heap[d]? = some (devObj D r1 r2)) (hs : IsStore w r1 (stI D.peers) S) (id : Int) :
    Calls Try.prog 16 #[.pointer (some ⟨d, 0, none⟩), .int .i64 id] w fun e w' => e = .returned (.tuple #[.int .i64 ((lk id D.peers).getD 0), .bool (lk id D.peers).isSome]) ∧ w = w' := by
  obtain ⟨c0, c1, c2, c3, c4⟩ := dev_cells hd
  have hg := sGet_calls hs id
  rw [stI, getS_encI, hasS_encI] at hg
  clear hd
  go_enter Try.func16, Try.ntmps16
  go_wp2_with fail
  refine hg.mono ?_
  rintro e w1 ⟨rfl, rfl⟩
  go_wp2_with fail
  go_ret2
  exact ⟨rfl, rfl⟩
set_option maxHeartbeats 400000 in
theorem id_calls {w : World} {d r1 r2 : Nat} {D : Dv} (hd : w.heap[d]? = some (devObj D r1 r2)) :
    Calls Try.prog 15 #[.pointer (some ⟨d, 0, none⟩)] w fun e w' => e = .returned (.int .i64 D.id) ∧ w = w' := by
  obtain ⟨c0, c1, c2, c3, c4⟩ := dev_cells hd
  clear hd
  go_enter Try.func15, Try.ntmps15
  go_wp2_with fail
  go_ret
  exact ⟨rfl, rfl⟩
theorem enters_who1 : ∀ args w, (callFunc 25 args).run Try.prog w = .ok (.enter 25 args) w := enters_of Try.func25 (by kernel_rfl) rfl
set_option maxHeartbeats 400000 in
theorem who1_gives {W : World} {d r1 r2 : Nat} {D : Dv} {S : Nat → Prop} (hd : W.heap[d]? = some (devObj D r1 r2)) (hs : IsStore W r1 (stI D.peers) S) (x pub : Int) (B C : Nat) (hB : W.cell? ⟨B, 0, none⟩ = some (.pointer (some ⟨d, 0, none⟩))) (hC : W.cell? ⟨C, 0, none⟩ = some (.int .i64 pub)) :
    FnGives Try.prog 25 #[.pointer (some ⟨B, 0, none⟩), .pointer (some ⟨C, 0, none⟩)] #[.int .i64 x] (.bool (decide ((lk x D.peers).getD 0 = pub))) W := by
  show Calls Try.prog 25 #[.int .i64 x, .pointer (some ⟨B, 0, none⟩), .pointer (some ⟨C, 0, none⟩)] W _
  have hp := peer_calls hd hs x
  generalize (lk x D.peers).getD 0 = q at *
  generalize (lk x D.peers).isSome = b at *
  have hq : decide (q = pub) = (q == pub) := by rw [Bool.eq_iff_iff]; simp
  rw [hq]
  clear hq hd hs
  go_enter Try.func25, Try.ntmps25
  go_wp2_with fail
  refine hp.mono ?_
  rintro e w1 ⟨rfl, rfl⟩
  go_wp2_with fail
  go_ret
  exact ⟨rfl, 0, rfl⟩
def WhoPost (D : Dv) (pub : Int) (w : World) (e : Ending) (w' : World) : Prop := e = .returned (.tuple #[.int .i64 ((wh pub D.peers).getD 0), .bool (wh pub D.peers).isSome]) ∧ Below w.heap.size w w'
set_option maxHeartbeats 1600000 in
set_option maxRecDepth 100000 in
theorem who_calls {w : World} {d r1 r2 : Nat} {D : Dv} {S : Nat → Prop} (hd : w.heap[d]? = some (devObj D r1 r2)) (hs : IsStore w r1 (stI D.peers) S) (pub : Int) :
    Calls Try.prog 17 #[.pointer (some ⟨d, 0, none⟩), .int .i64 pub] w (WhoPost D pub w) := by
  have hb2 := below2 w (.cells #[.pointer (some ⟨d, 0, none⟩)] 22) (.cells #[.int .i64 pub] 3)
  have hk := sKeys_calls (hs.below hb2)
  obtain ⟨c0, c1, c2, c3, c4⟩ := dev_cells (((hb2.block d (lt_of_heap hd)).trans hd))
  have Hs := Lib.hid hs
  have Hd := Lib.hid hd
  have hbx := two_new w (.cells #[.pointer (some ⟨d, 0, none⟩)] 22) (.cells #[.int .i64 pub] 3)
  have Hbx := Lib.hid hbx
  clear hs hd hbx
  go_enter Try.func17, Try.ntmps17
  go_wp2_with fail
  refine hk.mono ?_
  rintro e w1 ⟨v, rfl, hr, hb1⟩
  have hbw : Below w.heap.size w w1 := below_call hb2 hb1
  have hB := (hb1.block w.heap.size (by simp; omega)).trans Hbx.out.1
  have hC := (hb1.block (w.heap.size + 1) (by simp)).trans Hbx.out.2
  have hdw := (hbw.block d (lt_of_heap Hd.out)).trans Hd.out
  have hsw := Hs.out.below hbw
  obtain ⟨bm0, kv0, hat0, -⟩ := hsw
  have hnd : (D.peers.map (·.1)).Nodup := by have := hat0.nodup; simpa [stI, encI_keys] using this
  have hroom : D.peers.length ≤ 8 := by have := hat0.room.1; simpa [stI, encI_length] using this
  clear hat0
  have hsw := Hs.out.below hbw
  rw [show (stI D.peers).l = encI D.peers from rfl, keysV_encI, encI_length] at hr
  have hix := wh_idx pub (fun x => decide ((lk x D.peers).getD 0 = pub)) D.peers 0 (fun q hq => by rw [lk_mem hnd q hq]; rfl)
  have hmf : ∀ (fn : Fn) (first cap : Array Value) (w : World), (Instr.makeFunc fn first cap).run Try.prog w = .ok (.func fn first cap) w := fun _ _ _ _ => rfl
  have hpred : PredAt Try.prog 25 #[.pointer (some ⟨w.heap.size, 0, none⟩), .pointer (some ⟨w.heap.size + 1, 0, none⟩)] (Value.int .i64) (fun x => decide ((lk x D.peers).getD 0 = pub)) w1 := fun W x hb =>
    who1_gives ((hb.block d (lt_of_heap hdw)).trans hdw) (hsw.below hb) x pub _ _ (cell_of_heap ((hb.block _ (lt_of_heap hB)).trans hB)) (cell_of_heap ((hb.block _ (lt_of_heap hC)).trans hC))
  clear hdw hk c0 c1 c2 c3 c4 hB hC
  rcases hr.2 with ⟨rfl, h0⟩ | ⟨g, cap, cur, rfl, hgb, hg, hnc, hmax, hcs, hcur⟩
  · have hp0 : D.peers = [] := List.eq_nil_of_length_eq_zero h0
    have hw0 : wh pub D.peers = none := by rw [hp0]; rfl
    have Hw := Lib.hid hw0
    clear hw0
    have hcon := Sh.slices_IndexFunc_empty (α := Int) none 0 (.func (.func 25) #[] #[.pointer (some ⟨w.heap.size, 0, none⟩), .pointer (some ⟨w.heap.size + 1, 0, none⟩)]) w1
    clear hr hix hpred hnd hroom
    go_wp2_with fail
    refine hcon.mono ?_
    rintro e w2 ⟨rfl, rfl⟩
    go_wp2_with fail
    go_ret2
    exact ⟨by rw [Hw.out]; rfl, hbw⟩
  · have hcell : ∀ (j : Nat) (x : Int), (D.peers.map (·.1))[j]? = some x → w1.cell? ⟨g, j, none⟩ = some (.int .i64 x) := fun j x hj => by
      rw [cell_of_heap hg]
      have hjl := (List.getElem?_eq_some_iff.1 hj).1
      have : cur[j]? = ((D.peers.map (·.1)).map (Value.int .i64))[j]? := by
        rw [← hcur, List.getElem?_take, if_pos (by simp at hjl; omega), Array.getElem?_toList]
      rw [this, List.getElem?_map, hj]; rfl
    have Hcell := Lib.hid hcell
    clear hcell
    have hcon := Sh.slices_IndexFunc (Value.int .i64) (fun x => decide ((lk x D.peers).getD 0 = pub)) 25 #[.pointer (some ⟨w.heap.size, 0, none⟩), .pointer (some ⟨w.heap.size + 1, 0, none⟩)] enters_who1 g 0 D.peers.length cap (D.peers.map (·.1)) w1 hpred (by simp) (by omega) (fun j hj => by
      rw [Nat.zero_add, Hcell.out j _ (List.getElem?_eq_getElem hj), getElem!_pos _ j hj])
    rw [List.take_of_length_le (by simp), Lib.idxBy] at hcon
    cases hw : wh pub D.peers with
    | none =>
      rw [hw] at hix
      rw [hix] at hcon
      have Hw := Lib.hid hw
      clear hix hr hcur hpred hg hw
      go_wp2_with fail
      refine hcon.mono ?_
      rintro e w2 ⟨rfl, q, rfl⟩
      go_wp2_with fail
      go_ret2
      exact ⟨by rw [Hw.out]; rfl, hbw.trans (Upd.below (S := None) ((Upd.refl _ _).drewN _) hbw.size (fun _ _ h => h))⟩
    | some k =>
      rw [hw] at hix
      obtain ⟨j, hj, hi⟩ := hix
      rw [hi] at hcon
      have hcj := Hcell.out j k hj
      have hjl : j < D.peers.length := by have := (List.getElem?_eq_some_iff.1 hj).1; simpa using this
      have Hw := Lib.hid hw
      clear hi hj hr hcur hpred hg hw
      rw [Nat.zero_add] at hcon
      go_wp2_with fail
      refine hcon.mono ?_
      rintro e w2 ⟨rfl, q, rfl⟩
      go_wp2_with fail
      go_ret2
      exact ⟨by rw [Hw.out]; rfl, hbw.trans (Upd.below (S := None) ((Upd.refl _ _).drewN _) hbw.size (fun _ _ h => h))⟩
end Go.Proofs.Ytlpcjngclgncmaa
