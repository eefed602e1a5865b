/- The device, and the row of peers, behind the law's calls of layer 15. -/
import Derived.Test.YtlpcjngclgncmaaDevRun
import Derived.Test.YtlpcjngclgncmaaOpen3
import Derived.OwnWalk
namespace Go.Proofs.Ytlpcjngclgncmaa
open Go.RowKit

abbrev prT (v : Value) (l : List Pr) : Thing := rowT 40 3 v l.length (l.flatMap Pr.cells)
theorem Own.does {w0 w w' : World} {L : List Thing} {i : Nat} {v v' : Value} {l l' : List Pr} (h : Own w0 w L) (hi : L[i]? = some (prT v l)) (hb : Below w.heap.size w w') (hd : (v' = v ∧ l' = l) ∨ PeersAt w' w.heap.size v' l') : Own w0 w' (L.set i (prT v' l')) := by
  rcases hd with ⟨rfl, rfl⟩ | hd
  · rw [set_same hi]; exact h.call hb
  · obtain ⟨S, _, hk⟩ := h.upd hi
    exact hk w' (prT v' l') (fun k => v'.ownBlock = some k) (Upd.of_below hb) ⟨ownsRow_zero hd, fun _ => Iff.rfl⟩ (fun b hb => .inr (hd.lt b hb).1)
theorem devP0 (D : Dv) (id ref : Int) : devP D 0 id ref = (⟨D.id, D.secret, D.policy, (addD D id ref).1, D.psks⟩, (addD D id ref).2) := by simp [devP]
theorem devP1 (D : Dv) (id ref : Int) : devP D 1 id ref = (⟨D.id, D.secret, D.policy, (dropD D id).1, (dropD D id).2.1⟩, (dropD D id).2.2) := by simp [devP]
theorem devP2 (D : Dv) (k id ref : Int) (h0 : ¬ k = 0) (h1 : ¬ k = 1) : devP D k id ref = (⟨D.id, D.secret, D.policy, D.peers, (pskD D id ref).1⟩, (pskD D id ref).2) := by simp [devP, h0, h1]
def runL (d r1 r2 : Nat) (D : Dv) (v : Value) (l : List Pr) : List Thing := [prT v l, blk d (devObj D r1 r2), storeT r2 (stI D.psks), storeT r1 (stI D.peers)]
def RunPost (w : World) (policy : Int) (e : Ending) (w' : World) : Prop :=
  ∃ d r1 r2 v D l, e = .returned (.tuple #[.pointer (some ⟨d, 0, none⟩), v, .bool true]) ∧ RunInv D l ∧ D.policy = policy ∧ Own w w' (runL d r1 r2 D v l)
set_option maxHeartbeats 3200000 in
set_option maxRecDepth 100000 in
theorem run_calls (w : World) (policy : Int) (hp0 : 0 ≤ policy) (hp2 : policy ≤ 2) (A : Option Addr) (c : Nat) (os : List (Int × Int × Int)) (hx : Holds w A (os.flatMap three)) (hm : os.length ≤ 30) :
    Calls Try.prog 10 #[.int .i64 1, .int .i64 1, .int .i64 policy, .slice A os.length c] w (RunPost w policy) := by
  have Hx := Lib.hid hx
  have hd : decide (30 < os.length) = false := decide_eq_false (by omega)
  have hd2 : decide ((30 : Int) < (os.length : Int)) = false := decide_eq_false (by omega)
  clear hx
  go_enter Try.func10, Try.ntmps10
  go_wp2_with fail
  refine (dNew_own (Own.start w) 1 1 policy (by simp [mayD, namedP, hp0, hp2])).mono ?_
  rintro e w1 ⟨d, r1, r2, rfl, o1⟩
  have o2 : Own w w1 (runL d r1 r2 ⟨1, 1, policy, [], []⟩ (.slice none 0 0) []) := o1.newRow (Below.refl _ _) (World.ownsRow_nil _ _ _ _)
  have O2 := Lib.hid o2
  clear o1 o2
  go_wp2_with fail
  go_loopw [13, 39] (fun v' i wr => ∃ (k : Nat) (D : Dv) (l : List Pr) (v : Value), k ≤ os.length ∧ i = .int .i64 k ∧ v' = v ∧ RunInv D l ∧ D.policy = policy ∧ Own w wr (runL d r1 r2 D v l))
    (fun _ i _ => (os.length - intOf i).toNat)
  case atStart => exact ⟨0, _, [], _, by omega, rfl, rfl, ⟨rfl, by simp, by simp, (fun i hi => by cases hi), Nat.zero_le _⟩, rfl, O2.out⟩
  case round =>
    obtain ⟨k, D, l, v, hk, rfl, hv, hinv, hpol, ol⟩ := hrel
    have hv := hv.symm
    subst hv
    have OL := Lib.hid ol
    have HI := Lib.hid hinv
    have HP := Lib.hid hpol
    have hlen := hinv.len
    clear ol hinv hpol
    by_cases hlt : k < os.length
    · obtain ⟨o, ho⟩ : ∃ o, os[k]? = some o := ⟨_, List.getElem?_eq_getElem hlt⟩
      obtain ⟨ki, id, ref⟩ := o
      obtain ⟨ab, af, rfl, c0, c1, c2⟩ := three_at (Hx.out.below OL.out.below) ho
      simp only at c0 c1 c2
      have ik : (k : Int) < os.length := by omega
      have hs := run_step HI.out ki id ref
      rw [HP.out] at hs
      have HS := Lib.hid hs
      clear hs
      go_wp2_with fail
      have o3 : Own w _ (blk wr.heap.size (.cells #[.int .i64 ki, .int .i64 id, .int .i64 ref] 51) :: runL d r1 r2 D v l) := OL.out.alloc _
      refine (does_calls (l := l) (o3.row (i := 1) rfl) (by omega) ki id ref).mono ?_
      rintro e w2 ⟨v', rfl, hb2, hd2⟩
      have o4 : Own w w2 (blk wr.heap.size (.cells #[.int .i64 ki, .int .i64 id, .int .i64 ref] 51) :: runL d r1 r2 D v' (doesP l ki id ref).1) := o3.does (i := 1) rfl hb2 hd2
      have hop : OpBox w2 wr.heap.size ki id ref := o4.blk (i := 0) rfl
      obtain ⟨p0, p1, p2⟩ := hop.cells
      have lp := lt_of_heap hop
      clear c0 c1 c2 o3 hb2 hd2 hop
      have hs := HS.out
      by_cases hk0 : ki = 0
      · subst hk0
        rw [devP0] at hs
        simp only at hs
        have HS2 := Lib.hid hs
        have he := hs.1
        generalize (doesP l 0 id ref).2 = er at *
        clear hs HS
        go_wp2_with fail
        refine (dAdd_own (D := D) o4 2 4 rfl rfl id ref).mono ?_
        rintro e w3 ⟨rfl, o5⟩
        rw [he]
        have O5 := Lib.hid o5
        clear p0 p1 p2 lp o4 o5 he
        go_wp2_with fail
        refine ⟨⟨k + 1, _, _, _, by omega, by simp, rfl, HS2.out.2.1, HS2.out.2.2, O5.out.tail⟩, ?_⟩
        simp only [intOf]; omega
      · have hd0 : (ki == 0) = false := by simpa using hk0
        by_cases hk1 : ki = 1
        · subst hk1
          rw [devP1] at hs
          simp only at hs
          have HS2 := Lib.hid hs
          have he := hs.1
          generalize (doesP l 1 id ref).2 = er at *
          clear hs HS
          go_wp2_with fail
          refine (dDrop_own (D := D) o4 2 4 3 rfl rfl rfl (by decide) (by decide) id).mono ?_
          rintro e w3 ⟨rfl, o5⟩
          rw [he]
          have O5 := Lib.hid o5
          clear p0 p1 p2 lp o4 o5 he
          go_wp2_with fail
          refine ⟨⟨k + 1, _, _, _, by omega, by simp, rfl, HS2.out.2.1, HS2.out.2.2, O5.out.tail⟩, ?_⟩
          simp only [intOf]; omega
        · have hd1 : (ki == 1) = false := by simpa using hk1
          rw [devP2 _ _ _ _ hk0 hk1] at hs
          simp only at hs
          have HS2 := Lib.hid hs
          have he := hs.1
          generalize (doesP l ki id ref).2 = er at *
          clear hs HS hk0 hk1
          go_wp2_with fail
          refine (dPsk_own (D := D) o4 2 4 3 rfl rfl rfl id ref).mono ?_
          rintro e w3 ⟨rfl, o5⟩
          rw [he]
          have O5 := Lib.hid o5
          clear p0 p1 p2 lp o4 o5 he
          go_wp2_with fail
          refine ⟨⟨k + 1, _, _, _, by omega, by simp, rfl, HS2.out.2.1, HS2.out.2.2, O5.out.tail⟩, ?_⟩
          simp only [intOf]; omega
    · obtain rfl : k = os.length := by omega
      go_wp2_with fail
      go_ret3
      exact ⟨d, r1, r2, _, D, l, rfl, HI.out, HP.out, OL.out⟩
end Go.Proofs.Ytlpcjngclgncmaa
