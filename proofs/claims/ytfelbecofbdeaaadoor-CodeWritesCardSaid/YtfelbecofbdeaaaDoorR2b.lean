/- The document's Rows of layer 2. -/
import Derived.Test.YtfelbecofbdeaaaDoorR2
import Derived.Test.YtfelbecofbdeaaaDoorRef5
import Derived.Deep.CutBlock
import Derived.Deep.DeepCutAuto
import Derived.Laws.EntriesVeiled
namespace Go.Proofs.YtfelbecofbdeaaaDoor
open Go.RowKit

def rndObj (n : Nd) : Obj := .cells #[.int .i64 n.kind, .int .u64 n.n, .int .i64 n.a, .int .i64 n.b, .int .i64 n.c] 59 (0, 0)
def R2L (v : Value) (acc : List Int) (M : List Thing) : List Thing := rowT 3 1 v acc.length (intsV acc) :: M
def R2RowsPost (w0 : World) (acc : List Int) (M : List Thing) (e : Ending) (w' : World) : Prop :=
  ∃ v', e = .returned v' ∧ Own w0 w' (R2L v' acc M)
theorem kid_part {n : Nd} {k : Nat} (h : k < many n.kind) : (kids n)[k]? = some (n.part k) := by
  have h3 := many_le n.kind
  unfold kids
  rw [List.getElem?_take, if_pos h]
  match k, h with
  | 0, _ => rfl
  | 1, _ => rfl
  | 2, _ => rfl
  | k + 3, h => omega
theorem Own.sink1 {w0 w : World} {a b : Thing} {M : List Thing} (h : Own w0 w (a :: b :: M)) : Own w0 w (b :: a :: M) :=
  h.sink 1 (fun i hi => match i, hi with | 0, _ => rfl) rfl (fun i hi => match i, hi with | _ + 2, _ => rfl)
theorem Own.drop2 {w0 w : World} {a c d : Thing} {M : List Thing} (h : Own w0 w (a :: c :: d :: M)) : Own w0 w (a :: M) :=
  (h.drop (L' := a :: d :: M) 1 (fun i hi => match i, hi with | 0, _ => rfl) (fun i hi => match i, hi with | _ + 1, _ => rfl)).drop 1 (fun i hi => match i, hi with | 0, _ => rfl) (fun i hi => match i, hi with | _ + 1, _ => rfl)
set_option maxHeartbeats 6400000 in
set_option maxRecDepth 100000 in
theorem r2Rows_calls {w0 : World} {A : Ar} {g cap : Nat} (hra : RefAt w0 g cap A.l) (hwf : Wf A.l) (hlen : A.l.length ≤ 65536) : ∀ (n : Nat) (x : Int) (w : World) (v : Value) (acc : List Int) (M : List Thing), x.toNat < n → has A.l x = true →
    Own w0 w (R2L v acc M) → Refs A.l acc → Calls Tryd.prog 15 #[refV A g cap, v, .int .i64 x] w (R2RowsPost w0 (rowsA A.l acc x) M) := by
  intro n
  induction n with
  | zero => intro x w v acc M h; omega
  | succ n ih =>
    intro x w v acc M hxn hx ho href
    have hx0 := has_iff.1 hx
    obtain ⟨k, rfl⟩ := Int.eq_ofNat_of_zero_le hx0.1
    obtain ⟨Av, cv, rfl⟩ := row_form' (ho.row (i := 0) rfl)
    have Hwf := Lib.hid hwf
    have HRA := Lib.hid hra
    have Href := Lib.hid href
    have Heq := Lib.hid (rowsA_eq hwf acc (k : Int))
    have Ho := Lib.hid ho
    have IH := Lib.hid ih
    have Hal := Lib.hid href.length
    clear href ho ih
    unfold refV
    go_enter Tryd.func15, Tryd.ntmps15
    go_wp2_with fail
    have o1 := Ho.out.alloc (refObj A g cap)
    have hA1 : Holds (w.alloc (refObj A g cap)) Av (intsV acc) := by
      obtain ⟨A', c', e1, e2, -⟩ := holds_of_owns (o1.row (i := 1) rfl)
      cases e1; exact e2
    have O1 := Lib.hid o1
    refine (r2at_calls Av cv acc (k : Int) _ (by have := Hal.out; omega) hA1).mono ?_
    rintro e w1 ⟨rfl, rfl⟩
    clear hA1 o1
    generalize hBB : w.heap.size = BB at *
    generalize w.alloc (refObj A g cap) = W at *
    obtain ⟨b0, b1⟩ := RBox.cells (O1.out.blk (i := 0) rfl)
    have lb2 := lt_of_heap (O1.out.blk (i := 0) rfl)
    by_cases hxa : (k : Int) ∈ acc
    · have hat : atI acc (k : Int) = (acc.idxOf (k : Int) : Nat) := by unfold atI; rw [if_pos hxa]
      have Hr := Lib.hid (show rowsA A.l acc k = acc by rw [Heq.out, if_pos (.inr hxa)])
      rw [hat]
      have hd : decide ((0 : Int) ≤ ((acc.idxOf (k : Int) : Nat) : Int)) = true := decide_eq_true (by omega)
      clear hat hxa
      go_wp2_with fail
      go_ret
      exact ⟨_, rfl, by rw [Hr.out]; exact O1.out.tail⟩
    · have hat : atI acc (k : Int) = -1 := by unfold atI; rw [if_neg hxa]
      have Hr := Lib.hid (show rowsA A.l acc k = foldR A.l acc (kids (nd A.l k)) ++ [(k : Int)] by rw [Heq.out, if_neg (by simp [hx, hxa])]; rfl)
      rw [hat]
      clear hat hxa
      obtain ⟨g0, g1, g2, g3, g4⟩ := (HRA.out.below O1.out.below).node (getElem?_of_has hx)
      rw [Int.toNat_natCast] at g0 g1 g2 g3 g4
      have ix : (k : Int) < A.l.length := by omega
      have Hkid := Lib.hid (fun p hp => Hwf.out.kid hx (p := p) hp)
      have hfit := Hwf.out.fits _ (nd_mem hx)
      generalize nd A.l k = nx at *
      have hm := many_le nx.kind
      have hmi : manyI nx.kind = many nx.kind := by unfold manyI; rw [if_neg (by omega)]
      have Hmi := Lib.hid hmi
      clear hfit hmi
      go_wp2_with fail
      have O2 : Hid (Own w0 (W.alloc (rndObj nx)) (R2L (.slice Av acc.length cv) acc (blk W.heap.size (rndObj nx) :: blk BB (refObj A g cap) :: M))) := Lib.hid ((O1.out.sink1.alloc (rndObj nx)).sink1)
      clear O1 g0 g1 g2 g3 g4 ix Ho hx hx0 b0 b1 lb2 hBB
      have Hxn := Lib.hid hxn
      generalize W.heap.size = BN at *
      generalize hkx : (k : Int) = x at *
      clear hkx hxn
      go_loopw [1, 8] (fun l i wr => ∃ (j : Nat) (v1 : Value), j ≤ many nx.kind ∧ v1 = l ∧ i = .int .i64 j ∧ Own w0 wr (R2L v1 (foldR A.l acc ((kids nx).take j)) (blk BN (rndObj nx) :: blk BB (refObj A g cap) :: M))) (fun _ i _ => many nx.kind - (intOf i).toNat)
      case atStart => exact ⟨0, _, by omega, rfl, rfl, O2.out⟩
      case round =>
        clear O2
        obtain ⟨j, v1, hj, rfl, rfl, oj⟩ := hrel
        have Oj := Lib.hid oj
        have Hj := Lib.hid hj
        obtain ⟨c0, c1, c2, c3, c4⟩ := RNdAt.cells (n := nx) (oj.blk (i := 1) rfl)
        obtain ⟨b0, b1⟩ := RBox.cells (oj.blk (i := 2) rfl)
        have lb := lt_of_heap (oj.blk (i := 1) rfl)
        have lb2 := lt_of_heap (oj.blk (i := 2) rfl)
        clear oj
        by_cases hjt : j < many nx.kind
        · have hp := kid_part hjt
          have Hp := Lib.hid hp
          have hpk := Hkid.out _ (List.mem_of_getElem? hp)
          have Hpk := Lib.hid hpk
          have hij : (j : Int) < (many nx.kind : Int) := by omega
          have Hjt := Lib.hid hjt
          have KS := Lib.hid (show ∀ w', Below wr.heap.size wr w' → (w'.cell? ⟨BN, 0, none⟩ = some (.int .i64 nx.kind) ∧ w'.cell? ⟨BN, 1, none⟩ = some (.int .u64 nx.n) ∧ w'.cell? ⟨BN, 2, none⟩ = some (.int .i64 nx.a) ∧ w'.cell? ⟨BN, 3, none⟩ = some (.int .i64 nx.b) ∧ w'.cell? ⟨BN, 4, none⟩ = some (.int .i64 nx.c) ∧ w'.cell? ⟨BB, 0, none⟩ = some (.int .i64 A.limit) ∧ w'.cell? ⟨BB, 1, none⟩ = some (.slice (some ⟨g, 0, none⟩) A.l.length cap)) from fun w' h => by
            obtain ⟨t0, t1, t2, t3, t4⟩ := RNdAt.cells (n := nx) ((Oj.out.call h).blk (i := 1) rfl)
            obtain ⟨t5, t6⟩ := RBox.cells ((Oj.out.call h).blk (i := 2) rfl)
            exact ⟨t0, t1, t2, t3, t4, t5, t6⟩)
          have hbb : Below wr.heap.size wr wr := Below.refl _ _
          clear hp hpk hjt hj
          go_wp2_with fail
          refine (rMany_calls _ _).mono ?_
          rintro e wp ⟨rfl, rfl⟩
          rw [Hmi.out]
          generalize hmk : many nx.kind = m at *
          go_wp2_with fail
          go_region_held3 (fun w' => w'.cell? ⟨BN, 0, none⟩ = some (.int .i64 nx.kind) ∧ w'.cell? ⟨BN, 1, none⟩ = some (.int .u64 nx.n) ∧ w'.cell? ⟨BN, 2, none⟩ = some (.int .i64 nx.a) ∧ w'.cell? ⟨BN, 3, none⟩ = some (.int .i64 nx.b) ∧ w'.cell? ⟨BN, 4, none⟩ = some (.int .i64 nx.c) ∧ w'.cell? ⟨BB, 0, none⟩ = some (.int .i64 A.limit) ∧ w'.cell? ⟨BB, 1, none⟩ = some (.slice (some ⟨g, 0, none⟩) A.l.length cap))
            (first | exact Z.out | exact KS.out _ (by repeat (first | with_reducible assumption | with_reducible refine Below.drew ?_ | with_reducible refine belowAlloc ?_ _)))
            (first
              | (go_at_call 34; refine (r2part_calls nx j _).mono ?_; rintro e wp ⟨rfl, hbp⟩
                 have hxp : Below wr.heap.size wr wp := below_call (by repeat (first | with_reducible assumption | with_reducible refine Below.drew ?_ | with_reducible refine belowAlloc ?_ _)) hbp)
              | (go_at_call 15; refine (IH.out (nx.part j) _ v1 _ _ (by have := Hxn.out; have := Hpk.out; omega) Hpk.out.2.2 (Oj.out.call (by repeat (first | with_reducible assumption | with_reducible refine Below.drew ?_ | with_reducible refine belowAlloc ?_ _))) (foldR_refs Hwf.out _ _ Href.out)).mono ?_; rintro e w6 ⟨v6, rfl, o6⟩
                 have O6 := Lib.hid o6
                 have Z := Lib.hid (show w6.cell? ⟨BN, 0, none⟩ = some (.int .i64 nx.kind) ∧ w6.cell? ⟨BN, 1, none⟩ = some (.int .u64 nx.n) ∧ w6.cell? ⟨BN, 2, none⟩ = some (.int .i64 nx.a) ∧ w6.cell? ⟨BN, 3, none⟩ = some (.int .i64 nx.b) ∧ w6.cell? ⟨BN, 4, none⟩ = some (.int .i64 nx.c) ∧ w6.cell? ⟨BB, 0, none⟩ = some (.int .i64 A.limit) ∧ w6.cell? ⟨BB, 1, none⟩ = some (.slice (some ⟨g, 0, none⟩) A.l.length cap) by
                   obtain ⟨t0, t1, t2, t3, t4⟩ := RNdAt.cells (n := nx) (o6.blk (i := 1) rfl)
                   obtain ⟨t5, t6⟩ := RBox.cells (o6.blk (i := 2) rfl)
                   exact ⟨t0, t1, t2, t3, t4, t5, t6⟩)
                 clear o6))
          all_goals go_wp2_with fail
          all_goals go_roundw
          all_goals first
            | exact ⟨j + 1, v6, by have := Hjt.out; omega, rfl, by go_num, by rw [foldR_snoc _ _ _ Hp.out]; exact O6.out⟩
            | (have := Hjt.out; simp only [intOf]; omega)
        · obtain rfl : j = many nx.kind := by have := Hj.out; omega
          have hall : (kids nx).take (many nx.kind) = kids nx := List.take_of_length_le (by rw [kids_length]; exact Nat.le_refl _)
          have href := foldR_refs Hwf.out (kids nx) acc Href.out
          have hl := href.length
          have O5 : Hid (Own w0 wr (R2L v1 (foldR A.l acc (kids nx)) (blk BN (rndObj nx) :: blk BB (refObj A g cap) :: M))) := Lib.hid (by rw [← hall]; exact Oj.out)
          have o6 := O5.out.alloc (.cells #[.int .i64 x] 3)
          clear Oj hall href hjt hj
          generalize hacc : foldR A.l acc (kids nx) = acc5 at *
          have Hacc := Lib.hid hacc
          have hl5 : acc5.length ≤ 65536 := by omega
          clear hacc
          go_wp2_with fail
          refine (rMany_calls _ _).mono ?_
          rintro e wp ⟨rfl, rfl⟩
          rw [Hmi.out]
          go_wp2_with (at_builtin; go_loud (refine wpList_ocat o6 rfl (.tmp 32) (.tmp 34) 30 rfl 3 (.int .i64 0) 1 8 Tryd.underlying30 einfo_int' rfl (by decide) v1 acc5.length (intsV acc5) rfl 1 rfl (some ⟨wr.heap.size, 0, none⟩) 1 1 [.int .i64 x] rfl (News.block (cs := [.int .i64 x]) (new_at rfl) rfl) (by simp [Value.oneCell']) (by unfold maxLen; omega) (by omega) ?_))
          intro v6 w6 o7
          have O7 := Lib.hid o7
          clear o7 o6
          go_wp2_with fail
          go_ret
          refine ⟨_, rfl, ?_⟩
          have hin : intsV acc5 ++ [Value.int .i64 x] = intsV (acc5 ++ [x]) := by simp [intsV]
          have hln : acc5.length + 1 = (acc5 ++ [x]).length := by simp
          have h := O7.out.tail
          rw [hln, hin] at h
          rw [Hr.out]
          exact h.drop2
end Go.Proofs.YtfelbecofbdeaaaDoor
