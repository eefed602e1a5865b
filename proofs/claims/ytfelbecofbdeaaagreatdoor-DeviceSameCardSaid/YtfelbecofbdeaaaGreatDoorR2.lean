/- The document's calls of layer 2 that only read: digits, part, at. -/
import Derived.Test.YtfelbecofbdeaaaGreatDoorRef1
import Derived.Test.YtfelbecofbdeaaaGreatDoorAwake02
import Derived.Test.YtfelbecofbdeaaaGreatDoorTw
import Derived.Deep.CutBlock
import Derived.Deep.DeepCutAuto
import Derived.Laws.EntriesVeiled
import Derived.Test.YtfelbecofbdeaaaGreatDoorRef4
namespace Go.Proofs.YtfelbecofbdeaaaGreatDoor
open Go.RowKit

set_option maxHeartbeats 1600000 in
set_option maxRecDepth 100000 in
theorem r2digit (u : Nat) (h : u < 10) (w : World) : Calls Tryz.prog 51 #[.int .u64 u] w fun e w' => e = .returned (.string (strO (digs u))) ∧ w = w' := by
  have : u = 0 ∨ u = 1 ∨ u = 2 ∨ u = 3 ∨ u = 4 ∨ u = 5 ∨ u = 6 ∨ u = 7 ∨ u = 8 ∨ u = 9 := by omega
  rcases this with rfl | rfl | rfl | rfl | rfl | rfl | rfl | rfl | rfl | rfl
  all_goals
    go_enter Tryz.func51, Tryz.ntmps51
    go_wp2
    go_ret
    refine ⟨?_, rfl⟩
    unfold digs
    rw [Lib.decDigits_one (by decide)]
    exact congrArg (fun s => Ending.returned (Value.string s)) (by decide +kernel)
set_option maxHeartbeats 1600000 in
set_option maxRecDepth 100000 in
theorem r2digits_calls : ∀ (n u : Nat) (w : World), u < n → u < 18446744073709551616 → Calls Tryz.prog 51 #[.int .u64 u] w fun e w' => e = .returned (.string (strO (digs u))) ∧ w = w' := by
  intro n
  induction n with
  | zero => intro u w h; omega
  | succ n ih =>
    intro u w h h64
    by_cases h10 : u < 10
    · exact r2digit u h10 w
    · have hd : decide (u < 10) = false := decide_eq_false h10
      have hd2 : decide ((u : Int) < 10) = false := decide_eq_false (by omega)
      have hs : digs u = digs (u / 10) ++ digs (u % 10) := by
        unfold digs
        rw [Lib.decDigits, dif_neg h10, Lib.decDigits_one (Nat.mod_lt _ (by decide))]
      have Hs := Lib.hid hs
      have hl := digs_len (u / 10) (by omega)
      have hl2 := digs_len (u % 10) (by omega)
      have IH := Lib.hid ih
      have e1 : Int.tdiv (u : Int) 10 = ((u / 10 : Nat) : Int) := by rw [Int.tdiv_eq_ediv_of_nonneg (by omega)]; rfl
      have e2 : Int.tmod (u : Int) 10 = ((u % 10 : Nat) : Int) := by rw [Int.tmod_eq_emod_of_nonneg (by omega)]; rfl
      have hq := Lib.hid (show u / 10 < n ∧ u / 10 < 18446744073709551616 by omega)
      have hr : u % 10 < 10 := by omega
      have Hr := Lib.hid hr
      have ha : ∀ w, (Op.stringOp .add (strO (digs (u / 10))) (strO (digs (u % 10)))).run Tryz.prog w = .ok (.string (strO (digs u))) w := fun w => by rw [Hs.out]; exact addS _ _ (by omega) (by omega) w
      clear hs ih h
      go_enter Tryz.func51, Tryz.ntmps51
      go_wp2_with fail
      refine (IH.out (u / 10) w hq.out.1 hq.out.2).mono ?_
      rintro e w1 ⟨rfl, rfl⟩
      go_wp2_with fail
      refine (r2digit (u % 10) Hr.out w).mono ?_
      rintro e w1 ⟨rfl, rfl⟩
      go_wp2_with fail
      go_ret
      exact ⟨rfl, rfl⟩
set_option maxHeartbeats 400000 in
theorem r2part_calls (x : Nd) (k : Nat) (w : World) : Calls Tryz.prog 54 #[x.val, .int .i64 k] w fun e w' => e = .returned (.int .i64 (x.part k)) ∧ Below w.heap.size w w' := by
  unfold Nd.val
  have hb := (Below.refl w.heap.size w).alloc (Nat.le_refl _) (.cells #[.int .i64 x.kind, .int .u64 x.n, .int .i64 x.a, .int .i64 x.b, .int .i64 x.c] 65)
  match k with
  | 0 =>
    go_enter Tryz.func54, Tryz.ntmps54
    go_wp2
    go_ret
    exact ⟨rfl, hb⟩
  | 1 =>
    go_enter Tryz.func54, Tryz.ntmps54
    go_wp2
    go_ret
    exact ⟨rfl, hb⟩
  | k + 2 =>
    have h0 : (((k + 2 : Nat) : Int) == 0) = false := by simp; omega
    have h1 : (((k + 2 : Nat) : Int) == 1) = false := by simp; omega
    have Hp := Lib.hid (show x.part (k + 2) = x.c from rfl)
    generalize ((k + 2 : Nat) : Int) = q at *
    go_enter Tryz.func54, Tryz.ntmps54
    go_wp2
    go_ret
    exact ⟨by rw [Hp.out]; rfl, hb⟩
/-- Where a ref is in a row. -/
def atI (l : List Int) (x : Int) : Int := if x ∈ l then (l.idxOf x : Nat) else -1
set_option maxHeartbeats 800000 in
set_option maxRecDepth 100000 in
theorem r2at_calls (A : Option Addr) (c : Nat) (l : List Int) (x : Int) (w : World) (hl : l.length ≤ 65536) (hA : Holds w A (intsV l)) : Calls Tryz.prog 53 #[.slice A l.length c, .int .i64 x] w fun e w' => e = .returned (.int .i64 (atI l x)) ∧ w = w' := by
  have HA := Lib.hid hA
  clear hA
  go_enter Tryz.func53, Tryz.ntmps53
  go_wp2_with fail
  go_loopw [5] (fun i wr => ∃ k : Nat, k ≤ l.length ∧ i = .int .i64 k ∧ Hid (x ∉ l.take k) ∧ w = wr) (fun i _ => l.length - (intOf i).toNat)
  case atStart => exact ⟨0, by omega, rfl, Lib.hid (by simp), rfl⟩
  case round =>
    obtain ⟨k, hk, rfl, hn, rfl⟩ := hrel
    by_cases hlt : k < l.length
    · obtain ⟨y, hy⟩ : ∃ y, l[k]? = some y := ⟨_, List.getElem?_eq_getElem hlt⟩
      obtain ⟨gb, gk, rfl, hc⟩ : ∃ b o, A = some ⟨b, o, none⟩ ∧ w.cell? ⟨b, o + k, none⟩ = some (.int .i64 y) := by
        obtain ⟨b, o, e3, e4⟩ := intsV_at HA.out hlt
        rw [List.getElem?_eq_getElem hlt] at hy
        exact ⟨b, o, e3, by rw [e4]; exact congrArg (fun z => some (Value.int .i64 z)) (by cases hy; rfl)⟩
      have hik : (k : Int) < l.length := by omega
      have Hy := Lib.hid hy
      have Hlt := Lib.hid hlt
      clear hy hk hlt
      by_cases hxy : y = x
      · subst hxy
        have hidx : Hid (atI l y = k) := Lib.hid (by
          have hm := List.mem_of_getElem? Hy.out
          unfold atI
          rw [if_pos hm]
          have h1 : l = l.take k ++ y :: l.drop (k + 1) := by
            conv => lhs; rw [← List.take_append_drop k l]
            congr 1
            rw [List.drop_eq_getElem_cons Hlt.out]
            have := Hy.out; rw [List.getElem?_eq_getElem Hlt.out] at this; cases this; rfl
          rw [h1, List.idxOf_append, if_neg hn.out]
          have : (l.take k).length = k := by have := Hlt.out; simp; omega
          simp [this])
        go_wp2_with fail
        go_ret
        exact ⟨by rw [hidx.out]; rfl, rfl⟩
      · have hne : (y == x) = false := by simpa using hxy
        have hn2 : Hid (x ∉ l.take (k + 1)) := Lib.hid (by
          rw [List.take_add_one, Hy.out]
          intro h
          rcases List.mem_append.1 h with h | h
          · exact hn.out h
          · simp at h; exact hxy h.symm)
        have hk1 := Hlt.out
        clear hn hxy
        go_wp2_with fail
        refine ⟨⟨k + 1, by omega, by go_num, hn2, trivial⟩, ?_⟩
        simp [intOf]; omega
    · obtain rfl : k = l.length := by omega
      have hidx : Hid (atI l x = -1) := Lib.hid (by
        have h := hn.out
        rw [List.take_length] at h
        unfold atI; rw [if_neg h])
      clear hn hk hlt
      go_wp2_with fail
      go_ret
      exact ⟨by rw [hidx.out]; rfl, rfl⟩
/-! The document's Rows of layer 2. -/
def rndObj (n : Nd) : Obj := .cells #[.int .i64 n.kind, .int .u64 n.n, .int .i64 n.a, .int .i64 n.b, .int .i64 n.c] 65 (0, 0)
def R2L (v : Value) (acc : List Int) (M : List Thing) : List Thing := rowT 3 1 v acc.length (intsV acc) :: M
def R2RowsPost (w0 : World) (acc : List Int) (M : List Thing) (e : Ending) (w' : World) : Prop :=
  ∃ v', e = .returned v' ∧ Own w0 w' (R2L v' acc M)
theorem kid_part {n : Nd} {k : Nat} (h : k < many n.kind) : (kids n)[k]? = some (n.part k) := by
  have h3 := many_le n.kind
  unfold kids
  rw [List.getElem?_take, if_pos h]
  match k, h with
  | 0, _ => rfl
  | 1, _ => rfl
  | 2, _ => rfl
  | k + 3, h => omega
theorem Own.sink1 {w0 w : World} {a b : Thing} {M : List Thing} (h : Own w0 w (a :: b :: M)) : Own w0 w (b :: a :: M) :=
  h.sink 1 (fun i hi => match i, hi with | 0, _ => rfl) rfl (fun i hi => match i, hi with | _ + 2, _ => rfl)
theorem Own.drop2 {w0 w : World} {a c d : Thing} {M : List Thing} (h : Own w0 w (a :: c :: d :: M)) : Own w0 w (a :: M) :=
  (h.drop (L' := a :: d :: M) 1 (fun i hi => match i, hi with | 0, _ => rfl) (fun i hi => match i, hi with | _ + 1, _ => rfl)).drop 1 (fun i hi => match i, hi with | 0, _ => rfl) (fun i hi => match i, hi with | _ + 1, _ => rfl)
set_option maxHeartbeats 6400000 in
set_option maxRecDepth 100000 in
theorem r2Rows_calls {w0 : World} {A : Ar} {g cap : Nat} (hra : RefAt w0 g cap A.l) (hwf : Wf A.l) (hlen : A.l.length ≤ 65536) : ∀ (n : Nat) (x : Int) (w : World) (v : Value) (acc : List Int) (M : List Thing), x.toNat < n → has A.l x = true →
    Own w0 w (R2L v acc M) → Refs A.l acc → Calls Tryz.prog 50 #[refV A g cap, v, .int .i64 x] w (R2RowsPost w0 (rowsA A.l acc x) M) := by
  intro n
  induction n with
  | zero => intro x w v acc M h; omega
  | succ n ih =>
    intro x w v acc M hxn hx ho href
    have hx0 := has_iff.1 hx
    obtain ⟨k, rfl⟩ := Int.eq_ofNat_of_zero_le hx0.1
    obtain ⟨Av, cv, rfl⟩ := row_form' (ho.row (i := 0) rfl)
    have Hwf := Lib.hid hwf
    have HRA := Lib.hid hra
    have Href := Lib.hid href
    have Heq := Lib.hid (rowsA_eq hwf acc (k : Int))
    have Ho := Lib.hid ho
    have IH := Lib.hid ih
    have Hal := Lib.hid href.length
    clear href ho ih
    unfold refV
    go_enter Tryz.func50, Tryz.ntmps50
    go_wp2_with fail
    have o1 := Ho.out.alloc (refObj A g cap)
    have hA1 : Holds (w.alloc (refObj A g cap)) Av (intsV acc) := by
      obtain ⟨A', c', e1, e2, -⟩ := holds_of_owns (o1.row (i := 1) rfl)
      cases e1; exact e2
    have O1 := Lib.hid o1
    refine (r2at_calls Av cv acc (k : Int) _ (by have := Hal.out; omega) hA1).mono ?_
    rintro e w1 ⟨rfl, rfl⟩
    clear hA1 o1
    generalize hBB : w.heap.size = BB at *
    generalize w.alloc (refObj A g cap) = W at *
    obtain ⟨b0, b1⟩ := RBox.cells (O1.out.blk (i := 0) rfl)
    have lb2 := lt_of_heap (O1.out.blk (i := 0) rfl)
    by_cases hxa : (k : Int) ∈ acc
    · have hat : atI acc (k : Int) = (acc.idxOf (k : Int) : Nat) := by unfold atI; rw [if_pos hxa]
      have Hr := Lib.hid (show rowsA A.l acc k = acc by rw [Heq.out, if_pos (.inr hxa)])
      rw [hat]
      have hd : decide ((0 : Int) ≤ ((acc.idxOf (k : Int) : Nat) : Int)) = true := decide_eq_true (by omega)
      clear hat hxa
      go_wp2_with fail
      go_ret
      exact ⟨_, rfl, by rw [Hr.out]; exact O1.out.tail⟩
    · have hat : atI acc (k : Int) = -1 := by unfold atI; rw [if_neg hxa]
      have Hr := Lib.hid (show rowsA A.l acc k = foldR A.l acc (kids (nd A.l k)) ++ [(k : Int)] by rw [Heq.out, if_neg (by simp [hx, hxa])]; rfl)
      rw [hat]
      clear hat hxa
      obtain ⟨g0, g1, g2, g3, g4⟩ := (HRA.out.below O1.out.below).node (getElem?_of_has hx)
      rw [Int.toNat_natCast] at g0 g1 g2 g3 g4
      have ix : (k : Int) < A.l.length := by omega
      have Hkid := Lib.hid (fun p hp => Hwf.out.kid hx (p := p) hp)
      have hfit := Hwf.out.fits _ (nd_mem hx)
      generalize nd A.l k = nx at *
      have hm := many_le nx.kind
      have hmi : manyI nx.kind = many nx.kind := by unfold manyI; rw [if_neg (by omega)]
      have Hmi := Lib.hid hmi
      clear hfit hmi
      go_wp2_with fail
      have O2 : Hid (Own w0 (W.alloc (rndObj nx)) (R2L (.slice Av acc.length cv) acc (blk W.heap.size (rndObj nx) :: blk BB (refObj A g cap) :: M))) := Lib.hid ((O1.out.sink1.alloc (rndObj nx)).sink1)
      clear O1 g0 g1 g2 g3 g4 ix Ho hx hx0 b0 b1 lb2 hBB
      have Hxn := Lib.hid hxn
      generalize W.heap.size = BN at *
      generalize hkx : (k : Int) = x at *
      clear hkx hxn
      go_loopw [1, 8] (fun l i wr => ∃ (j : Nat) (v1 : Value), j ≤ many nx.kind ∧ v1 = l ∧ i = .int .i64 j ∧ Own w0 wr (R2L v1 (foldR A.l acc ((kids nx).take j)) (blk BN (rndObj nx) :: blk BB (refObj A g cap) :: M))) (fun _ i _ => many nx.kind - (intOf i).toNat)
      case atStart => exact ⟨0, _, by omega, rfl, rfl, O2.out⟩
      case round =>
        clear O2
        obtain ⟨j, v1, hj, rfl, rfl, oj⟩ := hrel
        have Oj := Lib.hid oj
        have Hj := Lib.hid hj
        obtain ⟨c0, c1, c2, c3, c4⟩ := RNdAt.cells (n := nx) (oj.blk (i := 1) rfl)
        obtain ⟨b0, b1⟩ := RBox.cells (oj.blk (i := 2) rfl)
        have lb := lt_of_heap (oj.blk (i := 1) rfl)
        have lb2 := lt_of_heap (oj.blk (i := 2) rfl)
        clear oj
        by_cases hjt : j < many nx.kind
        · have hp := kid_part hjt
          have Hp := Lib.hid hp
          have hpk := Hkid.out _ (List.mem_of_getElem? hp)
          have Hpk := Lib.hid hpk
          have hij : (j : Int) < (many nx.kind : Int) := by omega
          have Hjt := Lib.hid hjt
          have KS := Lib.hid (show ∀ w', Below wr.heap.size wr w' → (w'.cell? ⟨BN, 0, none⟩ = some (.int .i64 nx.kind) ∧ w'.cell? ⟨BN, 1, none⟩ = some (.int .u64 nx.n) ∧ w'.cell? ⟨BN, 2, none⟩ = some (.int .i64 nx.a) ∧ w'.cell? ⟨BN, 3, none⟩ = some (.int .i64 nx.b) ∧ w'.cell? ⟨BN, 4, none⟩ = some (.int .i64 nx.c) ∧ w'.cell? ⟨BB, 0, none⟩ = some (.int .i64 A.limit) ∧ w'.cell? ⟨BB, 1, none⟩ = some (.slice (some ⟨g, 0, none⟩) A.l.length cap)) from fun w' h => by
            obtain ⟨t0, t1, t2, t3, t4⟩ := RNdAt.cells (n := nx) ((Oj.out.call h).blk (i := 1) rfl)
            obtain ⟨t5, t6⟩ := RBox.cells ((Oj.out.call h).blk (i := 2) rfl)
            exact ⟨t0, t1, t2, t3, t4, t5, t6⟩)
          have hbb : Below wr.heap.size wr wr := Below.refl _ _
          clear hp hpk hjt hj
          go_wp2_with fail
          refine (rMany_calls _ _).mono ?_
          rintro e wp ⟨rfl, rfl⟩
          rw [Hmi.out]
          generalize hmk : many nx.kind = m at *
          go_wp2_with fail
          go_region_held3 (fun w' => w'.cell? ⟨BN, 0, none⟩ = some (.int .i64 nx.kind) ∧ w'.cell? ⟨BN, 1, none⟩ = some (.int .u64 nx.n) ∧ w'.cell? ⟨BN, 2, none⟩ = some (.int .i64 nx.a) ∧ w'.cell? ⟨BN, 3, none⟩ = some (.int .i64 nx.b) ∧ w'.cell? ⟨BN, 4, none⟩ = some (.int .i64 nx.c) ∧ w'.cell? ⟨BB, 0, none⟩ = some (.int .i64 A.limit) ∧ w'.cell? ⟨BB, 1, none⟩ = some (.slice (some ⟨g, 0, none⟩) A.l.length cap))
            (first | exact Z.out | exact KS.out _ (by repeat (first | with_reducible assumption | with_reducible refine Below.drew ?_ | with_reducible refine belowAlloc ?_ _)))
            (first
              | (go_at_call 54; refine (r2part_calls nx j _).mono ?_; rintro e wp ⟨rfl, hbp⟩
                 have hxp : Below wr.heap.size wr wp := below_call (by repeat (first | with_reducible assumption | with_reducible refine Below.drew ?_ | with_reducible refine belowAlloc ?_ _)) hbp)
              | (go_at_call 50; refine (IH.out (nx.part j) _ v1 _ _ (by have := Hxn.out; have := Hpk.out; omega) Hpk.out.2.2 (Oj.out.call (by repeat (first | with_reducible assumption | with_reducible refine Below.drew ?_ | with_reducible refine belowAlloc ?_ _))) (foldR_refs Hwf.out _ _ Href.out)).mono ?_; rintro e w6 ⟨v6, rfl, o6⟩
                 have O6 := Lib.hid o6
                 have Z := Lib.hid (show w6.cell? ⟨BN, 0, none⟩ = some (.int .i64 nx.kind) ∧ w6.cell? ⟨BN, 1, none⟩ = some (.int .u64 nx.n) ∧ w6.cell? ⟨BN, 2, none⟩ = some (.int .i64 nx.a) ∧ w6.cell? ⟨BN, 3, none⟩ = some (.int .i64 nx.b) ∧ w6.cell? ⟨BN, 4, none⟩ = some (.int .i64 nx.c) ∧ w6.cell? ⟨BB, 0, none⟩ = some (.int .i64 A.limit) ∧ w6.cell? ⟨BB, 1, none⟩ = some (.slice (some ⟨g, 0, none⟩) A.l.length cap) by
                   obtain ⟨t0, t1, t2, t3, t4⟩ := RNdAt.cells (n := nx) (o6.blk (i := 1) rfl)
                   obtain ⟨t5, t6⟩ := RBox.cells (o6.blk (i := 2) rfl)
                   exact ⟨t0, t1, t2, t3, t4, t5, t6⟩)
                 clear o6))
          all_goals go_wp2_with fail
          all_goals go_roundw
          all_goals first
            | exact ⟨j + 1, v6, by have := Hjt.out; omega, rfl, by go_num, by rw [foldR_snoc _ _ _ Hp.out]; exact O6.out⟩
            | (have := Hjt.out; simp only [intOf]; omega)
        · obtain rfl : j = many nx.kind := by have := Hj.out; omega
          have hall : (kids nx).take (many nx.kind) = kids nx := List.take_of_length_le (by rw [kids_length]; exact Nat.le_refl _)
          have href := foldR_refs Hwf.out (kids nx) acc Href.out
          have hl := href.length
          have O5 : Hid (Own w0 wr (R2L v1 (foldR A.l acc (kids nx)) (blk BN (rndObj nx) :: blk BB (refObj A g cap) :: M))) := Lib.hid (by rw [← hall]; exact Oj.out)
          have o6 := O5.out.alloc (.cells #[.int .i64 x] 3)
          clear Oj hall href hjt hj
          generalize hacc : foldR A.l acc (kids nx) = acc5 at *
          have Hacc := Lib.hid hacc
          have hl5 : acc5.length ≤ 65536 := by omega
          clear hacc
          go_wp2_with fail
          refine (rMany_calls _ _).mono ?_
          rintro e wp ⟨rfl, rfl⟩
          rw [Hmi.out]
          go_wp2_with (at_builtin; go_loud (refine wpList_ocat o6 rfl (.tmp 32) (.tmp 34) 70 rfl 3 (.int .i64 0) 1 8 Tryz.underlying70 einfo_int' rfl (by decide) v1 acc5.length (intsV acc5) rfl 1 rfl (some ⟨wr.heap.size, 0, none⟩) 1 1 [.int .i64 x] rfl (News.block (cs := [.int .i64 x]) (new_at rfl) rfl) (by simp [Value.oneCell']) (by unfold maxLen; omega) (by omega) ?_))
          intro v6 w6 o7
          have O7 := Lib.hid o7
          clear o7 o6
          go_wp2_with fail
          go_ret
          refine ⟨_, rfl, ?_⟩
          have hin : intsV acc5 ++ [Value.int .i64 x] = intsV (acc5 ++ [x]) := by simp [intsV]
          have hln : acc5.length + 1 = (acc5 ++ [x]).length := by simp
          have h := O7.out.tail
          rw [hln, hin] at h
          rw [Hr.out]
          exact h.drop2
/-! The document's Write of layer 2. -/
set_option maxHeartbeats 1600000 in
set_option maxRecDepth 100000 in
theorem r2Write_calls {w : World} {A : Ar} {g cap : Nat} (hra : RefAt w g cap A.l) (hwf : Wf A.l) (hlen : A.l.length ≤ 1000) (x : Int) :
    Calls Tryz.prog 21 #[refV A g cap, .int .i64 x] w (WritePost (text A.l x) w) := by
  have HRA := Lib.hid hra
  have Hwf := Lib.hid hwf
  have Hrefs := Lib.hid (rows_refs hwf (Refs.nil A.l) x)
  have Hclosed := Lib.hid (rows_closed hwf x)
  have Htext := Lib.hid (show text A.l x = textR A.l (rowsA A.l [] x) (rowsA A.l [] x) from rfl)
  clear hra hwf
  unfold refV
  go_enter Tryz.func21, Tryz.ntmps21
  go_wp2_with fail
  refine (rHas_calls A g cap x _).mono ?_
  rintro e w1 ⟨rfl, b1⟩
  have O1 : Hid (Own w w1 [blk w.heap.size (refObj A g cap)]) := Lib.hid (((Own.start w).alloc (refObj A g cap)).call b1)
  clear b1
  have b0 := cell_of_heap (o := 0) (O1.out.blk (i := 0) rfl)
  have b1 := cell_of_heap (o := 1) (O1.out.blk (i := 0) rfl)
  simp only [List.getElem?_toArray, List.getElem?_cons_zero, List.getElem?_cons_succ] at b0 b1
  generalize hBB : w.heap.size = BB at *
  cases hx : has A.l x with
  | false =>
    have Ht := Lib.hid (text_none Hwf.out hx)
    go_wp2_with fail
    go_ret
    exact ⟨by rw [Ht.out]; rfl, O1.out.below⟩
  | true =>
    go_wp2_with fail
    refine (r2Rows_calls HRA.out Hwf.out (by omega) (x.toNat + 1) x w1 (.slice none 0 0) [] _ (by omega) hx (O1.out.nilRow 3 1) (Refs.nil _)).mono ?_
    rintro e w2 ⟨v2, rfl, o2⟩
    obtain ⟨Ar1, cr1, rfl⟩ := row_form' (o2.row (i := 0) rfl)
    have hl := Hrefs.out.length
    generalize hrows : rowsA A.l [] x = rows at *
    clear hrows b0 b1 O1
    have O2 := Lib.hid o2
    have hl6 : rows.length ≤ 1000 := by omega
    have H6 := Lib.hid hl6
    clear hl o2 hx
    go_wp2_with fail
    go_loopw [6, 7] (fun s i wr => ∃ k : Nat, k ≤ rows.length ∧ s = .string (strO (textR A.l rows (rows.take k))) ∧ i = .int .i64 k ∧ Own w wr (R2L (.slice Ar1 rows.length cr1) rows [blk BB (refObj A g cap)])) (fun _ i _ => rows.length - (intOf i).toNat)
    case atStart => exact ⟨0, by omega, rfl, rfl, O2.out⟩
    case round =>
      clear O2
      obtain ⟨k, hk, rfl, rfl, ok⟩ := hrel
      have Ok := Lib.hid ok
      have htl := textR_len Hwf.out (rows := rows) (by omega) (rows.take k) (fun z hz => Hrefs.out.has z (List.mem_of_mem_take hz))
      have htk6 : (rows.take k).length ≤ 1000 := by simp; omega
      have HT0 := Lib.hid (show (textR A.l rows (rows.take k)).length ≤ 200000 by omega)
      clear htl htk6
      by_cases hlt : k < rows.length
      · obtain ⟨y, hy⟩ : ∃ y, rows[k]? = some y := ⟨_, List.getElem?_eq_getElem hlt⟩
        have Hy := Lib.hid hy
        have hym := List.mem_of_getElem? hy
        have hyh := Hrefs.out.has y hym
        have hik : (k : Int) < rows.length := by omega
        obtain ⟨gb, gk, rfl, hc⟩ : ∃ b o, Ar1 = some ⟨b, o, none⟩ ∧ wr.cell? ⟨b, o + k, none⟩ = some (.int .i64 y) := by
          obtain ⟨A', c', e1, e2, -⟩ := holds_of_owns (ok.row (i := 0) rfl)
          cases e1
          obtain ⟨b, o, e3, e4⟩ := intsV_at e2 hlt
          rw [List.getElem?_eq_getElem hlt] at hy
          exact ⟨b, o, e3, by rw [e4]; exact congrArg (fun z => some (Value.int .i64 z)) (by cases hy; rfl)⟩
        have htk : rows.take (k + 1) = rows.take k ++ [y] := by rw [List.take_add_one, hy]; rfl
        have hn := (HRA.out.below ok.below).node (getElem?_of_has hyh)
        have hy0 := has_iff.1 hyh
        have hfit := Hwf.out.fits _ (nd_mem hyh)
        have Hcl := Lib.hid (Hclosed.out k y hy)
        have hrl := rowText_len Hwf.out (rows := rows) (by omega) hyh
        obtain ⟨ky, rfl⟩ := Int.eq_ofNat_of_zero_le hy0.1
        rw [Int.toNat_natCast] at hn
        have iy : (ky : Int) < A.l.length := by omega
        have Htk := Lib.hid (show textR A.l rows (rows.take (k + 1)) = textR A.l rows (rows.take k) ++ rowText rows (nd A.l ky) by rw [htk]; unfold textR; simp)
        generalize nd A.l (ky : Int) = nx at *
        obtain ⟨K, NN, na, nb, nc⟩ := nx
        dsimp only at hfit hn
        obtain ⟨kn, rfl⟩ : ∃ kn : Nat, K = kn := ⟨K.toNat, by omega⟩
        obtain ⟨un, rfl⟩ : ∃ un : Nat, NN = un := ⟨NN.toNat, by omega⟩
        obtain ⟨g0, g1, g2, g3, g4⟩ := hn
        have hk9 : kn ≤ 9 := by omega
        have hu64 : un < 18446744073709551616 := by omega
        obtain ⟨b0, b1⟩ := RBox.cells (ok.blk (i := 1) rfl)
        have lb := lt_of_heap (ok.blk (i := 1) rfl)
        have Hlt := Lib.hid hlt
        clear ok hy hym hyh hy0 hfit htk hlt hk
        generalize hT0 : textR A.l rows (rows.take k) = T0 at *
        clear hT0
        have KS := Lib.hid (show ∀ w', Below wr.heap.size wr w' → (w'.cell? ⟨BB, 0, none⟩ = some (.int .i64 A.limit) ∧ w'.cell? ⟨BB, 1, none⟩ = some (.slice (some ⟨g, 0, none⟩) A.l.length cap) ∧ w'.cell? ⟨gb, gk + k, none⟩ = some (.int .i64 ky) ∧ w'.cell? ⟨g, ky * 5, none⟩ = some (.int .i64 kn) ∧ w'.cell? ⟨g, ky * 5 + 1, none⟩ = some (.int .u64 un) ∧ w'.cell? ⟨g, ky * 5 + 2, none⟩ = some (.int .i64 na) ∧ w'.cell? ⟨g, ky * 5 + 3, none⟩ = some (.int .i64 nb) ∧ w'.cell? ⟨g, ky * 5 + 4, none⟩ = some (.int .i64 nc)) from fun w' h => by
          have cc : ∀ {a : Addr} {v : Value}, wr.cell? a = some v → w'.cell? a = some v := fun {a v} hc => (h.cell (World.block_lt_of_cell? wr _ hc)).trans hc
          exact ⟨cc b0, cc b1, cc hc, cc g0, cc g1, cc g2, cc g3, cc g4⟩)
        have hbb : Below wr.heap.size wr wr := Below.refl _ _
        go_upto_region 8 with fail
        go_cut [8] (fun p wx => ∃ b, p = .pointer (some ⟨b, 0, none⟩) ∧ Own w wx (blk b (rndObj ⟨kn, un, na, nb, nc⟩) :: R2L (.slice (some ⟨gb, gk, none⟩) rows.length cr1) rows [blk BB (refObj A g cap)]))
        case first =>
          go_region_held3 (fun w' => w'.cell? ⟨BB, 0, none⟩ = some (.int .i64 A.limit) ∧ w'.cell? ⟨BB, 1, none⟩ = some (.slice (some ⟨g, 0, none⟩) A.l.length cap) ∧ w'.cell? ⟨gb, gk + k, none⟩ = some (.int .i64 ky) ∧ w'.cell? ⟨g, ky * 5, none⟩ = some (.int .i64 kn) ∧ w'.cell? ⟨g, ky * 5 + 1, none⟩ = some (.int .u64 un) ∧ w'.cell? ⟨g, ky * 5 + 2, none⟩ = some (.int .i64 na) ∧ w'.cell? ⟨g, ky * 5 + 3, none⟩ = some (.int .i64 nb) ∧ w'.cell? ⟨g, ky * 5 + 4, none⟩ = some (.int .i64 nc))
            (first | exact KS.out _ (by repeat (first | with_reducible assumption | with_reducible refine Below.drew ?_ | with_reducible refine belowAlloc ?_ _)))
            (fail)
          all_goals go_wp2_with fail
          all_goals go_meet
          all_goals refine ⟨_, rfl, ?_⟩
          all_goals exact (Ok.out.alloc (rndObj ⟨kn, un, na, nb, nc⟩)).drew
        case rest =>
          obtain ⟨b, rfl, oc⟩ := hcut
          have Oc := Lib.hid oc
          clear g0 g1 g2 g3 g4 b0 b1 lb hc KS hbb Ok iy
          obtain ⟨c0, c1, c2, c3, c4⟩ := RNdAt.cells (n := ⟨kn, un, na, nb, nc⟩) (oc.blk (i := 0) rfl)
          dsimp only at c0 c1 c2 c3 c4
          have lb := lt_of_heap (oc.blk (i := 0) rfl)
          have KS := Lib.hid (show ∀ w', Below wc.heap.size wc w' → (w'.cell? ⟨b, 0, none⟩ = some (.int .i64 kn) ∧ w'.cell? ⟨b, 1, none⟩ = some (.int .u64 un)) from fun w' h => by
            have cc : ∀ {a : Addr} {v : Value}, wc.cell? a = some v → w'.cell? a = some v := fun {a v} hc => (h.cell (World.block_lt_of_cell? wc _ hc)).trans hc
            exact ⟨cc c0, cc c1⟩)
          have hbb : Below wc.heap.size wc wc := Below.refl _ _
          have hd1 := digs_len kn (by omega)
          have hd2 := digs_len un hu64
          have h0 := HT0.out
          have hwk : IntKind.u64.wrap (kn : Int) = kn := IntWalk.u64_in _ (by omega)
          obtain ⟨s1, hs1⟩ : ∃ s, s = strO (T0 ++ digs kn) := ⟨_, rfl⟩
          obtain ⟨s2, hs2⟩ : ∃ s, s = strO ((T0 ++ digs kn) ++ [32]) := ⟨_, rfl⟩
          obtain ⟨s3, hs3⟩ : ∃ s, s = strO (T0 ++ rowT1 ⟨kn, un, na, nb, nc⟩) := ⟨_, rfl⟩
          have ha1 : ∀ w, (Op.stringOp .add (strO T0) (strO (digs kn))).run Tryz.prog w = .ok (.string s1) w := fun w => by rw [hs1]; exact addS _ _ (by omega) (by omega) w
          have ha2 : ∀ w, (Op.stringOp .add s1 ⟨#[32]⟩).run Tryz.prog w = .ok (.string s2) w := fun w => by rw [hs1, hs2]; exact addS _ [32] (by rw [List.length_append]; omega) (by decide) w
          have ha3 : ∀ w, (Op.stringOp .add s2 (strO (digs un))).run Tryz.prog w = .ok (.string s3) w := fun w => by
            rw [hs2, hs3, addS _ _ (by simp only [List.length_append, List.length_singleton]; omega) (by omega)]; simp [rowT1]
          have HS3 := Lib.hid hs3
          clear hs1 hs2 hs3
          have HD := Lib.hid (And.intro hd1 hd2)
          clear oc hd1 hd2
          go_upto_region 9 with fail
          go_cut [6] (fun s wx => s = .string s3 ∧ Below wc.heap.size wc wx)
          case first =>
            have HU1 : Hid (kn < 18446744073709551616) := Lib.hid (by omega)
            have HU2 : Hid (un < 18446744073709551616) := Lib.hid hu64
            go_quiet (first
              | (go_at_call 51; (try rw [hwk]); with_reducible refine Calls.quiet_of_same (Calls.mono (r2digits_calls (kn + 1) kn _ (Nat.lt_succ_self _) HU1.out) (fun _ _ h => ⟨h.1, h.2.symm⟩)))
              | (go_at_call 51; with_reducible refine Calls.quiet_of_same (Calls.mono (r2digits_calls (un + 1) un _ (Nat.lt_succ_self _) HU2.out) (fun _ _ h => ⟨h.1, h.2.symm⟩))))
            go_wp2_with fail
            go_meet
            exact ⟨rfl, hbb.trans (Upd.below (S := None) ((Upd.refl _ _).drewN _) hbb.size (fun _ _ h => h))⟩
          case rest =>
            obtain ⟨rfl, hbx⟩ := hcut
            have O3 := Lib.hid (Oc.out.call hbx)
            clear c0 c1 c2 c3 c4 lb KS hbb ha1 ha2 ha3 Oc hbx
            have h3 := HS3.out
            subst h3
            have HT1 := Lib.hid (show (T0 ++ rowT1 ⟨kn, un, na, nb, nc⟩).length ≤ 200100 by have h1 := HD.out; have h2 := HT0.out; unfold rowT1; simp only [List.length_append, List.length_cons, Int.toNat_natCast]; omega)
            have Hbs := Lib.hid (show textR A.l rows (rows.take (k + 1)) = (T0 ++ rowT1 ⟨kn, un, na, nb, nc⟩) ++ ((kids ⟨kn, un, na, nb, nc⟩).flatMap (partT rows) ++ [59]) by rw [Htk.out]; unfold rowText; simp only [List.append_assoc])
            generalize T0 ++ rowT1 ⟨kn, un, na, nb, nc⟩ = T1 at *
            clear HD HT0 Htk hrl h0 hwk HS3
            have hmI : manyI (kn : Int) = many kn := by unfold manyI; rw [if_neg (by omega)]
            have HmI := Lib.hid hmI
            have hm3 := many_le kn
            clear hmI
            go_wp2_with fail
            go_loopw [6, 9] (fun s i wr => ∃ j : Nat, j ≤ many kn ∧ s = .string (strO (T1 ++ ((kids ⟨kn, un, na, nb, nc⟩).take j).flatMap (partT rows))) ∧ i = .int .i64 j ∧ Own w wr (blk b (rndObj ⟨kn, un, na, nb, nc⟩) :: R2L (.slice (some ⟨gb, gk, none⟩) rows.length cr1) rows [blk BB (refObj A g cap)])) (fun _ i _ => many kn - (intOf i).toNat)
            case atStart => exact ⟨0, by omega, by simp, rfl, O3.out⟩
            case round =>
              clear O3
              obtain ⟨j, hj, rfl, rfl, oj⟩ := hrel
              have Oj := Lib.hid oj
              have Hj := Lib.hid hj
              obtain ⟨c0, c1, c2, c3, c4⟩ := RNdAt.cells (n := ⟨kn, un, na, nb, nc⟩) (oj.blk (i := 0) rfl)
              dsimp only at c0 c1 c2 c3 c4
              have lb := lt_of_heap (oj.blk (i := 0) rfl)
              have hkl : (kids ⟨kn, un, na, nb, nc⟩).length = many kn := kids_length _
              have hfl : (((kids ⟨kn, un, na, nb, nc⟩).take j).flatMap (partT rows)).length ≤ 100 := by
                have h3 : ∀ q : Int, (partT rows q).length ≤ 21 := fun q => by
                  have := digs_len (rows.idxOf q) (by have := List.idxOf_le_length (a := q) (l := rows); omega)
                  simp [partT]; omega
                have h4 : ∀ ks : List Int, (ks.flatMap (partT rows)).length ≤ 21 * ks.length := fun ks => by
                  induction ks with
                  | nil => simp
                  | cons q ks ih => have := h3 q; simp [List.flatMap_cons] at ih ⊢; omega
                have := h4 ((kids ⟨kn, un, na, nb, nc⟩).take j)
                have h5 : ((kids ⟨kn, un, na, nb, nc⟩).take j).length ≤ 3 := by simp; omega
                omega
              have HF := Lib.hid hfl
              clear oj hfl
              by_cases hjl : j < many kn
              · have hq := kid_part (n := ⟨kn, un, na, nb, nc⟩) hjl
                have Hq := Lib.hid hq
                have hqr := List.mem_of_mem_take (Hcl.out _ (List.mem_of_getElem? hq))
                have hij : (j : Int) < (many kn : Int) := by omega
                have hat : Hid (atI rows (Nd.part ⟨kn, un, na, nb, nc⟩ j) = (rows.idxOf (Nd.part ⟨kn, un, na, nb, nc⟩ j) : Nat)) := Lib.hid (by unfold atI; rw [if_pos hqr])
                have hdx : rows.idxOf (Nd.part ⟨kn, un, na, nb, nc⟩ j) < 1100 := by have := List.idxOf_le_length (a := Nd.part ⟨kn, un, na, nb, nc⟩ j) (l := rows); omega
                have hT := digs_len (rows.idxOf (Nd.part ⟨kn, un, na, nb, nc⟩ j)) (by omega)
                have Hpt := Lib.hid (show partT rows (Nd.part ⟨kn, un, na, nb, nc⟩ j) = 32 :: digs (rows.idxOf (Nd.part ⟨kn, un, na, nb, nc⟩ j)) from rfl)
                generalize hqe : Nd.part ⟨kn, un, na, nb, nc⟩ j = q at *
                have HQ := Lib.hid hqe
                clear hqe
                generalize rows.idxOf q = dx at *
                have Hnext := Lib.hid (show T1 ++ ((kids ⟨kn, un, na, nb, nc⟩).take (j + 1)).flatMap (partT rows) = ((T1 ++ ((kids ⟨kn, un, na, nb, nc⟩).take j).flatMap (partT rows)) ++ [32]) ++ digs dx by
                  rw [List.take_add_one, Hq.out]; simp [Hpt.out])
                have hl0 : (T1 ++ ((kids ⟨kn, un, na, nb, nc⟩).take j).flatMap (partT rows)).length ≤ 200200 := by have h1 := HT1.out; have h2 := HF.out; rw [List.length_append]; omega
                generalize T1 ++ ((kids ⟨kn, un, na, nb, nc⟩).take j).flatMap (partT rows) = T2 at *
                obtain ⟨s1, hs1⟩ : ∃ s, s = strO (T2 ++ [32]) := ⟨_, rfl⟩
                obtain ⟨s2, hs2⟩ : ∃ s, s = strO ((T2 ++ [32]) ++ digs dx) := ⟨_, rfl⟩
                have ha1 : ∀ w, (Op.stringOp .add (strO T2) ⟨#[32]⟩).run Tryz.prog w = .ok (.string s1) w := fun w => by rw [hs1]; exact addS _ [32] (by omega) (by decide) w
                have ha2 : ∀ w, (Op.stringOp .add s1 (strO (digs dx))).run Tryz.prog w = .ok (.string s2) w := fun w => by rw [hs1, hs2]; exact addS _ _ (by simp only [List.length_append, List.length_singleton]; omega) (by omega) w
                have HS2 := Lib.hid hs2
                clear hs1 hs2
                have hwd : IntKind.u64.wrap (dx : Int) = dx := IntWalk.u64_in _ (by omega)
                have Hjl := Lib.hid hjl
                clear hq hqr hj hjl hkl hT
                go_wp2_with fail
                refine (rMany_calls _ _).mono ?_
                rintro e wp ⟨rfl, rfl⟩
                rw [HmI.out]
                generalize hmk : many kn = m at *
                go_wp2_with fail
                refine (r2part_calls ⟨kn, un, na, nb, nc⟩ j _).mono ?_
                rintro e w4 ⟨rfl, b4⟩
                rw [HQ.out]
                have O4 := Lib.hid (Oj.out.call b4)
                clear b4 c0 c1 c2 c3 c4 lb
                go_wp2_with fail
                refine (r2at_calls (some ⟨gb, gk, none⟩) cr1 rows q w4 (by have := H6.out; omega) (by
                  obtain ⟨A', c', e1, e2, -⟩ := holds_of_owns (O4.out.row (i := 1) rfl)
                  cases e1; exact e2)).mono ?_
                rintro e w5 ⟨rfl, rfl⟩
                rw [hat.out]
                go_wp2_with fail
                refine (r2digits_calls (dx + 1) dx w4 (Nat.lt_succ_self _) (by omega)).mono ?_
                rintro e w6 ⟨rfl, rfl⟩
                go_wp2_with fail
                go_roundw
                case rel => exact ⟨j + 1, by have := Hjl.out; omega, by rw [Hnext.out, HS2.out], by go_num, O4.out⟩
                case measure => have := Hjl.out; simp only [intOf]; omega
              · obtain rfl : j = many kn := by omega
                have hall : (kids ⟨kn, un, na, nb, nc⟩).take (many kn) = kids ⟨kn, un, na, nb, nc⟩ := List.take_of_length_le (by omega)
                rw [hall] at HF ⊢
                have hl0 : (T1 ++ (kids ⟨kn, un, na, nb, nc⟩).flatMap (partT rows)).length ≤ 200200 := by have h1 := HT1.out; have h2 := HF.out; rw [List.length_append]; omega
                rw [← List.append_assoc] at Hbs
                generalize T1 ++ (kids ⟨kn, un, na, nb, nc⟩).flatMap (partT rows) = T2 at *
                have ha1 : ∀ w, (Op.stringOp .add (strO T2) ⟨#[59]⟩).run Tryz.prog w = .ok (.string (strO (T2 ++ [59]))) w := fun w => addS _ [59] (by omega) (by decide) w
                have hk1 := Hlt.out
                clear hall hj hjl hkl HF Hj
                go_wp2_with fail
                refine (rMany_calls _ _).mono ?_
                rintro e wp ⟨rfl, rfl⟩
                rw [HmI.out]
                go_wp2_with fail
                go_roundw
                case rel => exact ⟨k + 1, by omega, by rw [Hbs.out], by go_num, Oj.out.tail⟩
                case measure => simp [intOf]; omega
      · obtain rfl : k = rows.length := by omega
        have hall : rows.take rows.length = rows := List.take_length
        rw [hall, ← Htext.out]
        clear ok hk hlt
        go_wp2_with fail
        go_ret
        exact ⟨rfl, Ok.out.below⟩
end Go.Proofs.YtfelbecofbdeaaaGreatDoor
