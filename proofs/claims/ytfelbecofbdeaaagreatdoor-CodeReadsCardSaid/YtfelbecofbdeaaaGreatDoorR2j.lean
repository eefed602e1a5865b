/- The document's Read of layer 2, walked. -/
import Derived.Test.YtfelbecofbdeaaaGreatDoorR2g
import Derived.Test.YtfelbecofbdeaaaGreatDoorR2h
namespace Go.Proofs.YtfelbecofbdeaaaGreatDoor
open Go.RowKit

theorem readPost_no {A : Ar} {s : List UInt8} {w w' : World} {A1 : Ar} {g1 cap1 : Nat} {e : Ending} (he : e = .returned (.tuple #[refV A1 g1 cap1, .int .i64 0, .bool false])) (hr : RefAt w' g1 cap1 A1.l) (hb : Below w.heap.size w w') (hl : 1 ≤ A1.l.length) (hn : ∀ B y, ¬ ReadOk A s B y) : ReadPost2 A s w e w' :=
  ⟨A1, g1, cap1, 0, false, he, hr, hb, hl, (fun h => by cases h), fun B y h => absurd h (hn B y)⟩
theorem runAt_end {A : Ar} {s : ByteArray} {A1 : Ar} {had : List Int} {rows : List (List UInt8)} {now : List UInt8} (h : RunAt A s s.size A1 had rows now) : splitL 59 s.data.toList = rows ++ [now] := by
  have h1 := h.split
  rwa [show s.data.toList.take s.size = s.data.toList from List.take_of_length_le (by simp)] at h1
theorem runAt_empty {A : Ar} {s : ByteArray} {A1 : Ar} {had : List Int} {rows : List (List UInt8)} {now : List UInt8} (h : RunAt A s s.size A1 had rows now) (hbad : had = [] ∨ now ≠ []) (B : Ar) (y : Int) : ¬ ReadOk A s.data.toList B y := by
  rintro ⟨rows2, had2, h1, h2, _⟩
  rw [runAt_end h] at h1
  obtain ⟨h3, h4⟩ := List.append_inj' h1 rfl
  rcases hbad with hb | hb
  · have := h.run.len
    rw [hb] at this
    have : rows = [] := List.eq_nil_of_length_eq_zero (by simpa using this.symm)
    exact h2 (h3 ▸ this)
  · simp at h4; exact hb h4
theorem runAt_full {A : Ar} {s : ByteArray} {A1 : Ar} {had : List Int} {rows : List (List UInt8)} (h : RunAt A s s.size A1 had rows []) (hne : had ≠ []) : ((text A1.l (had.getLastD 0) = s.data.toList) → ReadOk A s.data.toList A1 (had.getLastD 0)) ∧ ∀ B y, ReadOk A s.data.toList B y → text A1.l (had.getLastD 0) = s.data.toList ∧ A1 = B ∧ had.getLastD 0 = y := by
  have hs := runAt_end h
  have hr : rows ≠ [] := fun e => hne (List.eq_nil_of_length_eq_zero (by rw [h.run.len, e]; rfl))
  refine ⟨fun ht => ⟨rows, had, hs, hr, h.run, rfl, ht⟩, ?_⟩
  rintro B y ⟨rows2, had2, h1, h2, h3, h4, h5⟩
  rw [hs] at h1
  obtain ⟨h6, -⟩ := List.append_inj' h1 rfl
  subst h6
  obtain ⟨rfl, rfl⟩ := h.run.det h3
  subst h4
  exact ⟨h5, rfl, rfl⟩
def setR (w : World) (b : Nat) (A : Ar) (g cap : Nat) : World := (w.setCell ⟨b, 0, none⟩ (.int .i64 A.limit)).setCell ⟨b, 1, none⟩ (.slice (some ⟨g, 0, none⟩) A.l.length cap)
theorem setR_heap {w : World} {b : Nat} {a0 a1 : Value} (h : w.heap[b]? = some (.cells #[a0, a1] 27 (0, 0))) (A : Ar) (g cap : Nat) : (setR w b A g cap).heap[b]? = some (refObj A g cap) := heap_set2 h
theorem setR_own {w0 w : World} {L : List Thing} {i b : Nat} {a0 a1 : Value} (h : Own w0 w L) (hi : L[i]? = some (blk b (.cells #[a0, a1] 27 (0, 0)))) (A : Ar) (g cap : Nat) : Own w0 (setR w b A g cap) (L.set i (blk b (refObj A g cap))) :=
  h.store hi (((Upd.refl (One b) w).setCell (fun _ => rfl) _).setCell (fun _ => rfl) _) (setR_heap (h.blk hi) A g cap)
/-- A row's block is none of the others'. -/
theorem Own.rowNe {w0 w : World} {L : List Thing} {i j b g : Nat} {o : Obj} {e : TypeId} {size n : Nat} {v : Value} {xs : List Value} (h : Own w0 w L) (hi : L[i]? = some (rowT e size v n xs)) (hj : L[j]? = some (Go.Proofs.YtfelbecofbdeaaaGreatDoor.blk b o)) (hij : i ≠ j) (hg : v.ownBlock = some g) : g ≠ b := by
  obtain ⟨hb, f, h1, h2, h3⟩ := h
  rintro rfl
  exact hij (h2 i j g (idx_lt hi) (idx_lt hj) (((h1 i _ hi).2 g).2 hg) (((h1 j _ hj).2 g).2 rfl))
theorem Upd.setOne {a w : World} {b o : Nat} {v : Value} (h : Upd (One b) a w) : Upd (One b) a (w.setCell ⟨b, o, none⟩ v) := h.setCell (fun _ => rfl) v
def ReadL (B4 B2 : Nat) (w : World) (v : Value) (had : List Int) (A1 : Ar) (g1 cap1 : Nat) : List Thing := [rowT 3 1 v had.length (intsV had), blk B4 refZ, blk B2 (refObj A1 g1 cap1), refU w g1 cap1 A1.l]
set_option warningAsError false in
set_option maxHeartbeats 6400000 in
set_option maxRecDepth 100000 in
theorem r2Read_calls {w : World} {A : Ar} {g cap : Nat} (hra : RefAt w g cap A.l) (hok : ArOk A) (hroom : A.l.length ≤ A.limit ∧ A.limit ≤ 65536) (hlen : A.l.length ≤ 100 ∧ 1 ≤ A.l.length) (s : ByteArray) (hs : s.size ≤ 600) :
    Calls Tryz.prog 10 #[refV A g cap, .string s] w (ReadPost2 A s.data.toList w) := by
  have HRA := Lib.hid hra
  have hs2 : s.size ≤ 9223372036854775807 := by omega
  have Hs := Lib.hid hs
  have Hrun : Hid (RunAt A s 0 A [] [] []) := Lib.hid ⟨by simp [splitL], .nil, hok, hroom, by omega, by simp, by simp⟩
  clear hra hok hroom hlen hs
  unfold refV
  go_enter Tryz.func10, Tryz.ntmps10
  go_wp2_with fail
  have o1 : Own w ((w.alloc (refObj A g cap)).alloc refZ) [blk (w.heap.size + 1) refZ, blk w.heap.size (refObj A g cap), refU w g cap A.l] := by
    have h := ((Own.startU HRA.out).alloc (refObj A g cap)).alloc refZ
    rw [World.size_alloc] at h; exact h
  have O1 : Hid (Own w ((w.alloc (refObj A g cap)).alloc refZ) (ReadL (w.heap.size + 1) w.heap.size w (.slice none 0 0) [] A g cap)) := Lib.hid (o1.nilRow 3 1)
  clear o1
  unfold refObj refZ at O1
  generalize hB4 : w.heap.size + 1 = B4 at *
  generalize hB2 : w.heap.size = B2 at *
  clear hB4 hB2
  go_loopw [7, 8, 9] (fun hv nv i wr => ∃ (k : Nat) (A1 : Ar) (had : List Int) (rows : List (List UInt8)) (now : List UInt8) (g1 cap1 : Nat) (v : Value), k ≤ s.size ∧ v = hv ∧ nv = .string (strO now) ∧ i = .int .i64 k ∧ Hid (RunAt A s k A1 had rows now) ∧ Own w wr (ReadL B4 B2 w v had A1 g1 cap1)) (fun _ _ i _ => s.size - (intOf i).toNat)
  case atStart => exact ⟨0, A, [], [], [], g, cap, .slice none 0 0, by omega, rfl, rfl, rfl, Hrun, O1.out⟩
  case round =>
    clear O1 Hrun
    obtain ⟨k, A1, had, rows, now, g1, cap1, v, hk, rfl, rfl, rfl, hrun, ok⟩ := hrel
    have Ok := Lib.hid ok
    have hhl := hrun.out.hl
    have hnl := hrun.out.nl
    have hs6 := Hs.out
    obtain ⟨Av, cv, rfl⟩ := row_form' (ok.row (i := 0) rfl)
    have HA : Hid (Holds wr Av (intsV had)) := Lib.hid (by
      obtain ⟨A', c', e1, e2, -⟩ := holds_of_owns (ok.row (i := 0) rfl)
      cases e1; exact e2)
    have hb2 : wr.heap[B2]? = some (refObj A1 g1 cap1) := ok.blk (i := 2) rfl
    have hb4 : wr.heap[B4]? = some refZ := ok.blk (i := 1) rfl
    obtain ⟨q0, q1⟩ := RBox.cells (A := A1) (g := g1) (cap := cap1) hb2
    have n24 : B4 ≠ B2 := ok.ne (i := 1) (j := 2) rfl rfl (by decide)
    have n42 : B2 ≠ B4 := fun h => n24 h.symm
    have l4 := lt_of_heap hb4
    have z0 : wr.cell? ⟨B4, 0, none⟩ = some (.int .i64 0) := cell_of_heap hb4
    have z1 : wr.cell? ⟨B4, 1, none⟩ = some (.slice none 0 0) := cell_of_heap hb4
    have l2 := lt_of_heap hb2
    have f4 := fun o => frozen_of_heap (o := o) hb4
    have f2 := fun o => frozen_of_heap (o := o) hb2
    have Hb4 := Lib.hid hb4
    have Hb2 := Lib.hid hb2
    clear ok hb2 hb4
    by_cases hlt : k < s.size
    · have hik : (k : Int) < s.size := by omega
      have Hlt := Lib.hid hlt
      by_cases hc : s[k] = 59
      · have hd : (((s[k]).toNat : Int) != 59) = false := by rw [hc]; decide
        have Hc := Lib.hid hc
        clear hc hk hlt q0 q1 z0 z1 l4 l2 f4 f2 Hb4 Hb2
        go_wp2_with fail
        refine (r2node_calls (strO now) (by rw [size_str]; omega) Av cv had (by omega) wr HA.out).mono ?_
        rintro e w1 ⟨n, okn, rfl, b1, hn1, hn2⟩
        rw [strO_data] at hn1 hn2
        have O1 := Lib.hid (Ok.out.call b1)
        have hb2 : w1.heap[B2]? = some (refObj A1 g1 cap1) := O1.out.blk (i := 2) rfl
        have hb4 : w1.heap[B4]? = some refZ := O1.out.blk (i := 1) rfl
        obtain ⟨q0, q1⟩ := RBox.cells (A := A1) (g := g1) (cap := cap1) hb2
        have l4 := lt_of_heap hb4
        have z0 : w1.cell? ⟨B4, 0, none⟩ = some (.int .i64 0) := cell_of_heap hb4
        have z1 : w1.cell? ⟨B4, 1, none⟩ = some (.slice none 0 0) := cell_of_heap hb4
        have l2 := lt_of_heap hb2
        have f4 := fun o => frozen_of_heap (o := o) hb4
        have f2 := fun o => frozen_of_heap (o := o) hb2
        clear hb2 hb4 b1 Ok HA
        simp only [Nd.val]
        cases okn with
        | false =>
          have Hno := Lib.hid (runAt_none hrun.out Hlt.out Hc.out (fun m hm => by have := (hn2 m hm).1; cases this))
          clear hn1 hn2
          go_wp2_with fail
          have o8 : Own w _ _ := (setR_own O1.out (i := 1) rfl A1 g1 cap1).alloc (rndObj n)
          have hfin := o8.blk (i := 2) rfl
          unfold setR rndObj at o8 hfin
          refine bodyPost_ret (v := .tuple #[refV A1 g1 cap1, .int .i64 0, .bool false]) (by simp [results, Tryz.results10, go_sem, refV, cell_of_heap hfin]) rfl ?_
          exact readPost_no rfl (o8.refU (i := 4) rfl) o8.below hrun.out.len.2 Hno.out
        | true =>
          have Hn := Lib.hid (hn1 rfl)
          have Hn2 := Lib.hid hn2
          have hu := Hn.out.u64
          clear hn1 hn2
          go_wp2_with fail
          refine (rMk_calls (A := A1) (g := g1) (cap := cap1) (x := n) ((O1.out.alloc (rndObj n)).refU (i := 4) rfl) hrun.out.ok.wf hrun.out.room hu.1 hu.2).mono ?_
          rintro e w2 ⟨g2, cap2, rfl, hr2, b2, hg⟩
          have O2 := Lib.hid ((O1.out.alloc (rndObj n)).newRefU (i := 4) rfl b2 hr2 hg)
          have O3 := Lib.hid ((O1.out.alloc (rndObj n)).call b2)
          have hb2 : w2.heap[B2]? = some (refObj A1 g1 cap1) := O3.out.blk (i := 3) rfl
          have hb4 : w2.heap[B4]? = some refZ := O3.out.blk (i := 2) rfl
          clear q0 q1 z0 z1 l4 l2 f4 f2
          obtain ⟨q0, q1⟩ := RBox.cells (A := A1) (g := g1) (cap := cap1) hb2
          have l4 := lt_of_heap hb4
          have z0 : w2.cell? ⟨B4, 0, none⟩ = some (.int .i64 0) := cell_of_heap hb4
          have z1 : w2.cell? ⟨B4, 1, none⟩ = some (.slice none 0 0) := cell_of_heap hb4
          have l2 := lt_of_heap hb2
          have f4 := fun o => frozen_of_heap (o := o) hb4
          have f2 := fun o => frozen_of_heap (o := o) hb2
          have Hcut := Lib.hid (fun hm => runAt_cut hrun.out Hlt.out Hc.out Hn.out hm)
          have Hnone := Lib.hid (fun (hm : (mk A1 n).2.2 ≠ 0) => runAt_none hrun.out Hlt.out Hc.out (fun m hmm => by rw [← (Hn2.out m hmm).2]; exact hm))
          clear hr2 b2 hg hb2 hb4 O1 hu
          simp only [refV]
          generalize hmk : mk A1 n = M at *
          clear hmk
          obtain ⟨A2, rf, e2⟩ := M
          dsimp only at *
          by_cases he : e2 = 0
          · subst he
            have Hc2 := Lib.hid (Hcut.out rfl)
            clear Hcut Hnone O3
            have y0 := q0
            have o4 := ((setR_own O2.out (i := 3) rfl A2 g2 cap2).alloc (refObj A2 g2 cap2)).alloc (.cells #[.int .i64 rf] 3)
            unfold setR refObj at o4
            have O4 := Lib.hid o4
            go_wp2_with (at_builtin; go_loud (refine wpList_ocat O4.out rfl (.tmp 52) (.tmp 54) 70 rfl 3 (.int .i64 0) 1 8 Tryz.underlying70 einfo_int' rfl (by decide) (.slice Av had.length cv) had.length (intsV had) rfl 3 rfl (some ⟨w2.heap.size + 1, 0, none⟩) 1 1 [.int .i64 rf] rfl (News.block (cs := [.int .i64 rf]) (new_at (by simp [World.setCell])) rfl) (by simp [Value.oneCell']) (by unfold maxLen; omega) (by omega) ?_))
            intro v6 w6 o7
            have O7 := Lib.hid o7
            clear o7 o4 O4
            go_wp2_with fail
            go_roundw
            case rel =>
              have hlt1 := Hlt.out
              refine ⟨k + 1, A2, had ++ [rf], rows ++ [now], [], g2, cap2, v6, by omega, rfl, rfl, by go_num, Hc2, ?_⟩
              have h := O7.out.tail.tail.tail
              have e : intsV (had ++ [rf]) = intsV had ++ [.int .i64 rf] := by simp [intsV]
              unfold ReadL
              rw [e, List.length_append, List.length_singleton]; exact h
            case measure => have hlt1 := Hlt.out; simp only [intOf]; omega
          · have hd2 : (e2 != 0) = true := by rw [bne_iff_ne]; exact he
            have Hno := Lib.hid (Hnone.out he)
            clear Hnone Hcut O2 he
            go_wp2_with fail
            have o8 : Own w _ _ := (setR_own O3.out (i := 2) rfl A1 g1 cap1).alloc (refObj A2 g2 cap2)
            have hfin := o8.blk (i := 3) rfl
            unfold setR refObj at o8 hfin
            refine bodyPost_ret (v := .tuple #[refV A1 g1 cap1, .int .i64 0, .bool false]) (by simp [results, Tryz.results10, go_sem, refV, cell_of_heap hfin]) rfl ?_
            exact readPost_no rfl (o8.refU (i := 5) rfl) o8.below hrun.out.len.2 Hno.out
      · have hd : (((s[k]).toNat : Int) != 59) = true := by
          rw [bne_iff_ne]; intro h; exact hc (UInt8.toNat_inj.1 (by show (s[k]).toNat = 59; omega))
        have Hnext := Lib.hid (runAt_other hrun.out hlt hc)
        have hadd : ∀ w, (Op.stringOp .add (strO now) (s.extract k (k + 1))).run Tryz.prog w = .ok (.string (strO (now ++ [s[k]]))) w := fun w => by
          have e : s.extract k (k + 1) = strO [s[k]] := extract_one hlt
          rw [e]; exact addS now [s[k]] (by omega) (by simp only [List.length_singleton]; omega) w
        generalize now ++ [s[k]] = now2 at *
        clear hc hk hlt q0 q1 z0 z1 l4 l2 f4 f2 Hb4 Hb2
        go_wp2_with fail
        go_roundw
        case rel => have := Hlt.out; exact ⟨k + 1, A1, had, rows, now2, g1, cap1, _, by omega, rfl, rfl, by go_num, Hnext, Ok.out⟩
        case measure => have := Hlt.out; simp only [intOf]; omega
    · obtain rfl : k = s.size := by omega
      clear hk hlt
      by_cases hbad : had = [] ∨ now ≠ []
      · have Hno := Lib.hid (runAt_empty hrun.out hbad)
        have hd : ((had.length : Int) == 0) = true ∨ (((had.length : Int) == 0) = false ∧ (strO now).toList.isEmpty = false) := by
          by_cases hh : had = []
          · left; subst hh; rfl
          · right
            refine ⟨by rw [beq_eq_false_iff_ne]; have := List.length_pos_iff.2 hh; omega, ?_⟩
            rw [← decide_eq_emptyBytes]
            exact decide_eq_false (fun h => hbad.elim hh (fun hn => hn (by have h2 := congrArg (fun b : ByteArray => b.data.toList) h; simpa [strO] using h2)))
        clear hbad
        rcases hd with d1 | ⟨d1, d2⟩
        all_goals
          go_wp2_with fail
          have o8 : Own w _ _ := setR_own Ok.out (i := 1) rfl A1 g1 cap1
          have hfin := o8.blk (i := 1) rfl
          unfold setR at o8 hfin
          refine bodyPost_ret (v := .tuple #[refV A1 g1 cap1, .int .i64 0, .bool false]) (by simp [results, Tryz.results10, go_sem, refV, cell_of_heap hfin]) rfl ?_
          exact readPost_no rfl (o8.refU (i := 3) rfl) o8.below hrun.out.len.2 Hno.out
      · obtain ⟨hh, hn⟩ : had ≠ [] ∧ now = [] := ⟨fun h => hbad (.inl h), Classical.byContradiction fun h => hbad (.inr h)⟩
        subst hn
        have Hfull := Lib.hid (runAt_full hrun.out hh)
        have d1 : ((had.length : Int) == 0) = false := by rw [beq_eq_false_iff_ne]; have := List.length_pos_iff.2 hh; omega
        have hpos := List.length_pos_iff.2 hh
        have hlast := last_some hh 0
        have hltl : had.length - 1 < had.length := by omega
        obtain ⟨gb, gk, rfl, hc⟩ : ∃ b o, Av = some ⟨b, o, none⟩ ∧ wr.cell? ⟨b, o + (had.length - 1), none⟩ = some (.int .i64 (had.getLastD 0)) := by
          obtain ⟨b, o, e3, e4⟩ := intsV_at HA.out hltl
          rw [List.getElem?_eq_getElem hltl] at hlast
          exact ⟨b, o, e3, by rw [e4]; exact congrArg (fun z => some (Value.int .i64 z)) (by injection hlast)⟩
        have l0 : (0 : Int) ≤ (had.length : Int) - 1 := by omega
        have l1 : ((had.length : Int) - 1) < (had.length : Int) := by omega
        have l5 : ((had.length : Int) - 1).toNat = had.length - 1 := by omega
        have ngb : gb ≠ B4 := Ok.out.rowNe (i := 0) (j := 1) rfl rfl (by decide) rfl
        have hwl := hrun.out.len
        have hHR : Hid (∀ w', Below wr.heap.size wr w' → Calls Tryz.prog 21 #[.agg #[.int .i64 A1.limit, .slice (some ⟨g1, 0, none⟩) A1.l.length cap1], .int .i64 (had.getLastD 0)] w' (WritePost (text A1.l (had.getLastD 0)) w')) := Lib.hid fun w' h =>
          r2Write_calls ((Ok.out.call h).refU (i := 3) rfl) hrun.out.ok.wf (by omega) (had.getLastD 0)
        have hl1 := hwl.2
        have HO := Lib.hid Ok.out
        have hw1 : IntKind.i64.wrap ((had.length : Int) - 1) = (had.length : Int) - 1 := IntWalk.i64_in _ (by omega)
        clear hwl hlast hltl d1 HA
        have d1 : ((had.length : Int) == 0) = false := by rw [beq_eq_false_iff_ne]; omega
        have he1 : (strO ([] : List UInt8)).toList.isEmpty = true := by decide +kernel
        generalize had.getLastD 0 = X at *
        generalize hH : had.length - 1 = H at *
        clear hH
        have hbw : Below wr.heap.size wr wr := Below.refl _ _
        have hub : Upd (One B4) wr wr := Upd.refl _ _
        have KS := Lib.hid (show ∀ w', Upd (One B4) wr w' → (w'.cell? ⟨B2, 0, none⟩ = some (.int .i64 A1.limit) ∧ w'.cell? ⟨B2, 1, none⟩ = some (.slice (some ⟨g1, 0, none⟩) A1.l.length cap1) ∧ w'.cell? ⟨gb, gk + H, none⟩ = some (.int .i64 X)) from fun w' h =>
          ⟨h.cell' q0 (fun e => n24 e.symm), h.cell' q1 (fun e => n24 e.symm), h.cell' hc (fun e => ngb e)⟩)
        have KZ := Lib.hid (show ∀ w', Below wr.heap.size wr w' → (w'.cell? ⟨B4, 0, none⟩ = some (.int .i64 0) ∧ w'.cell? ⟨B4, 1, none⟩ = some (.slice none 0 0) ∧ (∀ o, w'.frozen? ⟨B4, o, none⟩ = false) ∧ B4 < w'.heap.size) from fun w' h => by
          have hz := (HO.out.call h).blk (i := 1) rfl
          exact ⟨cell_of_heap hz, cell_of_heap hz, fun o => frozen_of_heap hz, lt_of_heap hz⟩)
        have hbT : ((strO (text A1.l X)).toList == s.toList) = decide (text A1.l X = s.data.toList) := by rw [← beq_toListBytes, str_eq]
        unfold WritePost at hHR
        have HT := Lib.hid (show ∃ T, T = text A1.l X from ⟨_, rfl⟩)
        generalize hTT : text A1.l X = T at *
        generalize hbv : decide (T = s.data.toList) = bv at *
        have HBV := Lib.hid hbv
        clear hbv hbad hpos hh
        go_wp2_with fail
        first
          | (go_region_held3 (fun w' => w'.cell? ⟨B2, 0, none⟩ = some (.int .i64 A1.limit) ∧ w'.cell? ⟨B2, 1, none⟩ = some (.slice (some ⟨g1, 0, none⟩) A1.l.length cap1) ∧ w'.cell? ⟨gb, gk + H, none⟩ = some (.int .i64 X))
              (first | exact KS.out _ (by repeat (first | with_reducible assumption | with_reducible refine Upd.drew ?_ | with_reducible refine Upd.alloc ?_ _ | with_reducible refine Upd.setOne ?_)))
              (first
                | (go_at_call 21; with_reducible refine (hHR.out _ (by repeat (first | with_reducible assumption | with_reducible refine Below.drew ?_ | with_reducible refine belowAlloc ?_ _))).mono ?_; rintro e wa ⟨rfl, hba⟩
                   have hxa : Below wr.heap.size wr wa := below_call (by repeat (first | with_reducible assumption | with_reducible refine Below.drew ?_ | with_reducible refine belowAlloc ?_ _)) hba
                   have hxu : Upd (One B4) wr wa := Upd.of_below hxa
                   obtain ⟨z0, z1, f4, l4⟩ := KZ.out _ hxa)))
        all_goals go_wp2_with fail
        all_goals
          have o8 : Own w _ _ := setR_own (Ok.out.call hxa) (i := 1) rfl A1 g1 cap1
          have hfin := o8.blk (i := 1) rfl
          unfold setR at o8 hfin
          refine bodyPost_ret (v := .tuple #[refV A1 g1 cap1, .int .i64 X, .bool bv]) (by simp [results, Tryz.results10, go_sem, refV, cell_of_heap hfin]) rfl ?_
          have hbv := HBV.out
          refine ⟨A1, g1, cap1, X, bv, rfl, (by first | exact o8.refU (i := 3) rfl | exact o8.drew.refU (i := 3) rfl), (by first | exact o8.below | exact o8.drew.below), hrun.out.len.2, fun h => ?_, fun B y h => ?_⟩
          · rw [← hbv, decide_eq_true_iff] at h
            exact Hfull.out.1 h
          · obtain ⟨h1, h2, h3⟩ := Hfull.out.2 B y h
            exact ⟨by rw [← hbv, decide_eq_true_iff]; exact h1, h2, h3⟩
end Go.Proofs.YtfelbecofbdeaaaGreatDoor
