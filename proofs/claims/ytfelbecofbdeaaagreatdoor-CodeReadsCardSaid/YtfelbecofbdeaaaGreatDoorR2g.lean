/- The document's node of layer 2, walked. -/
import Derived.Test.YtfelbecofbdeaaaGreatDoorR2f
namespace Go.Proofs.YtfelbecofbdeaaaGreatDoor
open Go.RowKit

def NodePost2 (had : List Int) (ws : List (List UInt8)) (w : World) (e : Ending) (w' : World) : Prop :=
  ∃ n ok, e = .returned (.tuple #[n.val, .bool ok]) ∧ Below w.heap.size w w' ∧ (ok = true → NodeOk had ws n) ∧ ∀ m, NodeOk had ws m → ok = true ∧ n = m
theorem wordsV_at {w : World} {v : Value} {ws : List (List UInt8)} {base : Nat} (h : w.ownsRow base 9 1 v ws.length (strsV ws)) {k : Nat} {x : List UInt8} (hk : ws[k]? = some x) : ∃ g cap, v = .slice (some ⟨g, 0, none⟩) ws.length cap ∧ w.cell? ⟨g, k, none⟩ = some (.string (strO x)) := by
  have hl := (List.getElem?_eq_some_iff.1 hk).1
  obtain ⟨g, cap, h1, _, _, h2⟩ := row_at h (by omega)
  exact ⟨g, cap, h1, h2 k _ (by unfold strsV; rw [List.getElem?_map, hk]; rfl)⟩
def set5 (w : World) (b : Nat) (n : Nd) : World := ((((w.setCell ⟨b, 0, none⟩ (.int .i64 n.kind)).setCell ⟨b, 1, none⟩ (.int .u64 n.n)).setCell ⟨b, 2, none⟩ (.int .i64 n.a)).setCell ⟨b, 3, none⟩ (.int .i64 n.b)).setCell ⟨b, 4, none⟩ (.int .i64 n.c)
theorem set5_heap {w : World} {b : Nat} {m : Nd} (h : w.heap[b]? = some (rndObj m)) (n : Nd) : (set5 w b n).heap[b]? = some (rndObj n) := heap_set5 h
theorem set5_own {w0 w : World} {L : List Thing} {i b : Nat} {m : Nd} (h : Own w0 w L) (hi : L[i]? = some (blk b (rndObj m))) (n : Nd) : Own w0 (set5 w b n) (L.set i (blk b (rndObj n))) :=
  h.store hi (((((((Upd.refl (One b) w).setCell (fun _ => rfl) _).setCell (fun _ => rfl) _).setCell (fun _ => rfl) _).setCell (fun _ => rfl) _).setCell (fun _ => rfl) _)) (set5_heap (h.blk hi) n)
theorem ndX_step {had : List Int} {xs : List Nat} {i u : Nat} (hl : xs.length = i) : ndX had (xs ++ [u]) = ⟨if 0 = i then (u : Int) else (ndX had xs).kind, if 1 = i then (u : Int) else (ndX had xs).n, if 2 = i then had.getD u 0 else (ndX had xs).a, if 3 = i then had.getD u 0 else (ndX had xs).b, if 4 = i then had.getD u 0 else (ndX had xs).c⟩ := by
  unfold ndX
  rw [getD_at hl, getD_at hl, ndX_at hl, ndX_at hl, ndX_at hl]
  congr 1 <;> (split <;> rfl)
theorem had_at {w : World} {A : Option Addr} {had : List Int} (h : Holds w A (intsV had)) {u : Nat} (hu : u < had.length) : ∃ b o, A = some ⟨b, o, none⟩ ∧ w.cell? ⟨b, o + u, none⟩ = some (.int .i64 (had.getD u 0)) := by
  obtain ⟨b, o, e3, e4⟩ := intsV_at h hu
  exact ⟨b, o, e3, by rw [e4]; simp [List.getD, hu]⟩
theorem heapO {w : World} {b k o : Nat} {v : Value} {x : Obj} (h : w.heap[k]? = some x) (hn : k ≠ b) : (w.setCell ⟨b, o, none⟩ v).heap[k]? = some x := (Below.heap_setCell _ _ _ _ hn).trans h
set_option warningAsError false in
set_option maxHeartbeats 12800000 in
set_option maxRecDepth 100000 in
theorem r2node_calls (s : ByteArray) (hs : s.size ≤ 10000) (Ah : Option Addr) (ch : Nat) (had : List Int) (hl : had.length ≤ 65536) (w : World) (hA : Holds w Ah (intsV had)) :
    Calls Tryz.prog 33 #[.string s, .slice Ah had.length ch] w (NodePost2 had (splitL 32 s.data.toList) w) := by
  have HA := Lib.hid hA
  have hsp : ∀ x ∈ splitL 32 s.data.toList, x.length ≤ 10000 := fun x hx => by
    have : ∀ (l : List UInt8), ∀ x ∈ splitL 32 l, x.length ≤ l.length := by
      intro l
      induction l with
      | nil => intro x hx; simp [splitL] at hx; subst hx; simp
      | cons b l ih =>
        intro x hx
        by_cases hb : b = 32
        · subst hb
          rw [splitL_here] at hx
          rcases List.mem_cons.1 hx with rfl | hx
          · simp
          · have := ih x hx; simp; omega
        · obtain ⟨y, t, hy⟩ := List.exists_cons_of_ne_nil (splitL_ne 32 l)
          rw [splitL_other hb hy] at hx
          rw [hy] at ih
          rcases List.mem_cons.1 hx with rfl | hx
          · have := ih y (by simp); simp; omega
          · have := ih x (by simp [hx]); simp; omega
    have h := this _ x hx
    have h2 : s.data.toList.length = s.size := by simp
    omega
  have hwl : (splitL 32 s.data.toList).length ≤ 10001 := by
    have : ∀ l : List UInt8, (splitL 32 l).length ≤ l.length + 1 := by
      intro l
      induction l with
      | nil => simp [splitL]
      | cons b l ih =>
        by_cases hb : b = 32
        · subst hb; rw [splitL_here]; simp; omega
        · obtain ⟨y, t, hy⟩ := List.exists_cons_of_ne_nil (splitL_ne 32 l)
          rw [splitL_other hb hy]; rw [hy] at ih; simp at ih ⊢; omega
    have h := this s.data.toList
    have h2 : s.data.toList.length = s.size := by simp
    omega
  have Hsp := Lib.hid hsp
  clear hA hsp
  go_enter Tryz.func33, Tryz.ntmps33
  go_wp2_with fail
  have o1 : Own w ((w.alloc (rndObj Nd.zero)).alloc (rndObj Nd.zero)) [blk (w.heap.size + 1) (rndObj Nd.zero), blk w.heap.size (rndObj Nd.zero)] := by
    have h := ((Own.start w).alloc (rndObj Nd.zero)).alloc (rndObj Nd.zero)
    rw [World.size_alloc] at h; exact h
  refine (r2words_calls s (by omega) _).mono ?_
  rintro e w1 ⟨v, rfl, o2⟩
  have o3 := o1.newRow o2.below (o2.rowBase (i := 0) rfl)
  generalize splitL 32 s.data.toList = ws at *
  obtain ⟨Aw, cw, rfl⟩ := row_form' (o3.row (i := 0) rfl)
  have O3 := Lib.hid o3
  clear o1 o2 o3
  go_wp2_with fail
  generalize w.heap.size + 1 = B6 at *
  generalize hB4 : w.heap.size = B4 at *
  have HB4 := Lib.hid hB4
  clear hB4
  go_loopw [8] (fun i wr => ∃ (k : Nat) (xs : List Nat), k ≤ ws.length ∧ i = .int .i64 k ∧ Hid (Sofar had ws k xs) ∧ Own w wr [rowT 9 1 (.slice Aw ws.length cw) ws.length (strsV ws), blk B6 (rndObj (ndX had xs)), blk B4 (rndObj Nd.zero)]) (fun i _ => ws.length - (intOf i).toNat)
  case atStart => exact ⟨0, [], by omega, rfl, Lib.hid ⟨rfl, rfl, by simp⟩, O3.out⟩
  case round =>
    clear O3
    obtain ⟨k, xs, hk, rfl, hso, ok⟩ := hrel
    have Ok := Lib.hid ok
    have h6 := ok.blk (i := 1) rfl
    have h4 := ok.blk (i := 2) rfl
    have n64 : B6 ≠ B4 := ok.ne (i := 1) (j := 2) rfl rfl (by decide)
    obtain ⟨c0, c1, c2, c3, c4⟩ := RNdAt.cells h6
    obtain ⟨z0, z1, z2, z3, z4⟩ := RNdAt.cells h4
    have f6 := fun o => frozen_of_heap (o := o) h6
    have f4 := fun o => frozen_of_heap (o := o) h4
    have l6 := lt_of_heap h6
    have l4 := lt_of_heap h4
    have H6 := Lib.hid h6
    have H4 := Lib.hid h4
    clear ok h6 h4
    by_cases hlt : k < ws.length
    · have hik : (k : Int) < ws.length := by omega
      obtain ⟨x, hx⟩ : ∃ x, ws[k]? = some x := ⟨_, List.getElem?_eq_getElem hlt⟩
      obtain ⟨gw, cw2, e1, hc⟩ := wordsV_at (Ok.out.row (i := 0) rfl) hx
      cases e1
      have HX := Lib.hid hx
      have Hlt := Lib.hid hlt
      have hxl := Hsp.out x (List.mem_of_getElem? hx)
      clear hx hlt hk
      go_wp2_with fail
      refine (r2number_calls (strO x) (by rw [size_str]; omega) _).mono ?_
      rintro e w2 ⟨u, ok1, rfl, rfl, hu, hok, hnum⟩
      rw [strO_data] at hok hnum
      by_cases hbad : ok1 = false ∨ (k ≠ 1 ∧ 100000 < u) ∨ (1 < k ∧ had.length ≤ u) ∨ 4 < k
      · have HB := Lib.hid (fun m => Sofar.bad (had := had) HX.out (fun y hy e hok2 => by
          obtain ⟨h1, rfl⟩ := hnum y hy e
          obtain ⟨_, h2, h3, h4⟩ := hok2
          rcases hbad with h | ⟨h, h'⟩ | ⟨h, h'⟩ | h
          · rw [h1] at h; cases h
          · have := h2 h; omega
          · have := h3 h; omega
          · omega) m)
        have hd : ok1 = false ∨ (ok1 = true ∧ ((k : Int) != 1) = true ∧ decide ((100000 : Int) < (u : Int)) = true) ∨
            (ok1 = true ∧ ((k : Int) != 1) = true ∧ decide ((100000 : Int) < (u : Int)) = false ∧ decide ((1 : Int) < (k : Int)) = true ∧ (had.length : Int) ≤ (u : Int)) ∨
            (ok1 = true ∧ ((k : Int) != 1) = true ∧ decide ((100000 : Int) < (u : Int)) = false ∧ decide ((1 : Int) < (k : Int)) = true ∧ ((had.length : Int) ≤ (u : Int)) = False ∧ decide ((4 : Int) < (k : Int)) = true) := by
          cases ok1 with
          | false => exact .inl rfl
          | true =>
            right
            by_cases a : k ≠ 1 ∧ 100000 < u
            · exact .inl ⟨rfl, by rw [bne_iff_ne]; omega, decide_eq_true (by omega)⟩
            · right
              by_cases b : 1 < k ∧ had.length ≤ u
              · exact .inl ⟨rfl, by rw [bne_iff_ne]; omega, decide_eq_false (by omega), decide_eq_true (by omega), by omega⟩
              · rcases hbad with h | h | h | h
                · cases h
                · exact absurd h a
                · exact absurd h b
                · exact .inr ⟨rfl, by rw [bne_iff_ne]; omega, decide_eq_false (by omega), decide_eq_true (by omega), eq_false (by omega), decide_eq_true (by omega)⟩
        have hfin := set5_heap H4.out (ndX had xs)
        unfold set5 rndObj at hfin
        have hbel := (set5_own Ok.out (i := 2) rfl (ndX had xs)).below
        unfold set5 at hbel
        have HF := Lib.hid hfin
        have HBel := Lib.hid hbel
        clear hfin hbel
        clear hbad hok hnum hso hc HX
        generalize ndX had xs = nx at *
        rcases hd with rfl | ⟨rfl, d1, d2⟩ | ⟨rfl, d1, d2, d3, d4⟩ | ⟨rfl, d1, d2, d3, d4, d5⟩
        all_goals go_wp2_with fail
        all_goals refine bodyPost_ret (v := .tuple #[nx.val, .bool false]) (by simp [results, Tryz.results33, go_sem, Nd.val, cell_of_heap HF.out]) rfl ?_
        all_goals exact ⟨nx, false, rfl, HBel.out, (fun h => by cases h), fun m h => absurd h (HB.out m)⟩
      · have hk4 : k ≤ 4 := by omega
        cases ok1 with
        | false => exact absurd (.inl rfl) hbad
        | true =>
          have hxu := hok rfl
          have hok2 : okX had k u := ⟨hu, by omega, by omega, hk4⟩
          have HN := Lib.hid (hso.out.next (by rw [HX.out, hxu]) hok2)
          have hstep := ndX_step (had := had) (u := u) hso.out.len
          have HS := Lib.hid hstep
          have hlt1 := Hlt.out
          have HLT := Lib.hid hlt1
          clear hok hnum hso hc HX hstep hok2 hxu hlt1
          rcases (show k = 0 ∨ k = 1 ∨ k = 2 ∨ k = 3 ∨ k = 4 by omega) with rfl | rfl | rfl | rfl | rfl
          · have d2 : decide ((100000 : Int) < (u : Int)) = false := decide_eq_false (by omega)
            have hu5 : u ≤ 100000 := by omega
            clear hbad hk4 hu
            have hfin := heap_setCell_at (o := 0) H6.out (.int .i64 (u : Int))
            have o9 := Ok.out.store (i := 1) (o' := rndObj (ndX had (xs ++ [u]))) rfl ((Upd.refl (One B6) wr).setCell (b := B6) (o := 0) (fun _ => rfl) (.int .i64 (u : Int))) (by rw [hfin, HS.out]; rfl)
            have O9 := Lib.hid o9
            clear hfin o9
            go_wp2_with fail
            have hlt1 := HLT.out
            refine ⟨⟨1, xs ++ [u], by omega, by go_num, HN, O9.out⟩, ?_⟩
            simp only [intOf]; omega
          · have hu5 : u < 18446744073709551616 := hu
            clear hbad hk4 hu
            have hfin := heap_setCell_at (o := 1) H6.out (.int .u64 (u : Int))
            have o9 := Ok.out.store (i := 1) (o' := rndObj (ndX had (xs ++ [u]))) rfl ((Upd.refl (One B6) wr).setCell (b := B6) (o := 1) (fun _ => rfl) (.int .u64 (u : Int))) (by rw [hfin, HS.out]; rfl)
            have O9 := Lib.hid o9
            clear hfin o9
            go_wp2_with fail
            have hlt1 := HLT.out
            refine ⟨⟨2, xs ++ [u], by omega, by go_num, HN, O9.out⟩, ?_⟩
            simp only [intOf]; omega
          · have d2 : decide ((100000 : Int) < (u : Int)) = false := decide_eq_false (by omega)
            have hu5 : u ≤ 100000 := by omega
            have hlh : u < had.length := by omega
            have dl : ((had.length : Int) ≤ (u : Int)) = False := eq_false (by omega)
            have iuh : (u : Int) < (had.length : Int) := by omega
            obtain ⟨hb, ho, rfl, hch⟩ := had_at (HA.out.below Ok.out.below) hlh
            generalize had.getD u 0 = hv at *
            clear hbad hk4 hu
            have hfin := heap_setCell_at (o := 2) H6.out (.int .i64 hv)
            have o9 := Ok.out.store (i := 1) (o' := rndObj (ndX had (xs ++ [u]))) rfl ((Upd.refl (One B6) wr).setCell (b := B6) (o := 2) (fun _ => rfl) (.int .i64 hv)) (by rw [hfin, HS.out]; rfl)
            have O9 := Lib.hid o9
            clear hfin o9
            go_wp2_with fail
            have hlt1 := HLT.out
            refine ⟨⟨3, xs ++ [u], by omega, by go_num, HN, O9.out⟩, ?_⟩
            simp only [intOf]; omega
          · have d2 : decide ((100000 : Int) < (u : Int)) = false := decide_eq_false (by omega)
            have hu5 : u ≤ 100000 := by omega
            have hlh : u < had.length := by omega
            have dl : ((had.length : Int) ≤ (u : Int)) = False := eq_false (by omega)
            have iuh : (u : Int) < (had.length : Int) := by omega
            obtain ⟨hb, ho, rfl, hch⟩ := had_at (HA.out.below Ok.out.below) hlh
            generalize had.getD u 0 = hv at *
            clear hbad hk4 hu
            have hfin := heap_setCell_at (o := 3) H6.out (.int .i64 hv)
            have o9 := Ok.out.store (i := 1) (o' := rndObj (ndX had (xs ++ [u]))) rfl ((Upd.refl (One B6) wr).setCell (b := B6) (o := 3) (fun _ => rfl) (.int .i64 hv)) (by rw [hfin, HS.out]; rfl)
            have O9 := Lib.hid o9
            clear hfin o9
            go_wp2_with fail
            have hlt1 := HLT.out
            refine ⟨⟨4, xs ++ [u], by omega, by go_num, HN, O9.out⟩, ?_⟩
            simp only [intOf]; omega
          · have d2 : decide ((100000 : Int) < (u : Int)) = false := decide_eq_false (by omega)
            have hu5 : u ≤ 100000 := by omega
            have hlh : u < had.length := by omega
            have dl : ((had.length : Int) ≤ (u : Int)) = False := eq_false (by omega)
            have iuh : (u : Int) < (had.length : Int) := by omega
            obtain ⟨hb, ho, rfl, hch⟩ := had_at (HA.out.below Ok.out.below) hlh
            generalize had.getD u 0 = hv at *
            clear hbad hk4 hu
            have hfin := heap_setCell_at (o := 4) H6.out (.int .i64 hv)
            have o9 := Ok.out.store (i := 1) (o' := rndObj (ndX had (xs ++ [u]))) rfl ((Upd.refl (One B6) wr).setCell (b := B6) (o := 4) (fun _ => rfl) (.int .i64 hv)) (by rw [hfin, HS.out]; rfl)
            have O9 := Lib.hid o9
            clear hfin o9
            go_wp2_with fail
            have hlt1 := HLT.out
            refine ⟨⟨5, xs ++ [u], by omega, by go_num, HN, O9.out⟩, ?_⟩
            simp only [intOf]; omega
    · obtain rfl : k = ws.length := by omega
      have HD := Lib.hid hso.out.done
      have hMb : -1 ≤ manyI (ndX had xs).kind ∧ manyI (ndX had xs).kind ≤ 3 := by
        unfold manyI; have := many_le (ndX had xs).kind; split <;> omega
      have hfin := set5_heap H4.out (ndX had xs)
      have hbel := (set5_own Ok.out (i := 2) rfl (ndX had xs)).below
      unfold set5 rndObj at hfin
      unfold set5 at hbel
      have k6 := RNdAt.cells (n := ndX had xs) (show (set5 wr B4 (ndX had xs)).drew.heap[B6]? = some (rndObj (ndX had xs)) from heapO (heapO (heapO (heapO (heapO H6.out n64) n64) n64) n64) n64)
      unfold set5 at k6
      have K6 := Lib.hid k6
      clear k6
      have HF := Lib.hid hfin
      have HBel := Lib.hid hbel
      clear hfin hbel hso hk hlt
      generalize ndX had xs = nx at *
      have HM := Lib.hid (show ∀ w, Calls Tryz.prog 52 #[.int .i64 nx.kind] w (fun e w' => e = .returned (.int .i64 (manyI nx.kind)) ∧ w = w') from fun w => rMany_calls nx.kind w)
      generalize hMM : manyI nx.kind = M at *
      have HMM := Lib.hid hMM
      clear hMM
      have hm : M = -1 ∨ M = 0 ∨ M = 1 ∨ M = 2 ∨ M = 3 := by omega
      clear hMb
      have hwl2 : ws.length ≤ 10001 := hwl
      rcases hm with rfl | rfl | rfl | rfl | rfl
      · by_cases hA : (ws.length : Int) = 1
        · have e1 : ((ws.length : Int) == 1) = true := by rw [beq_iff_eq]; exact hA
          have e2 : ((ws.length : Int) == IntKind.i64.wrap 1) = true := e1
          have Hno := Lib.hid (show ∀ m, ¬ NodeOk had ws m from fun m h => by
            obtain ⟨rfl, h1, h2⟩ := (HD.out m).1 h
            rw [HMM.out] at h1 h2; omega)
          clear hA
          go_wp2_with fail
          first | (go_region_held3 (fun w' => w'.cell? ⟨B6, 0, none⟩ = some (.int .i64 nx.kind) ∧ w'.cell? ⟨B6, 1, none⟩ = some (.int .u64 nx.n) ∧ w'.cell? ⟨B6, 2, none⟩ = some (.int .i64 nx.a) ∧ w'.cell? ⟨B6, 3, none⟩ = some (.int .i64 nx.b) ∧ w'.cell? ⟨B6, 4, none⟩ = some (.int .i64 nx.c)) (first | with_reducible exact K6.out | go_keep) (first | (go_at_call 52; refine (HM.out _).mono ?_; rintro e wp ⟨rfl, rfl⟩))) | fail
          all_goals go_wp2_with fail
          all_goals refine bodyPost_ret (v := .tuple #[nx.val, .bool false]) (by simp [results, Tryz.results33, go_sem, Nd.val, cell_of_heap HF.out]) rfl ?_
          all_goals exact ⟨nx, false, rfl, HBel.out.drew, (fun h => by cases h), fun m h => absurd h (Hno.out m)⟩
        · have e1 : ((ws.length : Int) == 1) = false := by rw [beq_eq_false_iff_ne]; exact hA
          have e2 : ((ws.length : Int) == IntKind.i64.wrap 1) = false := e1
          have Hno := Lib.hid (show ∀ m, ¬ NodeOk had ws m from fun m h => by
            obtain ⟨rfl, h1, h2⟩ := (HD.out m).1 h
            rw [HMM.out] at h1 h2; omega)
          clear hA
          go_wp2_with fail
          first | (go_region_held3 (fun w' => w'.cell? ⟨B6, 0, none⟩ = some (.int .i64 nx.kind) ∧ w'.cell? ⟨B6, 1, none⟩ = some (.int .u64 nx.n) ∧ w'.cell? ⟨B6, 2, none⟩ = some (.int .i64 nx.a) ∧ w'.cell? ⟨B6, 3, none⟩ = some (.int .i64 nx.b) ∧ w'.cell? ⟨B6, 4, none⟩ = some (.int .i64 nx.c)) (first | with_reducible exact K6.out | go_keep) (first | (go_at_call 52; refine (HM.out _).mono ?_; rintro e wp ⟨rfl, rfl⟩))) | fail
          all_goals go_wp2_with fail
          all_goals refine bodyPost_ret (v := .tuple #[nx.val, .bool false]) (by simp [results, Tryz.results33, go_sem, Nd.val, cell_of_heap HF.out]) rfl ?_
          all_goals exact ⟨nx, false, rfl, HBel.out.drew, (fun h => by cases h), fun m h => absurd h (Hno.out m)⟩
      · by_cases hA : (ws.length : Int) = 2
        · have e1 : ((ws.length : Int) == 2) = true := by rw [beq_iff_eq]; exact hA
          have e2 : ((ws.length : Int) == IntKind.i64.wrap 2) = true := e1
          have Hok := Lib.hid (show NodeOk had ws nx from (HD.out nx).2 ⟨rfl, by rw [HMM.out, hA]; rfl, by rw [HMM.out]; decide⟩)
          clear hA
          go_wp2_with fail
          first | (go_region_held3 (fun w' => w'.cell? ⟨B6, 0, none⟩ = some (.int .i64 nx.kind) ∧ w'.cell? ⟨B6, 1, none⟩ = some (.int .u64 nx.n) ∧ w'.cell? ⟨B6, 2, none⟩ = some (.int .i64 nx.a) ∧ w'.cell? ⟨B6, 3, none⟩ = some (.int .i64 nx.b) ∧ w'.cell? ⟨B6, 4, none⟩ = some (.int .i64 nx.c)) (first | with_reducible exact K6.out | go_keep) (first | (go_at_call 52; refine (HM.out _).mono ?_; rintro e wp ⟨rfl, rfl⟩))) | fail
          all_goals go_wp2_with fail
          all_goals refine bodyPost_ret (v := .tuple #[nx.val, .bool true]) (by simp [results, Tryz.results33, go_sem, Nd.val, cell_of_heap HF.out]) rfl ?_
          all_goals exact ⟨nx, true, rfl, HBel.out.drew, fun _ => Hok.out, fun m h => ⟨rfl, ((HD.out m).1 h).1.symm⟩⟩
        · have e1 : ((ws.length : Int) == 2) = false := by rw [beq_eq_false_iff_ne]; exact hA
          have e2 : ((ws.length : Int) == IntKind.i64.wrap 2) = false := e1
          have Hno := Lib.hid (show ∀ m, ¬ NodeOk had ws m from fun m h => by
            obtain ⟨rfl, h1, h2⟩ := (HD.out m).1 h
            rw [HMM.out] at h1 h2; omega)
          clear hA
          go_wp2_with fail
          first | (go_region_held3 (fun w' => w'.cell? ⟨B6, 0, none⟩ = some (.int .i64 nx.kind) ∧ w'.cell? ⟨B6, 1, none⟩ = some (.int .u64 nx.n) ∧ w'.cell? ⟨B6, 2, none⟩ = some (.int .i64 nx.a) ∧ w'.cell? ⟨B6, 3, none⟩ = some (.int .i64 nx.b) ∧ w'.cell? ⟨B6, 4, none⟩ = some (.int .i64 nx.c)) (first | with_reducible exact K6.out | go_keep) (first | (go_at_call 52; refine (HM.out _).mono ?_; rintro e wp ⟨rfl, rfl⟩))) | fail
          all_goals go_wp2_with fail
          all_goals refine bodyPost_ret (v := .tuple #[nx.val, .bool false]) (by simp [results, Tryz.results33, go_sem, Nd.val, cell_of_heap HF.out]) rfl ?_
          all_goals exact ⟨nx, false, rfl, HBel.out.drew, (fun h => by cases h), fun m h => absurd h (Hno.out m)⟩
      · by_cases hA : (ws.length : Int) = 3
        · have e1 : ((ws.length : Int) == 3) = true := by rw [beq_iff_eq]; exact hA
          have e2 : ((ws.length : Int) == IntKind.i64.wrap 3) = true := e1
          have Hok := Lib.hid (show NodeOk had ws nx from (HD.out nx).2 ⟨rfl, by rw [HMM.out, hA]; rfl, by rw [HMM.out]; decide⟩)
          clear hA
          go_wp2_with fail
          first | (go_region_held3 (fun w' => w'.cell? ⟨B6, 0, none⟩ = some (.int .i64 nx.kind) ∧ w'.cell? ⟨B6, 1, none⟩ = some (.int .u64 nx.n) ∧ w'.cell? ⟨B6, 2, none⟩ = some (.int .i64 nx.a) ∧ w'.cell? ⟨B6, 3, none⟩ = some (.int .i64 nx.b) ∧ w'.cell? ⟨B6, 4, none⟩ = some (.int .i64 nx.c)) (first | with_reducible exact K6.out | go_keep) (first | (go_at_call 52; refine (HM.out _).mono ?_; rintro e wp ⟨rfl, rfl⟩))) | fail
          all_goals go_wp2_with fail
          all_goals refine bodyPost_ret (v := .tuple #[nx.val, .bool true]) (by simp [results, Tryz.results33, go_sem, Nd.val, cell_of_heap HF.out]) rfl ?_
          all_goals exact ⟨nx, true, rfl, HBel.out.drew, fun _ => Hok.out, fun m h => ⟨rfl, ((HD.out m).1 h).1.symm⟩⟩
        · have e1 : ((ws.length : Int) == 3) = false := by rw [beq_eq_false_iff_ne]; exact hA
          have e2 : ((ws.length : Int) == IntKind.i64.wrap 3) = false := e1
          have Hno := Lib.hid (show ∀ m, ¬ NodeOk had ws m from fun m h => by
            obtain ⟨rfl, h1, h2⟩ := (HD.out m).1 h
            rw [HMM.out] at h1 h2; omega)
          clear hA
          go_wp2_with fail
          first | (go_region_held3 (fun w' => w'.cell? ⟨B6, 0, none⟩ = some (.int .i64 nx.kind) ∧ w'.cell? ⟨B6, 1, none⟩ = some (.int .u64 nx.n) ∧ w'.cell? ⟨B6, 2, none⟩ = some (.int .i64 nx.a) ∧ w'.cell? ⟨B6, 3, none⟩ = some (.int .i64 nx.b) ∧ w'.cell? ⟨B6, 4, none⟩ = some (.int .i64 nx.c)) (first | with_reducible exact K6.out | go_keep) (first | (go_at_call 52; refine (HM.out _).mono ?_; rintro e wp ⟨rfl, rfl⟩))) | fail
          all_goals go_wp2_with fail
          all_goals refine bodyPost_ret (v := .tuple #[nx.val, .bool false]) (by simp [results, Tryz.results33, go_sem, Nd.val, cell_of_heap HF.out]) rfl ?_
          all_goals exact ⟨nx, false, rfl, HBel.out.drew, (fun h => by cases h), fun m h => absurd h (Hno.out m)⟩
      · by_cases hA : (ws.length : Int) = 4
        · have e1 : ((ws.length : Int) == 4) = true := by rw [beq_iff_eq]; exact hA
          have e2 : ((ws.length : Int) == IntKind.i64.wrap 4) = true := e1
          have Hok := Lib.hid (show NodeOk had ws nx from (HD.out nx).2 ⟨rfl, by rw [HMM.out, hA]; rfl, by rw [HMM.out]; decide⟩)
          clear hA
          go_wp2_with fail
          first | (go_region_held3 (fun w' => w'.cell? ⟨B6, 0, none⟩ = some (.int .i64 nx.kind) ∧ w'.cell? ⟨B6, 1, none⟩ = some (.int .u64 nx.n) ∧ w'.cell? ⟨B6, 2, none⟩ = some (.int .i64 nx.a) ∧ w'.cell? ⟨B6, 3, none⟩ = some (.int .i64 nx.b) ∧ w'.cell? ⟨B6, 4, none⟩ = some (.int .i64 nx.c)) (first | with_reducible exact K6.out | go_keep) (first | (go_at_call 52; refine (HM.out _).mono ?_; rintro e wp ⟨rfl, rfl⟩))) | fail
          all_goals go_wp2_with fail
          all_goals refine bodyPost_ret (v := .tuple #[nx.val, .bool true]) (by simp [results, Tryz.results33, go_sem, Nd.val, cell_of_heap HF.out]) rfl ?_
          all_goals exact ⟨nx, true, rfl, HBel.out.drew, fun _ => Hok.out, fun m h => ⟨rfl, ((HD.out m).1 h).1.symm⟩⟩
        · have e1 : ((ws.length : Int) == 4) = false := by rw [beq_eq_false_iff_ne]; exact hA
          have e2 : ((ws.length : Int) == IntKind.i64.wrap 4) = false := e1
          have Hno := Lib.hid (show ∀ m, ¬ NodeOk had ws m from fun m h => by
            obtain ⟨rfl, h1, h2⟩ := (HD.out m).1 h
            rw [HMM.out] at h1 h2; omega)
          clear hA
          go_wp2_with fail
          first | (go_region_held3 (fun w' => w'.cell? ⟨B6, 0, none⟩ = some (.int .i64 nx.kind) ∧ w'.cell? ⟨B6, 1, none⟩ = some (.int .u64 nx.n) ∧ w'.cell? ⟨B6, 2, none⟩ = some (.int .i64 nx.a) ∧ w'.cell? ⟨B6, 3, none⟩ = some (.int .i64 nx.b) ∧ w'.cell? ⟨B6, 4, none⟩ = some (.int .i64 nx.c)) (first | with_reducible exact K6.out | go_keep) (first | (go_at_call 52; refine (HM.out _).mono ?_; rintro e wp ⟨rfl, rfl⟩))) | fail
          all_goals go_wp2_with fail
          all_goals refine bodyPost_ret (v := .tuple #[nx.val, .bool false]) (by simp [results, Tryz.results33, go_sem, Nd.val, cell_of_heap HF.out]) rfl ?_
          all_goals exact ⟨nx, false, rfl, HBel.out.drew, (fun h => by cases h), fun m h => absurd h (Hno.out m)⟩
      · by_cases hA : (ws.length : Int) = 5
        · have e1 : ((ws.length : Int) == 5) = true := by rw [beq_iff_eq]; exact hA
          have e2 : ((ws.length : Int) == IntKind.i64.wrap 5) = true := e1
          have Hok := Lib.hid (show NodeOk had ws nx from (HD.out nx).2 ⟨rfl, by rw [HMM.out, hA]; rfl, by rw [HMM.out]; decide⟩)
          clear hA
          go_wp2_with fail
          first | (go_region_held3 (fun w' => w'.cell? ⟨B6, 0, none⟩ = some (.int .i64 nx.kind) ∧ w'.cell? ⟨B6, 1, none⟩ = some (.int .u64 nx.n) ∧ w'.cell? ⟨B6, 2, none⟩ = some (.int .i64 nx.a) ∧ w'.cell? ⟨B6, 3, none⟩ = some (.int .i64 nx.b) ∧ w'.cell? ⟨B6, 4, none⟩ = some (.int .i64 nx.c)) (first | with_reducible exact K6.out | go_keep) (first | (go_at_call 52; refine (HM.out _).mono ?_; rintro e wp ⟨rfl, rfl⟩))) | fail
          all_goals go_wp2_with fail
          all_goals refine bodyPost_ret (v := .tuple #[nx.val, .bool true]) (by simp [results, Tryz.results33, go_sem, Nd.val, cell_of_heap HF.out]) rfl ?_
          all_goals exact ⟨nx, true, rfl, HBel.out.drew, fun _ => Hok.out, fun m h => ⟨rfl, ((HD.out m).1 h).1.symm⟩⟩
        · have e1 : ((ws.length : Int) == 5) = false := by rw [beq_eq_false_iff_ne]; exact hA
          have e2 : ((ws.length : Int) == IntKind.i64.wrap 5) = false := e1
          have Hno := Lib.hid (show ∀ m, ¬ NodeOk had ws m from fun m h => by
            obtain ⟨rfl, h1, h2⟩ := (HD.out m).1 h
            rw [HMM.out] at h1 h2; omega)
          clear hA
          go_wp2_with fail
          first | (go_region_held3 (fun w' => w'.cell? ⟨B6, 0, none⟩ = some (.int .i64 nx.kind) ∧ w'.cell? ⟨B6, 1, none⟩ = some (.int .u64 nx.n) ∧ w'.cell? ⟨B6, 2, none⟩ = some (.int .i64 nx.a) ∧ w'.cell? ⟨B6, 3, none⟩ = some (.int .i64 nx.b) ∧ w'.cell? ⟨B6, 4, none⟩ = some (.int .i64 nx.c)) (first | with_reducible exact K6.out | go_keep) (first | (go_at_call 52; refine (HM.out _).mono ?_; rintro e wp ⟨rfl, rfl⟩))) | fail
          all_goals go_wp2_with fail
          all_goals refine bodyPost_ret (v := .tuple #[nx.val, .bool false]) (by simp [results, Tryz.results33, go_sem, Nd.val, cell_of_heap HF.out]) rfl ?_
          all_goals exact ⟨nx, false, rfl, HBel.out.drew, (fun h => by cases h), fun m h => absurd h (Hno.out m)⟩
end Go.Proofs.YtfelbecofbdeaaaGreatDoor
