/- DeviceSame answers true. -/
import Derived.Test.YtfelbecofbdeaaaGreatDoorDTextsW
namespace Go.Proofs.YtfelbecofbdeaaaGreatDoor
open Go.RowKit

set_option warningAsError false in
set_option maxHeartbeats 6400000 in
set_option maxRecDepth 100000 in
theorem dsame_walk (policy : Int) (Ax : Option Addr) (cx : Nat) (xs : List Nd) (Ao : Option Addr) (co : Nat) (os : List (Int × Int × Int)) (pub : Int) (w : World) (hx : Holds w Ax (xs.flatMap Nd.cells)) (hmx : xs.length ≤ maxLen) (hu : ∀ x ∈ xs, x.u64) (ho : Holds w Ao (os.flatMap three)) (hmo : os.length ≤ maxLen) (he : Env w) :
    Calls Tryz.prog 4 #[.int .i64 policy, .slice Ax xs.length cx, .slice Ao os.length co, .int .i64 pub] w fun e w' => e = .returned (.bool true) ∧ Below w.heap.size w w' := by
  have Hx := Lib.hid hx
  have Hu := Lib.hid hu
  have Ho := Lib.hid ho
  have HE := Lib.hid he
  clear hx hu ho he
  have hmx2 : xs.length ≤ 9223372036854775807 := by unfold maxLen at hmx; omega
  have hmo2 : os.length ≤ 9223372036854775807 := by unfold maxLen at hmo; omega
  by_cases hbad : 30 < os.length ∨ 30 < xs.length ∨ policy < 0 ∨ 2 < policy
  · have hd : (decide (30 < os.length) = true ∧ decide ((30 : Int) < (os.length : Int)) = true) ∨ (decide (30 < os.length) = false ∧ decide ((30 : Int) < (os.length : Int)) = false) ∧
        ((decide (30 < xs.length) = true ∧ decide ((30 : Int) < (xs.length : Int)) = true) ∨ (decide (30 < xs.length) = false ∧ decide ((30 : Int) < (xs.length : Int)) = false) ∧
          (decide (policy < 0) = true ∨ decide (policy < 0) = false ∧ decide (2 < policy) = true)) := by
      by_cases h1 : 30 < os.length
      · exact .inl ⟨decide_eq_true h1, decide_eq_true (by omega)⟩
      · refine .inr ⟨⟨decide_eq_false h1, decide_eq_false (by omega)⟩, ?_⟩
        by_cases h2 : 30 < xs.length
        · exact .inl ⟨decide_eq_true h2, decide_eq_true (by omega)⟩
        · refine .inr ⟨⟨decide_eq_false h2, decide_eq_false (by omega)⟩, ?_⟩
          by_cases h3 : policy < 0
          · exact .inl (decide_eq_true h3)
          · exact .inr ⟨decide_eq_false h3, decide_eq_true (by omega)⟩
    clear hbad
    rcases hd with ⟨d1, d2⟩ | ⟨⟨d1, d2⟩, ⟨d3, d4⟩ | ⟨⟨d3, d4⟩, d5 | ⟨d5, d6⟩⟩⟩
    all_goals
      go_enter Tryz.func4, Tryz.ntmps4
      go_wp2_with fail
      refine (awake15 _).mono ?_
      rintro e w9 ⟨rfl, b9⟩
      go_wp2_with fail
      go_ret
      exact ⟨rfl, b9⟩
  · have d1 : decide (30 < os.length) = false := decide_eq_false (by omega)
    have d2 : decide ((30 : Int) < (os.length : Int)) = false := decide_eq_false (by omega)
    have d3 : decide (30 < xs.length) = false := decide_eq_false (by omega)
    have d4 : decide ((30 : Int) < (xs.length : Int)) = false := decide_eq_false (by omega)
    have d5 : decide (policy < 0) = false := decide_eq_false (by omega)
    have d6 : decide (2 < policy) = false := decide_eq_false (by omega)
    have hl : os.length ≤ 30 := by omega
    have hlx : xs.length ≤ 30 := by omega
    obtain ⟨pn, rfl⟩ := Int.eq_ofNat_of_zero_le (show 0 ≤ policy by omega)
    have hpn : pn ≤ 2 := by omega
    clear hbad
    have hok := bA_ok 100 xs Hu.out
    have hlim : (bA 100 xs).limit = 100 := hok.2.2
    have HA := Lib.hid (show ArOk (bA 100 xs) ∧ (bA 100 xs).l.length ≤ 31 ∧ (bA 100 xs).limit = 100 from ⟨hok.1, by have := hok.2.1; omega, hlim⟩)
    clear hok hlim
    go_enter Tryz.func4, Tryz.ntmps4
    go_wp2_with fail
    refine (built_calls w 100 Ax cx xs Hx.out (by omega) Hu.out).mono ?_
    rintro e w1 ⟨r, g, cap, rfl, o1⟩
    generalize bA 100 xs = A at *
    have O1 := Lib.hid (o1.alloc (refObj A g cap))
    clear o1
    simp only [refV]
    go_wp2_with fail
    generalize w1.heap.size = B at *
    refine (run2_calls _ 7 pn (by decide) (by omega) (by omega) Ao co os (Ho.out.below O1.out.below) hl).mono ?_
    rintro e w2 ⟨d, r1, r2, v, D, l, rfl, hinv, ⟨hpol, hid7, hsec1⟩, o2⟩
    have O2 : Hid (Own w w2 (TextsL [] d r1 r2 D v l B g cap r A)) := Lib.hid (O1.out.join o2)
    have Hinv := Lib.hid hinv
    have hlen := hinv.inv.len
    have Hpol := Lib.hid (And.intro hpol hid7)
    clear O1 o2 hinv hpol hid7 hsec1
    obtain ⟨Av, cv, rfl⟩ := row_form' (O2.out.row (i := 0) rfl)
    go_wp2_with fail
    go_loopw [69] (fun i wr => ∃ k : Nat, k ≤ l.length ∧ i = .int .i64 k ∧ Own w wr (TextsL [] d r1 r2 D (.slice Av l.length cv) l B g cap r A) ∧ Hid (∀ p ∈ l.take k, has A.l p.key = true ∧ (0 < p.psk → has A.l p.psk = true)))
      (fun i _ => l.length - (intOf i).toNat)
    case atStart => exact ⟨0, by omega, rfl, O2.out, Lib.hid (by simp)⟩
    case round =>
      clear O2
      obtain ⟨k, hk, rfl, ok, href⟩ := hrel
      have Ok := Lib.hid ok
      by_cases hlt : k < l.length
      · obtain ⟨p, hp⟩ : ∃ p, l[k]? = some p := ⟨_, List.getElem?_eq_getElem hlt⟩
        have hik : (k : Int) < l.length := by omega
        have Htk := Lib.hid (show l.take (k + 1) = l.take k ++ [p] by rw [List.take_add_one, hp]; rfl)
        obtain ⟨ag, rfl, c0, c1, c2⟩ : ∃ b, Av = some ⟨b, 0, none⟩ ∧ (wr.cell? ⟨b, k * 3, none⟩ = some (.int .i64 p.id) ∧ wr.cell? ⟨b, k * 3 + 1, none⟩ = some (.int .i64 p.key) ∧ wr.cell? ⟨b, k * 3 + 2, none⟩ = some (.int .i64 p.psk)) := by
          have hP : PeersAt wr 0 (.slice Av l.length cv) l := ok.row (i := 0) rfl
          rcases hP.nil with ⟨_, h2⟩ | ⟨g', c', h2⟩
          · rw [h2] at hlt; cases hlt
          · cases h2; exact ⟨g', rfl, hP.peer hp⟩
        have Hlt := Lib.hid hlt
        clear hlt hp hk ok
        go_upto_region 10 with fail
        have O2 := Lib.hid (Ok.out.alloc (.cells #[.int .i64 p.id, .int .i64 p.key, .int .i64 p.psk] 44))
        generalize hWW : wr.alloc (.cells #[.int .i64 p.id, .int .i64 p.key, .int .i64 p.psk] 44) = W at *
        generalize hX : wr.heap.size = X at *
        clear hWW hX c0 c1 c2 Ok
        obtain ⟨x0, x1, x2⟩ : W.cell? ⟨X, 0, none⟩ = some (.int .i64 p.id) ∧ W.cell? ⟨X, 1, none⟩ = some (.int .i64 p.key) ∧ W.cell? ⟨X, 2, none⟩ = some (.int .i64 p.psk) := ⟨cell_of_heap (O2.out.blk (i := 0) rfl), cell_of_heap (O2.out.blk (i := 0) rfl), cell_of_heap (O2.out.blk (i := 0) rfl)⟩
        obtain ⟨b0, b1⟩ := refObj_cells' (O2.out.blk (i := 5) rfl)
        go_wp2_with fail
        refine (rHas_calls A g cap p.key _).mono ?_
        rintro e wh ⟨rfl, bh⟩
        have Oh := Lib.hid (O2.out.call bh)
        clear x0 x1 x2 b0 b1 bh O2
        obtain ⟨x0, x1, x2⟩ : wh.cell? ⟨X, 0, none⟩ = some (.int .i64 p.id) ∧ wh.cell? ⟨X, 1, none⟩ = some (.int .i64 p.key) ∧ wh.cell? ⟨X, 2, none⟩ = some (.int .i64 p.psk) := ⟨cell_of_heap (Oh.out.blk (i := 0) rfl), cell_of_heap (Oh.out.blk (i := 0) rfl), cell_of_heap (Oh.out.blk (i := 0) rfl)⟩
        obtain ⟨b0, b1⟩ := refObj_cells' (Oh.out.blk (i := 5) rfl)
        cases hk1 : has A.l p.key with
        | false =>
          go_wp2_with fail
          refine (awake15 _).mono ?_
          rintro e w9 ⟨rfl, b9⟩
          go_wp2_with fail
          go_ret
          exact ⟨rfl, (Oh.out.call b9).below⟩
        | true =>
          by_cases hps : 0 < p.psk
          · have dps : decide (0 < p.psk) = true := decide_eq_true hps
            clear hps
            go_wp2_with fail
            refine (rHas_calls A g cap p.psk _).mono ?_
            rintro e wi ⟨rfl, bi⟩
            have Oi := Lib.hid (Oh.out.call bi)
            clear x0 x1 x2 b0 b1 bi Oh
            cases hk2 : has A.l p.psk with
            | false =>
              go_wp2_with fail
              refine (awake15 _).mono ?_
              rintro e w9 ⟨rfl, b9⟩
              go_wp2_with fail
              go_ret
              exact ⟨rfl, (Oi.out.call b9).below⟩
            | true =>
              go_wp2_with fail
              go_roundw
              case rel =>
                have hlt1 := Hlt.out
                refine ⟨k + 1, by omega, by go_num, Oi.out.tail, Lib.hid fun q hq => ?_⟩
                rw [Htk.out] at hq
                rcases List.mem_append.1 hq with hq | hq
                · exact href.out q hq
                · obtain rfl : q = p := by simpa using hq
                  exact ⟨hk1, fun _ => hk2⟩
              case measure => have hlt1 := Hlt.out; simp only [intOf]; omega
          · have dps : decide (0 < p.psk) = false := decide_eq_false hps
            have Hps := Lib.hid (show p.psk ≤ 0 by omega)
            clear hps
            go_wp2_with fail
            go_roundw
            case rel =>
              have hlt1 := Hlt.out
              refine ⟨k + 1, by omega, by go_num, Oh.out.tail, Lib.hid fun q hq => ?_⟩
              rw [Htk.out] at hq
              rcases List.mem_append.1 hq with hq | hq
              · exact href.out q hq
              · obtain rfl : q = p := by simpa using hq
                exact ⟨hk1, fun h => absurd h (by have := Hps.out; omega)⟩
            case measure => have hlt1 := Hlt.out; simp only [intOf]; omega
      · obtain rfl : k = l.length := by omega
        have hall : l.take l.length = l := List.take_length
        have hTD : textP A.l 7 pn (prs l) D.psks = textD A.l 7 pn (itemsP l) := by unfold textP; rw [itemsD_prs Hinv.out.psks]
        rw [hall] at href
        have HTD := Lib.hid hTD
        have hP := Hinv.out.inv.peers
        have HPrs := Lib.hid Hinv.out.prs
        have HPsk := Lib.hid Hinv.out.psks
        have hprsf : ∀ p ∈ prs l, 0 ≤ p.1 ∧ p.1 ≤ 999 := fun p hp => by
          simp only [prs, List.mem_map] at hp
          obtain ⟨q, hq, rfl⟩ := hp
          have := Hinv.out.fits q hq; exact ⟨this.1, this.2.1⟩
        have hndp : ((prs l).map (·.1)).Nodup := by have := Hinv.out.inv.nodup; simpa [prs, Function.comp_def] using this
        have hpl8 : (prs l).length ≤ 8 := by simpa [prs] using hlen
        have HPF := Lib.hid (And.intro hprsf (And.intro hndp hpl8))
        have Hread := Lib.hid (show ∀ i ∈ itemsP l, readA A (strO (text A.l i.2.2)) = (A, i.2.2, 0) from fun i hi => by
          have hh : has A.l i.2.2 = true := by
            unfold itemsP at hi
            rw [List.mem_flatMap] at hi
            obtain ⟨q, hq, h⟩ := hi
            have hr := href.out q hq
            rcases List.mem_cons.1 h with rfl | h
            · exact hr.1
            · split at h
              · rename_i h0; simp at h; subst h; exact hr.2 h0
              · cases h
          exact read_self HA.out.1 (by have := HA.out.2.1; omega) (by have h1 := HA.out.2.1; have h2 := HA.out.2.2; omega) hh)
        clear hk hlt ok href hall hTD hprsf hndp hpl8
        obtain ⟨did, dsec, dpol, dpe, dps⟩ := D
        simp only at hP
        subst hP
        obtain ⟨rfl, rfl⟩ : dpol = (pn : Int) ∧ did = 7 := Hpol.out
        dsimp only at *
        go_wp2_with fail
        refine (dText_calls Ok.out HE.out 1 3 2 6 rfl rfl rfl rfl 7 pn rfl rfl (by omega) (by omega) HPF.out.1 HPF.out.2.1 HPF.out.2.2 HA.out.1.wf (by have := HA.out.2.1; omega)).mono ?_
        rintro e w3 ⟨rfl, o3⟩
        dsimp only
        rw [HTD.out]
        have O3 := Lib.hid o3
        have HDR := Lib.hid (fun (w' : World) (L : List Thing) (h : Own w w' L) (m : Nat) (hm : L[m]? = some (arena r A)) => dRead_calls h HE.out m hm 7 pn 1 (by simp [mayD, namedP]; omega) (by omega) (by omega) l HPrs.out HA.out.1.wf (by have := HA.out.2.1; omega) Hread.out)
        generalize strO (textD A.l 7 pn (itemsP l)) = S0 at *
        clear o3 Ok
        go_wp2_with fail
        refine (HDR.out _ _ O3.out 6 rfl).mono ?_
        rintro e w4 ⟨d3, r5, r6, rfl, o4⟩
        have O4 := Lib.hid o4
        clear o4 O3
        have hacc : accD ⟨7, dsec, pn, prs l, dps⟩ pub = accD ⟨7, 1, pn, prs l, pks l⟩ pub := rfl
        obtain ⟨S1, hs1⟩ := O4.out.storeAt (i := 6) rfl
        have HA1 := Lib.hid (acc_calls (D := ⟨7, dsec, pn, prs l, dps⟩) (O4.out.blk (i := 4) rfl) hs1 pub)
        clear hs1
        go_wp2_with fail
        refine HA1.out.mono ?_
        rintro e w5 ⟨rfl, b5⟩
        have O5 := Lib.hid (O4.out.call b5)
        obtain ⟨S2, hs2⟩ := O5.out.storeAt (i := 2) rfl
        have HA2 := Lib.hid (acc_calls (D := ⟨7, 1, pn, prs l, pks l⟩) (O5.out.blk (i := 0) rfl) hs2 pub)
        clear hs2 b5 O4 HA1
        rw [hacc]
        go_wp2_with fail
        refine HA2.out.mono ?_
        rintro e w6 ⟨rfl, b6⟩
        have O6 := Lib.hid (O5.out.call b6)
        clear b6 O5 HA2 hacc
        generalize accD ⟨7, 1, pn, prs l, pks l⟩ pub = ac at *
        obtain ⟨ai, ae⟩ := ac
        dsimp only
        go_wp2_with fail
        go_loopw [120] (fun i wr => ∃ k : Nat, k ≤ l.length ∧ i = .int .i64 k ∧ Own w wr (blk d3 (devObj ⟨7, 1, pn, prs l, pks l⟩ r5 r6) :: storeT r6 (stI (pks l)) :: storeT r5 (stI (prs l)) :: TextsL [] d r1 r2 ⟨7, dsec, pn, prs l, dps⟩ (.slice Av l.length cv) l B g cap r A))
          (fun i _ => l.length - (intOf i).toNat)
        case atStart => exact ⟨0, by omega, rfl, O6.out⟩
        case round =>
          clear O6
          obtain ⟨k, hk, rfl, ok⟩ := hrel
          have Ok := Lib.hid ok
          by_cases hlt : k < l.length
          · obtain ⟨p, hp⟩ : ∃ p, l[k]? = some p := ⟨_, List.getElem?_eq_getElem hlt⟩
            have hik : (k : Int) < l.length := by omega
            have hpm := List.mem_of_getElem? hp
            obtain ⟨ag, rfl, c0, c1, c2⟩ : ∃ b, Av = some ⟨b, 0, none⟩ ∧ (wr.cell? ⟨b, k * 3, none⟩ = some (.int .i64 p.id) ∧ wr.cell? ⟨b, k * 3 + 1, none⟩ = some (.int .i64 p.key) ∧ wr.cell? ⟨b, k * 3 + 2, none⟩ = some (.int .i64 p.psk)) := by
              have hP : PeersAt wr 0 (.slice Av l.length cv) l := ok.row (i := 3) rfl
              rcases hP.nil with ⟨_, h2⟩ | ⟨g', c', h2⟩
              · rw [h2] at hlt; cases hlt
              · cases h2; exact ⟨g', rfl, hP.peer hp⟩
            have Hlt := Lib.hid hlt
            have hq1 : lk p.id dps = pskOf p := HPsk.out p hpm
            have hq2 : lk p.id (pks l) = pskOf p := lk_pks HPrs.out.ids p hpm
            have hq3 : lk p.id (prs l) = some p.key := lk_mem HPF.out.2.1 (p.id, p.key) (by unfold prs; exact List.mem_map.2 ⟨p, hpm, rfl⟩)
            clear hlt hp hk ok hpm
            have O7 := Lib.hid (Ok.out.alloc (.cells #[.int .i64 p.id, .int .i64 p.key, .int .i64 p.psk] 44))
            go_wp2_with fail
            generalize hWW : wr.alloc (.cells #[.int .i64 p.id, .int .i64 p.key, .int .i64 p.psk] 44) = W at *
            generalize hX : wr.heap.size = X at *
            clear hWW hX c0 c1 c2 Ok
            obtain ⟨x0, x1, x2⟩ : W.cell? ⟨X, 0, none⟩ = some (.int .i64 p.id) ∧ W.cell? ⟨X, 1, none⟩ = some (.int .i64 p.key) ∧ W.cell? ⟨X, 2, none⟩ = some (.int .i64 p.psk) := ⟨cell_of_heap (O7.out.blk (i := 0) rfl), cell_of_heap (O7.out.blk (i := 0) rfl), cell_of_heap (O7.out.blk (i := 0) rfl)⟩
            obtain ⟨S3, hs3⟩ := O7.out.storeAt (i := 6) rfl
            have hc1 := dPsk_calls (D := ⟨7, dsec, pn, prs l, dps⟩) (O7.out.blk (i := 5) rfl) hs3 p.id
            obtain ⟨S4, hs4⟩ := O7.out.storeAt (i := 2) rfl
            have hc2 := dPsk_calls (D := ⟨7, 1, pn, prs l, pks l⟩) (O7.out.blk (i := 1) rfl) hs4 p.id
            obtain ⟨S5, hs5⟩ := O7.out.storeAt (i := 3) rfl
            have hc3 := peer_calls (D := ⟨7, 1, pn, prs l, pks l⟩) (O7.out.blk (i := 1) rfl) hs5 p.id
            dsimp only at hc1 hc2 hc3
            rw [hq1] at hc1
            rw [hq2] at hc2
            rw [hq3] at hc3
            dsimp only [Option.getD_some, Option.isSome_some] at hc3
            have H1 := Lib.hid hc1
            have H2 := Lib.hid hc2
            have H3 := Lib.hid hc3
            clear hc1 hc2 hc3 hs3 hs4 hs5 hq1 hq2 hq3
            generalize (pskOf p).getD 0 = pv at *
            generalize (pskOf p).isSome = pb at *
            refine H1.out.mono ?_
            rintro e w7 ⟨rfl, rfl⟩
            go_wp2_with fail
            refine H2.out.mono ?_
            rintro e w7 ⟨rfl, rfl⟩
            go_wp2_with fail
            refine H3.out.mono ?_
            rintro e w7 ⟨rfl, rfl⟩
            have hn1 : (pv != pv) = false := by simp
            have hn2 : (p.key != p.key) = false := by simp
            go_wp2_with fail
            go_roundw
            case rel => have hlt1 := Hlt.out; exact ⟨k + 1, by omega, by go_num, O7.out.tail⟩
            case measure => have hlt1 := Hlt.out; simp only [intOf]; omega
          · obtain rfl : k = l.length := by omega
            clear hk hlt ok
            have hn1 : (ai == ai) = true := by simp
            have hn2 : (ae == ae) = true := by simp
            go_wp2_with fail
            refine (awake15 _).mono ?_
            rintro e w9 ⟨rfl, b9⟩
            go_wp2_with fail
            go_ret
            exact ⟨rfl, (Ok.out.call b9).below⟩
end Go.Proofs.YtfelbecofbdeaaaGreatDoor
