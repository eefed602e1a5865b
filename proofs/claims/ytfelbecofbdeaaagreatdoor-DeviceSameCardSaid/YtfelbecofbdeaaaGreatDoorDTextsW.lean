/- DeviceTexts answers true. -/
import Derived.Test.YtfelbecofbdeaaaGreatDoorRun2
import Derived.Test.YtfelbecofbdeaaaGreatDoorRef6
namespace Go.Proofs.YtfelbecofbdeaaaGreatDoor
open Go.RowKit

def prO (p : Pr) : Obj := .cells #[.int .i64 p.id, .int .i64 p.key, .int .i64 p.psk] 44 (0, 0)
theorem prO_cells {w : World} {b : Nat} {p : Pr} (h : w.heap[b]? = some (prO p)) : w.cell? ⟨b, 0, none⟩ = some (.int .i64 p.id) ∧ w.cell? ⟨b, 1, none⟩ = some (.int .i64 p.key) ∧ w.cell? ⟨b, 2, none⟩ = some (.int .i64 p.psk) := ⟨cell_of_heap h, cell_of_heap h, cell_of_heap h⟩
theorem refObj_cells' {w : World} {b : Nat} {A : Ar} {g cap : Nat} (h : w.heap[b]? = some (refObj A g cap)) : w.cell? ⟨b, 0, none⟩ = some (.int .i64 A.limit) ∧ w.cell? ⟨b, 1, none⟩ = some (.slice (some ⟨g, 0, none⟩) A.l.length cap) := RBox.cells h
/-- What the law's loop over the peers adds to the text: the words ahead of a number, the number, a term's text. -/
def pieceL (pre : List UInt8) (n : Nat) (T : List UInt8) : List UInt8 := (((pre ++ digs n) ++ [32]) ++ T) ++ [10]
theorem pieceL_eq (b : Bool) (n : Nat) (T : List UInt8) : pieceL (wordI b ++ [32]) n T = lineB (wordI b) n T ++ [10] := by simp [pieceL, lineB]
theorem piece_runs (pre : List UInt8) (n : Nat) (T T0 : List UInt8) (hp : pre.length ≤ 20) (hn : n ≤ 999) (hT : T.length ≤ 100000) (h0 : T0.length ≤ 1000000) : ∃ s1 s2 s3 s4 : ByteArray,
    (∀ w, (Op.stringOp .add (strO pre) (strO (digs n))).run Tryz.prog w = .ok (.string s1) w) ∧ (∀ w, (Op.stringOp .add s1 ⟨#[32]⟩).run Tryz.prog w = .ok (.string s2) w) ∧ (∀ w, (Op.stringOp .add s2 (strO T)).run Tryz.prog w = .ok (.string s3) w) ∧
    (∀ w, (Op.stringOp .add s3 ⟨#[10]⟩).run Tryz.prog w = .ok (.string s4) w) ∧ ∀ w, (Op.stringOp .add (strO T0) s4).run Tryz.prog w = .ok (.string (strO (T0 ++ pieceL pre n T))) w := by
  have hl := digs_len n (by omega)
  refine ⟨strO (pre ++ digs n), strO ((pre ++ digs n) ++ [32]), strO (((pre ++ digs n) ++ [32]) ++ T), strO ((((pre ++ digs n) ++ [32]) ++ T) ++ [10]), fun w => addS _ _ (by omega) (by omega) w, fun w => addS _ [32] (by simp; omega) (by decide) w, fun w => addS _ _ (by simp; omega) (by omega) w, fun w => addS _ [10] (by simp; omega) (by decide) w, fun w => addS _ _ (by omega) (by simp; omega) w⟩
def TextsL (X : List Thing) (d r1 r2 : Nat) (D : Dv) (v : Value) (l : List Pr) (B g cap r : Nat) (A : Ar) : List Thing := X ++ (runL d r1 r2 D v l ++ [blk B (refObj A g cap), refT g cap A.l, arena r A])
set_option warningAsError false in
set_option maxHeartbeats 6400000 in
set_option maxRecDepth 100000 in
theorem dtexts_walk (policy : Int) (Ax : Option Addr) (cx : Nat) (xs : List Nd) (Ao : Option Addr) (co : Nat) (os : List (Int × Int × Int)) (secret : Int) (w : World) (hx : Holds w Ax (xs.flatMap Nd.cells)) (hmx : xs.length ≤ maxLen) (hu : ∀ x ∈ xs, x.u64) (ho : Holds w Ao (os.flatMap three)) (hmo : os.length ≤ maxLen) (he : Env w) :
    Calls Tryz.prog 5 #[.int .i64 policy, .slice Ax xs.length cx, .slice Ao os.length co, .int .i64 secret] w fun e w' => e = .returned (.bool true) ∧ Below w.heap.size w w' := by
  have Hx := Lib.hid hx
  have Hu := Lib.hid hu
  have Ho := Lib.hid ho
  have HE := Lib.hid he
  clear hx hu ho he
  have hmx2 : xs.length ≤ 9223372036854775807 := by unfold maxLen at hmx; omega
  have hmo2 : os.length ≤ 9223372036854775807 := by unfold maxLen at hmo; omega
  by_cases hbad : 30 < os.length ∨ 30 < xs.length ∨ policy < 0 ∨ 2 < policy ∨ secret < 1
  · have hd : (decide (30 < os.length) = true ∧ decide ((30 : Int) < (os.length : Int)) = true) ∨ (decide (30 < os.length) = false ∧ decide ((30 : Int) < (os.length : Int)) = false) ∧
        ((decide (30 < xs.length) = true ∧ decide ((30 : Int) < (xs.length : Int)) = true) ∨ (decide (30 < xs.length) = false ∧ decide ((30 : Int) < (xs.length : Int)) = false) ∧
          (decide (policy < 0) = true ∨ decide (policy < 0) = false ∧ (decide (2 < policy) = true ∨ decide (2 < policy) = false ∧ decide (secret < 1) = true))) := by
      by_cases h1 : 30 < os.length
      · exact .inl ⟨decide_eq_true h1, decide_eq_true (by omega)⟩
      · refine .inr ⟨⟨decide_eq_false h1, decide_eq_false (by omega)⟩, ?_⟩
        by_cases h2 : 30 < xs.length
        · exact .inl ⟨decide_eq_true h2, decide_eq_true (by omega)⟩
        · refine .inr ⟨⟨decide_eq_false h2, decide_eq_false (by omega)⟩, ?_⟩
          by_cases h3 : policy < 0
          · exact .inl (decide_eq_true h3)
          · by_cases h4 : 2 < policy
            · exact .inr ⟨decide_eq_false h3, .inl (decide_eq_true h4)⟩
            · exact .inr ⟨decide_eq_false h3, .inr ⟨decide_eq_false h4, decide_eq_true (by omega)⟩⟩
    clear hbad
    rcases hd with ⟨d1, d2⟩ | ⟨⟨d1, d2⟩, ⟨d3, d4⟩ | ⟨⟨d3, d4⟩, d5 | ⟨d5, d6 | ⟨d6, d7⟩⟩⟩⟩
    all_goals
      go_enter Tryz.func5, Tryz.ntmps5
      go_wp2_with fail
      refine (awake15 _).mono ?_
      rintro e w9 ⟨rfl, b9⟩
      go_wp2_with fail
      go_ret
      exact ⟨rfl, b9⟩
  · have d1 : decide (30 < os.length) = false := decide_eq_false (by omega)
    have d2 : decide ((30 : Int) < (os.length : Int)) = false := decide_eq_false (by omega)
    have d3 : decide (30 < xs.length) = false := decide_eq_false (by omega)
    have d4 : decide ((30 : Int) < (xs.length : Int)) = false := decide_eq_false (by omega)
    have d5 : decide (policy < 0) = false := decide_eq_false (by omega)
    have d6 : decide (2 < policy) = false := decide_eq_false (by omega)
    have d7 : decide (secret < 1) = false := decide_eq_false (by omega)
    have hl : os.length ≤ 30 := by omega
    have hlx : xs.length ≤ 30 := by omega
    have hsec : 1 ≤ secret := by omega
    obtain ⟨pn, rfl⟩ := Int.eq_ofNat_of_zero_le (show 0 ≤ policy by omega)
    have hpn : pn ≤ 2 := by omega
    clear hbad
    have hok := bA_ok 100 xs Hu.out
    have hlim : (bA 100 xs).limit = 100 := hok.2.2
    have HA := Lib.hid (show ArOk (bA 100 xs) ∧ (bA 100 xs).l.length ≤ 31 ∧ (bA 100 xs).limit = 100 from ⟨hok.1, by have := hok.2.1; omega, hlim⟩)
    clear hok hlim
    go_enter Tryz.func5, Tryz.ntmps5
    go_wp2_with fail
    refine (built_calls w 100 Ax cx xs Hx.out (by omega) Hu.out).mono ?_
    rintro e w1 ⟨r, g, cap, rfl, o1⟩
    generalize bA 100 xs = A at *
    have O1 := Lib.hid (o1.alloc (refObj A g cap))
    clear o1
    simp only [refV]
    go_wp2_with fail
    generalize w1.heap.size = B at *
    refine (run2_calls _ 7 pn (by decide) (by omega) (by omega) Ao co os (Ho.out.below O1.out.below) hl).mono ?_
    rintro e w2 ⟨d, r1, r2, v, D, l, rfl, hinv, ⟨hpol, hid7, hsec1⟩, o2⟩
    have O2 : Hid (Own w w2 (TextsL [] d r1 r2 D v l B g cap r A)) := Lib.hid (O1.out.join o2)
    have Hinv := Lib.hid hinv
    have hlen := hinv.inv.len
    have Hpol := Lib.hid (And.intro hpol hid7)
    clear O1 o2 hinv hpol hid7 hsec1
    go_wp2_with fail
    refine (digits15_calls (pn + 1) pn _ (Nat.lt_succ_self _) (by omega)).mono ?_
    rintro e w3 ⟨rfl, rfl⟩
    have hdp := digs_len pn (by omega)
    obtain ⟨s1, hs1⟩ : ∃ s, s = strO ([100, 101, 118, 105, 99, 101, 32, 55, 32] ++ digs pn) := ⟨_, rfl⟩
    have ha1 : ∀ w, (Op.stringOp .add ⟨#[100, 101, 118, 105, 99, 101, 32, 55, 32]⟩ (strO (digs pn))).run Tryz.prog w = .ok (.string s1) w := fun w => by rw [hs1]; exact addS [100, 101, 118, 105, 99, 101, 32, 55, 32] _ (by decide) (by omega) w
    have ha2 : ∀ w, (Op.stringOp .add s1 ⟨#[10]⟩).run Tryz.prog w = .ok (.string (strO (textP A.l 7 pn [] D.psks))) w := fun w => by
      have h := addS (P := Tryz.prog) ([100, 101, 118, 105, 99, 101, 32, 55, 32] ++ digs pn) [10] (by simp; omega) (by decide) w
      rw [hs1, textP_nil, show headL 7 pn = [100, 101, 118, 105, 99, 101, 32, 55, 32] ++ digs pn by unfold headL lineB; rw [show digs 7 = [55] by decide +kernel]; rfl]
      exact h
    clear hs1 hdp
    have HTL := Lib.hid (fun (k : Nat) => textP_len HA.out.1.wf (by have := HA.out.2.1; omega) 7 pn (by omega) (by omega) D.psks (prs (l.take k)) (fun p hp => by
      simp only [prs, List.mem_map] at hp
      obtain ⟨q, hq, rfl⟩ := hp
      have := Hinv.out.fits q (List.mem_of_mem_take hq); exact ⟨this.1, this.2.1⟩))
    obtain ⟨Av, cv, rfl⟩ := row_form' (O2.out.row (i := 0) rfl)
    go_wp2_with fail
    go_loopw [15, 66] (fun s i wr => ∃ k : Nat, k ≤ l.length ∧ s = .string (strO (textP A.l 7 pn (prs (l.take k)) D.psks)) ∧ i = .int .i64 k ∧ Own w wr (TextsL [] d r1 r2 D (.slice Av l.length cv) l B g cap r A) ∧ Hid (∀ p ∈ l.take k, has A.l p.key = true ∧ (0 < p.psk → has A.l p.psk = true)))
      (fun _ i _ => l.length - (intOf i).toNat)
    case atStart => exact ⟨0, by omega, rfl, rfl, O2.out, Lib.hid (by simp)⟩
    case round =>
      clear O2 ha1 ha2
      obtain ⟨k, hk, rfl, rfl, ok, href⟩ := hrel
      have Ok := Lib.hid ok
      have hT0 : (textP A.l 7 pn (prs (l.take k)) D.psks).length ≤ 400000 := by
        have h1 := HTL.out k
        have h2 : (prs (l.take k)).length ≤ 8 := by simp [prs]; omega
        omega
      by_cases hlt : k < l.length
      · obtain ⟨p, hp⟩ : ∃ p, l[k]? = some p := ⟨_, List.getElem?_eq_getElem hlt⟩
        have hik : (k : Int) < l.length := by omega
        have hpm := List.mem_of_getElem? hp
        have hfit := Hinv.out.fits p hpm
        have hpsk := Hinv.out.psks p hpm
        have htk : l.take (k + 1) = l.take k ++ [p] := by rw [List.take_add_one, hp]; rfl
        have hpr : prs (l.take (k + 1)) = prs (l.take k) ++ [(p.id, p.key)] := by rw [htk]; simp [prs]
        have hnext := textP_snoc A.l 7 pn (prs (l.take k)) D.psks (p.id, p.key)
        rw [← hpr] at hnext
        clear hpr
        simp only at hnext
        rw [hpsk] at hnext
        obtain ⟨ag, rfl, c0, c1, c2⟩ : ∃ b, Av = some ⟨b, 0, none⟩ ∧ (wr.cell? ⟨b, k * 3, none⟩ = some (.int .i64 p.id) ∧ wr.cell? ⟨b, k * 3 + 1, none⟩ = some (.int .i64 p.key) ∧ wr.cell? ⟨b, k * 3 + 2, none⟩ = some (.int .i64 p.psk)) := by
          have hP : PeersAt wr 0 (.slice Av l.length cv) l := ok.row (i := 0) rfl
          rcases hP.nil with ⟨_, h2⟩ | ⟨g', c', h2⟩
          · rw [h2] at hlt; cases hlt
          · cases h2; exact ⟨g', rfl, hP.peer hp⟩
        have Hnext := Lib.hid hnext
        have Hlt := Lib.hid hlt
        have Hp := Lib.hid hp
        have hidn : ∃ n : Nat, p.id = n := ⟨p.id.toNat, by omega⟩
        obtain ⟨idn, hidn⟩ := hidn
        have hi9 : idn ≤ 999 := by omega
        have Htk := Lib.hid htk
        have hl8 := text_len HA.out.1.wf (by have := HA.out.2.1; omega) p.key
        have hl9 := text_len HA.out.1.wf (by have := HA.out.2.1; omega) p.psk
        obtain ⟨q1, q2, q3, q4, hq1, hq2, hq3, hq4, hq5⟩ := piece_runs [112, 101, 101, 114, 32] idn (text A.l p.key) (textP A.l 7 pn (prs (l.take k)) D.psks) (by decide) hi9 (by omega) (by omega)
        have HX1 := Lib.hid (show pieceL [112, 101, 101, 114, 32] idn (text A.l p.key) = itL A.l (false, p.id, p.key) ++ [10] by rw [hidn]; exact pieceL_eq false idn (text A.l p.key))
        have hX1l : (itL A.l (false, p.id, p.key) ++ [10]).length ≤ 20100 := itL_len HA.out.1.wf (by have := HA.out.2.1; omega) (false, p.id, p.key) hfit.1 hfit.2.1
        rw [HX1.out] at hq5
        clear HX1
        clear hnext hlt hp htk hk ok hpsk
        rw [hidn] at c0
        generalize textP A.l 7 pn (prs (l.take k)) D.psks = T0 at *
        generalize itL A.l (false, p.id, p.key) ++ [10] = X1 at *
        have HR := Lib.hid (fun (x : Int) (w' : World) (h : Own w w' (TextsL [] d r1 r2 D (.slice (some ⟨ag, 0, none⟩) l.length cv) l B g cap r A)) => r2Write_calls (h.ref (i := 5) rfl) HA.out.1.wf (by have := HA.out.2.1; omega) x)
        unfold WritePost at HR
        generalize hS1 : strO [112, 101, 101, 114, 32] = z1 at *
        have hz1 : z1 = ⟨#[112, 101, 101, 114, 32]⟩ := hS1.symm
        subst hz1
        clear hS1
        have HDg := Lib.hid (fun w' => digits15_calls (idn + 1) idn w' (Nat.lt_succ_self _) (by omega))
        generalize hdi : strO (digs idn) = di at *
        generalize hdk : strO (text A.l p.key) = dk at *
        have Hdk := Lib.hid hdk
        have Hdi := Lib.hid hdi
        clear hdi hdk
        go_upto_region 11 with fail
        have O2 := Lib.hid (Ok.out.alloc (.cells #[.int .i64 idn, .int .i64 p.key, .int .i64 p.psk] 44))
        generalize hWW : wr.alloc (.cells #[.int .i64 idn, .int .i64 p.key, .int .i64 p.psk] 44) = W at *
        generalize hX : wr.heap.size = X at *
        clear hWW hX c0 c1 c2
        obtain ⟨x0, x1, x2⟩ : W.cell? ⟨X, 0, none⟩ = some (.int .i64 idn) ∧ W.cell? ⟨X, 1, none⟩ = some (.int .i64 p.key) ∧ W.cell? ⟨X, 2, none⟩ = some (.int .i64 p.psk) := ⟨cell_of_heap (O2.out.blk (i := 0) rfl), cell_of_heap (O2.out.blk (i := 0) rfl), cell_of_heap (O2.out.blk (i := 0) rfl)⟩
        obtain ⟨b0, b1⟩ := refObj_cells' (O2.out.blk (i := 5) rfl)
        have hbb : Below W.heap.size W W := Below.refl _ _
        have KS := Lib.hid (show ∀ w', Below W.heap.size W w' → (w'.cell? ⟨X, 0, none⟩ = some (.int .i64 idn) ∧ w'.cell? ⟨X, 1, none⟩ = some (.int .i64 p.key) ∧ w'.cell? ⟨X, 2, none⟩ = some (.int .i64 p.psk) ∧ w'.cell? ⟨B, 0, none⟩ = some (.int .i64 A.limit) ∧ w'.cell? ⟨B, 1, none⟩ = some (.slice (some ⟨g, 0, none⟩) A.l.length cap)) from fun w' h => by
          have cc : ∀ {a : Addr} {v : Value}, W.cell? a = some v → w'.cell? a = some v := fun {a v} hc => (h.cell (World.block_lt_of_cell? W _ hc)).trans hc
          exact ⟨cc x0, cc x1, cc x2, cc b0, cc b1⟩)
        have HW1 := Lib.hid (show ∀ w', Below W.heap.size W w' → Calls Tryz.prog 21 #[.agg #[.int .i64 A.limit, .slice (some ⟨g, 0, none⟩) A.l.length cap], .int .i64 p.key] w' (fun e w'' => e = .returned (.string dk) ∧ Below w'.heap.size w' w'') from fun w' h => by rw [← Hdk.out]; exact HR.out p.key w' ((O2.out.call h).tail))
        go_cut [15] (fun s wx => s = .string (strO (T0 ++ X1)) ∧ Below W.heap.size W wx)
        case first =>
          go_region_held3 (fun w' => w'.cell? ⟨X, 0, none⟩ = some (.int .i64 idn) ∧ w'.cell? ⟨X, 1, none⟩ = some (.int .i64 p.key) ∧ w'.cell? ⟨X, 2, none⟩ = some (.int .i64 p.psk) ∧ w'.cell? ⟨B, 0, none⟩ = some (.int .i64 A.limit) ∧ w'.cell? ⟨B, 1, none⟩ = some (.slice (some ⟨g, 0, none⟩) A.l.length cap))
            (first | exact KS.out _ (by repeat (first | with_reducible assumption | with_reducible refine Below.drew ?_ | with_reducible refine belowAlloc ?_ _)))
            (first
              | (go_at_call 20; with_reducible refine (HDg.out _).mono ?_; rintro e wa ⟨rfl, rfl⟩)
              | (go_at_call 21; with_reducible refine (HW1.out _ (by repeat (first | with_reducible assumption | with_reducible refine Below.drew ?_ | with_reducible refine belowAlloc ?_ _))).mono ?_; rintro e wb ⟨rfl, hbb2⟩; have hxb : Below W.heap.size W wb := below_call (by repeat (first | with_reducible assumption | with_reducible refine Below.drew ?_ | with_reducible refine belowAlloc ?_ _)) hbb2))
          all_goals go_wp2_with fail
          all_goals go_meet
          all_goals exact ⟨rfl, (by repeat (first | with_reducible assumption | with_reducible refine Below.drew ?_ | with_reducible refine belowAlloc ?_ _))⟩
        case rest =>
          obtain ⟨rfl, hbx⟩ := hcut
          have O3 := Lib.hid (O2.out.call hbx)
          clear x0 x1 x2 b0 b1 KS HW1 hbb hbx hq1 hq2 hq3 hq4 hq5 O2 Ok
          obtain ⟨x0, x1, x2⟩ : wc.cell? ⟨X, 0, none⟩ = some (.int .i64 idn) ∧ wc.cell? ⟨X, 1, none⟩ = some (.int .i64 p.key) ∧ wc.cell? ⟨X, 2, none⟩ = some (.int .i64 p.psk) := ⟨cell_of_heap (O3.out.blk (i := 0) rfl), cell_of_heap (O3.out.blk (i := 0) rfl), cell_of_heap (O3.out.blk (i := 0) rfl)⟩
          obtain ⟨b0, b1⟩ := refObj_cells' (O3.out.blk (i := 5) rfl)
          by_cases hps : 0 < p.psk
          · have dps : decide (0 < p.psk) = true := decide_eq_true hps
            have Hnext := Lib.hid (show textP A.l 7 pn (prs (l.take (k + 1))) D.psks = (T0 ++ X1) ++ (itL A.l (true, p.id, p.psk) ++ [10]) by rw [Hnext.out]; simp only [pskOf]; rw [if_pos hps])
            have hT1l : (T0 ++ X1).length ≤ 500000 := by rw [List.length_append]; omega
            obtain ⟨q1, q2, q3, q4, hq1, hq2, hq3, hq4, hq5⟩ := piece_runs [112, 115, 107, 32] idn (text A.l p.psk) (T0 ++ X1) (by decide) hi9 (by omega) (by omega)
            have HX2 := Lib.hid (show pieceL [112, 115, 107, 32] idn (text A.l p.psk) = itL A.l (true, p.id, p.psk) ++ [10] by rw [hidn]; exact pieceL_eq true idn (text A.l p.psk))
            rw [HX2.out] at hq5
            clear HX2 hps hT0
            generalize T0 ++ X1 = T1 at *
            generalize itL A.l (true, p.id, p.psk) ++ [10] = X2 at *
            generalize hS1 : strO [112, 115, 107, 32] = z1 at *
            have hz1 : z1 = ⟨#[112, 115, 107, 32]⟩ := hS1.symm
            subst hz1
            clear hS1
            rw [Hdi.out] at hq1
            generalize hdk2 : strO (text A.l p.psk) = dk2 at *
            have Hdk2 := Lib.hid hdk2
            clear hdk2
            have hbb : Below wc.heap.size wc wc := Below.refl _ _
            have KS := Lib.hid (show ∀ w', Below wc.heap.size wc w' → (w'.cell? ⟨X, 0, none⟩ = some (.int .i64 idn) ∧ w'.cell? ⟨X, 1, none⟩ = some (.int .i64 p.key) ∧ w'.cell? ⟨X, 2, none⟩ = some (.int .i64 p.psk) ∧ w'.cell? ⟨B, 0, none⟩ = some (.int .i64 A.limit) ∧ w'.cell? ⟨B, 1, none⟩ = some (.slice (some ⟨g, 0, none⟩) A.l.length cap)) from fun w' h => by
              have cc : ∀ {a : Addr} {v : Value}, wc.cell? a = some v → w'.cell? a = some v := fun {a v} hc => (h.cell (World.block_lt_of_cell? wc _ hc)).trans hc
              exact ⟨cc x0, cc x1, cc x2, cc b0, cc b1⟩)
            have HW1 := Lib.hid (show ∀ w', Below wc.heap.size wc w' → Calls Tryz.prog 21 #[.agg #[.int .i64 A.limit, .slice (some ⟨g, 0, none⟩) A.l.length cap], .int .i64 p.psk] w' (fun e w'' => e = .returned (.string dk2) ∧ Below w'.heap.size w' w'') from fun w' h => by rw [← Hdk2.out]; exact HR.out p.psk w' ((O3.out.call h).tail))
            go_upto_region 13 with fail
            go_cut [15] (fun s wx => s = .string (strO (T1 ++ X2)) ∧ Below wc.heap.size wc wx)
            case first =>
              go_region_held3 (fun w' => w'.cell? ⟨X, 0, none⟩ = some (.int .i64 idn) ∧ w'.cell? ⟨X, 1, none⟩ = some (.int .i64 p.key) ∧ w'.cell? ⟨X, 2, none⟩ = some (.int .i64 p.psk) ∧ w'.cell? ⟨B, 0, none⟩ = some (.int .i64 A.limit) ∧ w'.cell? ⟨B, 1, none⟩ = some (.slice (some ⟨g, 0, none⟩) A.l.length cap))
                (first | exact KS.out _ (by repeat (first | with_reducible assumption | with_reducible refine Below.drew ?_ | with_reducible refine belowAlloc ?_ _)))
                (first
                  | (go_at_call 20; with_reducible refine (HDg.out _).mono ?_; rintro e wa ⟨rfl, rfl⟩)
                  | (go_at_call 21; with_reducible refine (HW1.out _ (by repeat (first | with_reducible assumption | with_reducible refine Below.drew ?_ | with_reducible refine belowAlloc ?_ _))).mono ?_; rintro e wb ⟨rfl, hbb2⟩; have hxb : Below wc.heap.size wc wb := below_call (by repeat (first | with_reducible assumption | with_reducible refine Below.drew ?_ | with_reducible refine belowAlloc ?_ _)) hbb2))
              all_goals go_wp2_with fail
              all_goals go_meet
              all_goals exact ⟨rfl, (by repeat (first | with_reducible assumption | with_reducible refine Below.drew ?_ | with_reducible refine belowAlloc ?_ _))⟩
            case rest =>
              obtain ⟨rfl, hbx⟩ := hcut
              have O4 := Lib.hid (O3.out.call hbx)
              clear x0 x1 x2 b0 b1 KS HW1 hbb hbx hq1 hq2 hq3 hq4 hq5 O3
              obtain ⟨x0, x1, x2⟩ : wc.cell? ⟨X, 0, none⟩ = some (.int .i64 idn) ∧ wc.cell? ⟨X, 1, none⟩ = some (.int .i64 p.key) ∧ wc.cell? ⟨X, 2, none⟩ = some (.int .i64 p.psk) := ⟨cell_of_heap (O4.out.blk (i := 0) rfl), cell_of_heap (O4.out.blk (i := 0) rfl), cell_of_heap (O4.out.blk (i := 0) rfl)⟩
              obtain ⟨b0, b1⟩ := refObj_cells' (O4.out.blk (i := 5) rfl)
              go_wp2_with fail
              refine (rHas_calls A g cap p.key _).mono ?_
              rintro e wh ⟨rfl, bh⟩
              have Oh := Lib.hid (O4.out.call bh)
              clear x0 x1 x2 b0 b1 bh O4
              obtain ⟨x0, x1, x2⟩ : wh.cell? ⟨X, 0, none⟩ = some (.int .i64 idn) ∧ wh.cell? ⟨X, 1, none⟩ = some (.int .i64 p.key) ∧ wh.cell? ⟨X, 2, none⟩ = some (.int .i64 p.psk) := ⟨cell_of_heap (Oh.out.blk (i := 0) rfl), cell_of_heap (Oh.out.blk (i := 0) rfl), cell_of_heap (Oh.out.blk (i := 0) rfl)⟩
              obtain ⟨b0, b1⟩ := refObj_cells' (Oh.out.blk (i := 5) rfl)
              cases hk1 : has A.l p.key with
              | false =>
                go_wp2_with fail
                refine (awake15 _).mono ?_
                rintro e w9 ⟨rfl, b9⟩
                go_wp2_with fail
                go_ret
                exact ⟨rfl, (Oh.out.call b9).below⟩
              | true =>
                go_wp2_with fail
                refine (rHas_calls A g cap p.psk _).mono ?_
                rintro e wi ⟨rfl, bi⟩
                have Oi := Lib.hid (Oh.out.call bi)
                clear x0 x1 x2 b0 b1 bi Oh
                cases hk2 : has A.l p.psk with
                | false =>
                  go_wp2_with fail
                  refine (awake15 _).mono ?_
                  rintro e w9 ⟨rfl, b9⟩
                  go_wp2_with fail
                  go_ret
                  exact ⟨rfl, (Oi.out.call b9).below⟩
                | true =>
                  go_wp2_with fail
                  go_roundw
                  case rel =>
                    have hlt1 := Hlt.out
                    refine ⟨k + 1, by omega, by rw [Hnext.out], by go_num, Oi.out.tail, Lib.hid fun q hq => ?_⟩
                    rw [Htk.out] at hq
                    rcases List.mem_append.1 hq with hq | hq
                    · exact href.out q hq
                    · obtain rfl : q = p := by simpa using hq
                      exact ⟨hk1, fun _ => hk2⟩
                  case measure => have hlt1 := Hlt.out; simp only [intOf]; omega
          · have dps : decide (0 < p.psk) = false := decide_eq_false hps
            have Hnext := Lib.hid (show textP A.l 7 pn (prs (l.take (k + 1))) D.psks = T0 ++ X1 by rw [Hnext.out]; simp only [pskOf]; rw [if_neg hps, List.append_nil])
            have Hps := Lib.hid hps
            clear hps
            go_wp2_with fail
            refine (rHas_calls A g cap p.key _).mono ?_
            rintro e wh ⟨rfl, bh⟩
            have Oh := Lib.hid (O3.out.call bh)
            clear x0 x1 x2 b0 b1 bh O3
            obtain ⟨x0, x1, x2⟩ : wh.cell? ⟨X, 0, none⟩ = some (.int .i64 idn) ∧ wh.cell? ⟨X, 1, none⟩ = some (.int .i64 p.key) ∧ wh.cell? ⟨X, 2, none⟩ = some (.int .i64 p.psk) := ⟨cell_of_heap (Oh.out.blk (i := 0) rfl), cell_of_heap (Oh.out.blk (i := 0) rfl), cell_of_heap (Oh.out.blk (i := 0) rfl)⟩
            obtain ⟨b0, b1⟩ := refObj_cells' (Oh.out.blk (i := 5) rfl)
            cases hk1 : has A.l p.key with
            | false =>
              go_wp2_with fail
              refine (awake15 _).mono ?_
              rintro e w9 ⟨rfl, b9⟩
              go_wp2_with fail
              go_ret
              exact ⟨rfl, (Oh.out.call b9).below⟩
            | true =>
              go_wp2_with fail
              go_roundw
              case rel =>
                have hlt1 := Hlt.out
                refine ⟨k + 1, by omega, by rw [Hnext.out], by go_num, Oh.out.tail, Lib.hid fun q hq => ?_⟩
                rw [Htk.out] at hq
                rcases List.mem_append.1 hq with hq | hq
                · exact href.out q hq
                · obtain rfl : q = p := by simpa using hq
                  exact ⟨hk1, fun h => absurd h (by have := Hps.out; omega)⟩
              case measure => have hlt1 := Hlt.out; simp only [intOf]; omega
      · obtain rfl : k = l.length := by omega
        have hall : l.take l.length = l := List.take_length
        have hTD : textP A.l 7 pn (prs l) D.psks = textD A.l 7 pn (itemsP l) := by unfold textP; rw [itemsD_prs Hinv.out.psks]
        rw [hall, hTD] at hT0
        rw [hall] at href
        rw [hall, hTD]
        have HTD := Lib.hid hTD
        have hP := Hinv.out.inv.peers
        have HPrs := Lib.hid Hinv.out.prs
        have hprsf : ∀ p ∈ prs l, 0 ≤ p.1 ∧ p.1 ≤ 999 := fun p hp => by
          simp only [prs, List.mem_map] at hp
          obtain ⟨q, hq, rfl⟩ := hp
          have := Hinv.out.fits q hq; exact ⟨this.1, this.2.1⟩
        have hndp : ((prs l).map (·.1)).Nodup := by have := Hinv.out.inv.nodup; simpa [prs, Function.comp_def] using this
        have hpl8 : (prs l).length ≤ 8 := by simpa [prs] using hlen
        have HPF := Lib.hid (And.intro hprsf (And.intro hndp hpl8))
        have Hread := Lib.hid (show ∀ i ∈ itemsP l, readA A (strO (text A.l i.2.2)) = (A, i.2.2, 0) from fun i hi => by
          have hh : has A.l i.2.2 = true := by
            unfold itemsP at hi
            rw [List.mem_flatMap] at hi
            obtain ⟨q, hq, h⟩ := hi
            have hr := href.out q hq
            rcases List.mem_cons.1 h with rfl | h
            · exact hr.1
            · split at h
              · rename_i h0; simp at h; subst h; exact hr.2 h0
              · cases h
          exact read_self HA.out.1 (by have := HA.out.2.1; omega) (by have h1 := HA.out.2.1; have h2 := HA.out.2.2; omega) hh)
        clear hk hlt ok href hall hTD hprsf hndp hpl8
        obtain ⟨did, dsec, dpol, dpe, dps⟩ := D
        simp only at hP
        subst hP
        obtain ⟨rfl, rfl⟩ : dpol = (pn : Int) ∧ did = 7 := Hpol.out
        dsimp only at *
        go_wp2_with fail
        refine (dText_calls Ok.out HE.out 1 3 2 6 rfl rfl rfl rfl 7 pn rfl rfl (by omega) (by omega) HPF.out.1 HPF.out.2.1 HPF.out.2.2 HA.out.1.wf (by have := HA.out.2.1; omega)).mono ?_
        rintro e w3 ⟨rfl, o3⟩
        dsimp only
        rw [HTD.out]
        have O3 := Lib.hid o3
        have hb : ((strO (textD A.l 7 pn (itemsP l))).toList == (strO (textD A.l 7 pn (itemsP l))).toList) = true := by simp
        have HT2 := Lib.hid (show ∃ x, x = strO (textD A.l 7 pn (itemsP l)) from ⟨_, rfl⟩)
        have HDR := Lib.hid (fun (w' : World) (L : List Thing) (h : Own w w' L) (m : Nat) (hm : L[m]? = some (arena r A)) => dRead_calls h HE.out m hm 7 pn secret (by simp [mayD, namedP]; omega) (by omega) (by omega) l HPrs.out HA.out.1.wf (by have := HA.out.2.1; omega) Hread.out)
        have HTX := Lib.hid (fun (w' : World) (d3 r5 r6 : Nat) (h : Own w w' (blk d3 (devObj ⟨7, secret, pn, prs l, pks l⟩ r5 r6) :: storeT r6 (stI (pks l)) :: storeT r5 (stI (prs l)) :: TextsL [] d r1 r2 ⟨7, dsec, pn, prs l, dps⟩ (.slice Av l.length cv) l B g cap r A)) => dText_calls h HE.out 0 2 1 9 rfl rfl rfl rfl 7 pn rfl rfl (by omega) (by omega) HPF.out.1 HPF.out.2.1 HPF.out.2.2 HA.out.1.wf (by have := HA.out.2.1; omega))
        have hTD2 : textP A.l 7 pn (prs l) (pks l) = textD A.l 7 pn (itemsP l) := by unfold textP; rw [itemsD_prs (lk_pks HPrs.out.ids)]
        dsimp only at HTX
        rw [hTD2] at HTX
        clear hTD2
        unfold DTextPost at HTX
        generalize strO (textD A.l 7 pn (itemsP l)) = S0 at *
        clear o3 Ok hT0
        go_wp2_with fail
        refine (HDR.out _ _ O3.out 6 rfl).mono ?_
        rintro e w4 ⟨d3, r5, r6, rfl, o4⟩
        have O4 := Lib.hid o4
        clear o4 O3
        go_wp2_with fail
        refine (HTX.out _ d3 r5 r6 O4.out).mono ?_
        rintro e w5 ⟨rfl, o5⟩
        have O5 := Lib.hid o5
        clear o5 O4
        go_wp2_with fail
        refine (secret_calls (O5.out.blk (i := 0) rfl)).mono ?_
        rintro e w6 ⟨rfl, rfl⟩
        obtain ⟨b0, b1⟩ := refObj_cells' (O5.out.blk (i := 7) rfl)
        have hss : (secret == secret) = true := by simp
        dsimp only
        go_wp2_with fail
        obtain ⟨S, hA⟩ := O5.out.arena (i := 9) rfl
        refine (same_calls hA (O5.out.ref (i := 8) rfl)).mono ?_
        rintro e w7 ⟨rfl, b7⟩
        have O7 := Lib.hid (O5.out.call b7)
        clear hA b7 b0 b1 O5
        go_wp2_with fail
        refine (awake15 _).mono ?_
        rintro e w9 ⟨rfl, b9⟩
        go_wp2_with fail
        go_ret
        exact ⟨rfl, (O7.out.call b9).below⟩
end Go.Proofs.YtfelbecofbdeaaaGreatDoor
