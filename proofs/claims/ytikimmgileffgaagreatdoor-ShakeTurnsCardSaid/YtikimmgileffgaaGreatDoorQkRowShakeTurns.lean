/- Packed by packn.py: RowShakeTurns. -/
import Derived.Test.YtikimmgileffgaaGreatDoorCards
import Derived.Test.YtikimmgileffgaaGreatDoorTie
import Derived.Test.YtikimmgileffgaaGreatDoorQk07
import Derived.Test.YtikimmgileffgaaGreatDoorQk41
import Derived.Test.YtikimmgileffgaaGreatDoorQk35
import Derived.WalkKit
import Derived.ProofKit
import Derived.OpenShut
import Derived.ShutString
import Derived.ChangeOld
import Derived.Below
import Derived.SizedLaws
import Derived.Shelf.Lay
import Derived.Lay
import Derived.LaidOnce
import Derived.SevenTiedAt
namespace Go.Proofs.YtikimmgileffgaaGreatDoor.shakeTurns
open Go.ChangeShapes Go.WideShapes Go.ChangeAt Go.RowKit
open Go.ChangeMaps (open_string shut_string)
theorem own : ownKnob Tryz.prog.godebug = none := by kernel_rfl
theorem laidOut : laidOutB Tryz.prog = true := by kernel_rfl
set_option maxRecDepth 100000 in
theorem lifted (os : Os) (started : os.Started) (H : Type) (enc : TypeId × Value → H) :
    ReturnsInHanded {} Tryz.checked os 6 .any (fun w args => (Rows.shakeTurnsSpec.pre enc Tryz.prog Tryz.f6 [] false w args ∧ laidMetH Tryz.prog Rows.shakeTurnsRow.laid w) ∧ sizedMet enc Tryz.prog Tryz.f6 (OpenSpec.ofChange Rows.shakeTurnsSpec) false w args) (Rows.shakeTurnsSpec.post enc Tryz.prog Tryz.f6 false true false false) := by
  refine returns_laid_shaped (C := Tryz.checked) (X := fun w _ => laidMetH Tryz.prog Rows.shakeTurnsRow.laid w) (fun _ _ _ hh h => h.of_heap hh) own started (by kernel_rfl) Tryz.func6
    (ChangeSpec.witness_shaped (enc := enc) (C := Tryz.checked) (os := os) (X := fun w _ => laidMetH Tryz.prog Rows.shakeTurnsRow.laid w) false (World.laidAll Tryz.prog os Rows.shakeTurnsRow.laid) #[.agg #[.string ⟨#[]⟩, .slice none 0 0, .slice none 0 0, .slice none 0 0, .slice none 0 0, .int .i64 0, .int .u8 0, .int .u8 0], .int .i64 0, .int .i64 0] 8 (World.laidAll_os _ _ _)
      (World.shaped_of_ZipB (by kernel_rfl) (by kernel_rfl)) (by kernel_rfl) (by kernel_rfl) (by kernel_rfl)
      (by rw [MakeChecks.laidMetH_plain _ _ _ (by kernel_rfl)]; exact laidMet_laidAll _ (by kernel_rfl) (by kernel_rfl))) ?_
  intro W base args ds gs before hval0 hW hL hsh
  have hval : ∀ (j : Nat) t v, Tryz.f6.params[j]? = some t → args[j]? = some v → Value.okWide Tryz.prog W .any base t v := hval0
  have hW' := hW
  obtain ⟨p, q, hA0, hV, rfl, _, _⟩ := hW
  have hA : DataW.TrodAll enc Tryz.prog W 0 (fun _ => true) true Tryz.f6.params.toList args.toList ds p := hA0
  rw [Tryz.params6] at hA hval
  obtain ⟨v0, vs0, d0, ds0, p0, q0, hargs, rfl, rfl, h0, r0⟩ := trodAll_cons hA
  obtain ⟨v1, vs1, d1, ds1, p1, q1, rfl, rfl, rfl, h1, r1⟩ := trodAll_cons r0
  obtain ⟨v2, vs2, d2, ds2, p2, q2, rfl, rfl, rfl, h2, r2⟩ := trodAll_cons r1
  obtain ⟨rfl, rfl, rfl⟩ := trodAll_nil r2
  obtain rfl : args = #[v0, v1, v2] := by cases args; simp_all
  obtain ⟨rfl, rfl⟩ := trodVars_none hV
  rw [MakeChecks.laidMetH_plain _ _ _ (by kernel_rfl)] at hL
  have henv : EnvB W := env_of_laid5 (a := ("unicode/utf8.acceptRanges", Rows.laid_unicode_utf8_acceptRanges)) (b := ("unicode.White_Space", Rows.laid_unicode_White_Space)) (r := [("unicode/utf8.first", Rows.laid_unicode_utf8_first)]) hL hsh
  have hv0 := hval 0 52 v0 rfl rfl
  have k0 := h0
  have lt0 : ∀ x ∈ p0, x.block < W.heap.size := by obtain ⟨m, hm⟩ := k0; exact DataW.trod_lt m _ _ _ hm
  have hv1 := hval 1 3 v1 rfl rfl
  have k1 := h1
  have lt1 : ∀ x ∈ p1, x.block < W.heap.size := by obtain ⟨m, hm⟩ := k1; exact DataW.trod_lt m _ _ _ hm
  have hv2 := hval 2 3 v2 rfl rfl
  have k2 := h2
  have lt2 : ∀ x ∈ p2, x.block < W.heap.size := by obtain ⟨m, hm⟩ := k2; exact DataW.trod_lt m _ _ _ hm
  clear hA0 hval0 hval hL hsh
  obtain ⟨p, a0, c0, a1, c1, am, cm, uB, ud, us, lim, ams, chg, rfl, hp, hfit, hU, hul, hus, hams, hchg⟩ := open_two Tryz.underlying52 Tryz.underlying33 Tryz.underlying9 Tryz.underlying30 Tryz.underlying29 Tryz.underlying3 Tryz.underlying31 Tryz.underlying61 Tryz.underlying3 Tryz.underlying29 Tryz.underlying50 Tryz.underlying22 Tryz.underlying3 Tryz.underlying5 Tryz.underlying5 (by kernel_rfl) (by kernel_rfl) (by kernel_rfl) hv0 h0
  obtain ⟨nn1, rfl, rfl, rfl, wn1⟩ := open_int Tryz.underlying3 hv1 h1
  obtain ⟨nn2, rfl, rfl, rfl, wn2⟩ := open_int Tryz.underlying3 hv2 h2
  refine (turns_walk henv hp hfit hU hus).mono fun e W' ⟨he, bel⟩ => ?_
  subst he
  exact ⟨_, rfl, _, _, _, [], _, [], hW', trodAll_mk1 (shut_bool Tryz.underlying4 _), (trodAll_cons_mk (Below.trod laidOut (by kernel_rfl) (of_decide_eq_true (by kernel_rfl)) k0 bel lt0) (trodAll_cons_mk (Below.trod laidOut (by kernel_rfl) (of_decide_eq_true (by kernel_rfl)) k1 bel lt1) (trodAll_cons_mk (Below.trod laidOut (by kernel_rfl) (of_decide_eq_true (by kernel_rfl)) k2 bel lt2) trodAll_mk0))), rfl, bel.frame _, fun h => by cases h⟩
theorem andI {a b : Bool} (h : a = true) (k : b = true) : (a && b) = true := by rw [h, k]; rfl
theorem joined1 : (Rows.shakeTurnsRow.wf (OpenSpec.ofChange Rows.shakeTurnsSpec) && laidOutB Tryz.prog && mapsRowed Tryz.prog && Tryz.f6.params.all (Tryz.prog.readableRec ·) && namedTie Tryz.prog Rows.shakeTurnsRow.named Rows.shakeTurnsSpec.vars && (Rows.shakeTurnsRow.stops == []) && (Tryz.prog.stops == []) && (Rows.shakeTurnsRow.knobs == []) && (Tryz.prog.stopKnobs == [])) = true := by kernel_rfl
theorem joined2 : (Rows.shakeTurnsRow.inPlace == Tryz.prog.inPlace 6) = true := by kernel_rfl
theorem joined3 : (Rows.shakeTurnsRow.unfollowed == Tryz.prog.unfollowed 6) = true := by kernel_rfl
theorem joined4 : (Rows.shakeTurnsRow.recurses == Tryz.prog.recurses 6) = true := by kernel_rfl
theorem joined5 : (Rows.shakeTurnsRow.named == Tryz.prog.varsNamed 6) = true := by kernel_rfl
theorem joined : joinedFacts Tryz.prog 6 Tryz.f6 Rows.shakeTurnsSpec Rows.shakeTurnsRow = true := by
  unfold joinedFacts
  exact andI (andI (andI (andI (andI (andI (andI (andI (andI (andI (andI (andI (andI (andI (andI (andI (andI (andI (andI (andI (andI (andI (andI joined1 joined2) joined3) joined4) joined5) (by kernel_rfl)) (by kernel_rfl)) (by kernel_rfl)) (by kernel_rfl)) (by kernel_rfl)) (by kernel_rfl)) (by kernel_rfl)) (by kernel_rfl)) (by kernel_rfl)) (by kernel_rfl)) (by kernel_rfl)) (by kernel_rfl)) (by kernel_rfl)) (by kernel_rfl)) (by kernel_rfl)) (by kernel_rfl)) (by kernel_rfl)) (by kernel_rfl)) (by kernel_rfl)
theorem proved : Rows.ShakeTurnsSaid :=
  OpenClaim.holds_of_wide 6 Tryz.f6 rfl rfl rfl rfl rfl rfl rfl ⟨rfl, rfl, rfl, rfl, rfl⟩ rfl rfl rfl rfl rfl (by kernel_rfl) Tryz.func6 joined
    (of_decide_eq_true (by kernel_rfl)) (by unfold Func.isWrapper; first | (rw [if_pos (by decide +kernel)]; kernel_rfl) | (rw [if_neg (by decide +kernel)]; exact ⟨rfl, rfl⟩))
    (fun os started H enc _ => lifted os started H enc)
end Go.Proofs.YtikimmgileffgaaGreatDoor.shakeTurns
namespace Go.Proofs.YtikimmgileffgaaGreatDoor
/-- The tied card. -/
theorem shakeTurns_holds : Rows.ShakeTurnsCardSaid :=
  Claim7.holds_tied_plain_at .later [] [.data, .listed, .data, .pinned] true (true, "9c8d2ffca967bd67aea5637b5d1b5e1923a42c30d05d87a91e8424a6a6657626") true shakeTurns.proved (fun _ h => by cases h) (by kernel_rfl) (fun _ h => by cases h) shakeTurns_row_tie rfl ⟨rfl, rfl⟩ (by kernel_rfl) rfl
    (fun f fn hf hfn => by
      obtain rfl : f = 6 := Option.some.inj ((show Tryz.prog.funcNamed "undertone/undertonelaw12.ShakeTurns" = some 6 by kernel_rfl).symm.trans hf) |>.symm
      obtain rfl : fn = Tryz.f6 := (Option.some.inj (Tryz.func6.symm.trans hfn)).symm
      exact ⟨by kernel_rfl, fun j t ht => by
        rw [Tryz.params6] at ht
        have hm : t ∈ [52, 3, 3] := by simpa using Array.mem_of_getElem? ht
        have hall : ([52, 3, 3].all fun u => !Tryz.prog.wantsStandIn u) = true := by kernel_rfl
        exact (show Tryz.prog.wantsStandIn t = false by simpa using List.all_eq_true.1 hall t hm)⟩)
    (by kernel_rfl)
#print axioms shakeTurns_holds
end Go.Proofs.YtikimmgileffgaaGreatDoor
