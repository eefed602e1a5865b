/- Packed by packn.py: LaidEnv5, Val1, Val2. -/
import Derived.Test.YtikimmgileffgaaGreatDoorQk06
import Derived.Stop.LaidErr
import Derived.Lib.LaidTab
import Derived.Shelf.Vars
import Derived.Lay
import Derived.HandedShaped
import Derived.LaidLaws
import Derived.Test.YtikimmgileffgaaGreatDoorQk01
import Derived.Test.YtikimmgileffgaaGreatDoorQk03
import Derived.Test.YtikimmgileffgaaGreatDoorQk02
import Derived.Lib.Hide
import Derived.Deep.RegionHeld3
import Derived.Deep.CutBlock
import Derived.Deep.DeepCutAuto
/- From what a row lists of package-level variables to what the walks of layers 5, 6 read of them; the row's builder. -/
section
namespace Go.Proofs.YtikimmgileffgaaGreatDoor
open Go.RowKit Go.Shelf

theorem gSpN : Tryz.prog.globalNamed "strings.asciiSpace" = some 0 := by kernel_rfl
theorem gSpType : (Tryz.prog.globals[0]?).map (·.type) = some 259 := by kernel_rfl
/-- What is listed gives what is read. -/
theorem env_of_laid5 {W : World} {a b : String × DataW Unit} {r : List (String × DataW Unit)} 
    (h : laidMet Tryz.prog (a :: b :: ("strings.asciiSpace", Lib.tabData .u8 Lib.asciiSpaceTab) :: r) W)
    (hs : W.ShapedOpen Tryz.prog) : EnvB W := by
  have h2 := h.tail.tail
  exact ⟨⟨cell_of_shapedOpen_int (zero := #[.int .i64 0]) hs (by decide +kernel) (by kernel_rfl) rfl (by kernel_rfl) (by kernel_rfl) Tryz.underlying3⟩,
    Lib.tabIs_of_head gSpN gSpType Tryz.underlying259 Tryz.underlying5 (by kernel_rfl) (by kernel_rfl) h2⟩

/-- The row's builder: what is listed, and the world's shape. -/
theorem returns_laid_shaped {H : Type} {enc : TypeId × Value → H} {a : Assume} {C : Checked} {os : Os} {f : FuncId} {fn : Func} {s : ChangeSpec} {conds : List PathCond} {apart fresh handsOn again : Bool} {X : World → Array Value → Prop}
    (hX : ∀ (w w' : World) (args : Array Value), w.heap = w'.heap → X w args → X w' args)
    (own : ownKnob C.prog.godebug = none) (started : os.Started) (noInit : C.prog.inits.idxOf? f = none) (hfn : C.prog.funcs[f]? = some fn)
    (witness : ∃ (w : World) (tape : Tape) (i : Input), w.os = os ∧ (w.forCall tape i).Shaped C.prog ∧ i.vars = [] ∧ Input.okWide C.prog (w.forCall tape i) .any w.heap.size f i ∧
      ((s.pre enc C.prog fn conds apart (w.forCall tape i).memory i.args ∧ X (w.forCall tape i).memory i.args) ∧ sizedMet enc C.prog fn (OpenSpec.ofChange s) apart (w.forCall tape i).memory i.args) ∧ a.holds C.prog (lone (Frame.enter C.prog f i.args .normal) [] (w.forCall tape i)))
    (contract : ∀ (W : World) (base : Nat) (args : Array Value) (ds gs : List (DataW H)) (before : List MemPlace),
      (∀ (j : Nat) t v, fn.params[j]? = some t → args[j]? = some v → Value.okWide C.prog W .any base t v) →
      DataW.Whole enc C.prog fn.params.toList s.vars apart W args.toList ds gs before →
      X W args → W.ShapedOpen C.prog →
      Calls C.prog f args W fun e W' => ∃ v, e = .returned v ∧ s.post enc C.prog fn apart fresh handsOn again W args v W') :
    ReturnsInHanded a C os f .any (fun w args => (s.pre enc C.prog fn conds apart w args ∧ X w args) ∧ sizedMet enc C.prog fn (OpenSpec.ofChange s) apart w args) (s.post enc C.prog fn apart fresh handsOn again) := by
  refine returnsInHanded_of_calls own started noInit witness ?_
  intro w tape i _ hsh _ hok hpre hholds
  obtain ⟨_, _, _, fn', hfn', _, _, _, _, hval⟩ := hok
  have e : fn' = fn := Option.some.inj (hfn'.symm.trans hfn)
  subst e
  obtain ⟨⟨⟨ds, gs, before, hw, hc⟩, hx⟩, hz⟩ := hpre
  have hw' := DataW.Whole.of_heap (w' := w.forCall tape i) (by rfl) hw
  refine (contract (w.forCall tape i) w.heap.size i.args ds gs before hval hw' (hX _ _ _ (by rfl) hx) hsh).mono fun e W' ⟨v, he, hp⟩ => ?_
  subst he
  exact ChangeSpec.post_blind hp
end Go.Proofs.YtikimmgileffgaaGreatDoor
end
/- The rules of patterns (layer 7): whose keys a token is of. This text was printed by a small program. -/
section
namespace Go.Proofs.YtikimmgileffgaaGreatDoor
open Go.RowKit

def pairsV : Value := .agg #[.int .i64 0, .int .i64 0, .int .i64 0, .int .i64 0, .int .i64 0, .int .i64 0, .int .i64 1, .int .i64 1, .int .i64 1, .int .i64 2, .int .i64 2, .int .i64 1, .int .i64 2, .int .i64 2, .int .i64 0, .int .i64 0]
theorem pair_at3 (w : World) : (Instr.index 328 pairsV (.int .i64 3)).run Tryz.prog w = .ok (.agg #[.int .i64 1, .int .i64 1]) w := by kernel_rfl
theorem pair_at4 (w : World) : (Instr.index 328 pairsV (.int .i64 4)).run Tryz.prog w = .ok (.agg #[.int .i64 1, .int .i64 2]) w := by kernel_rfl
theorem pair_at5 (w : World) : (Instr.index 328 pairsV (.int .i64 5)).run Tryz.prog w = .ok (.agg #[.int .i64 2, .int .i64 1]) w := by kernel_rfl
set_option maxHeartbeats 800000 in
theorem pair_calls3 (w : World) : Calls Tryz.prog 202 #[.int .i64 3] w fun e w' => e = .returned (.agg #[.int .i64 1, .int .i64 1]) ∧ Below w.heap.size w w' := by
  have hi := pair_at3
  unfold pairsV at hi
  have O := Lib.hid ((Own.start w).alloc (.cells #[.int .i64 1, .int .i64 1] 74))
  go_enter Tryz.func202, Tryz.ntmps202
  go_wp2_with fail
  refine bodyPost_ret (v := .agg #[.int .i64 1, .int .i64 1]) (by simp [results, Tryz.results202, go_sem, cell_of_heap (O.out.blk (i := 0) rfl)]) rfl ⟨rfl, O.out.below⟩
set_option maxHeartbeats 800000 in
theorem pair_calls4 (w : World) : Calls Tryz.prog 202 #[.int .i64 4] w fun e w' => e = .returned (.agg #[.int .i64 1, .int .i64 2]) ∧ Below w.heap.size w w' := by
  have hi := pair_at4
  unfold pairsV at hi
  have O := Lib.hid ((Own.start w).alloc (.cells #[.int .i64 1, .int .i64 2] 74))
  go_enter Tryz.func202, Tryz.ntmps202
  go_wp2_with fail
  refine bodyPost_ret (v := .agg #[.int .i64 1, .int .i64 2]) (by simp [results, Tryz.results202, go_sem, cell_of_heap (O.out.blk (i := 0) rfl)]) rfl ⟨rfl, O.out.below⟩
set_option maxHeartbeats 800000 in
theorem pair_calls5 (w : World) : Calls Tryz.prog 202 #[.int .i64 5] w fun e w' => e = .returned (.agg #[.int .i64 2, .int .i64 1]) ∧ Below w.heap.size w w' := by
  have hi := pair_at5
  unfold pairsV at hi
  have O := Lib.hid ((Own.start w).alloc (.cells #[.int .i64 2, .int .i64 1] 74))
  go_enter Tryz.func202, Tryz.ntmps202
  go_wp2_with fail
  refine bodyPost_ret (v := .agg #[.int .i64 2, .int .i64 1]) (by simp [results, Tryz.results202, go_sem, cell_of_heap (O.out.blk (i := 0) rfl)]) rfl ⟨rfl, O.out.below⟩
end Go.Proofs.YtikimmgileffgaaGreatDoor
end
/- The rules of patterns (layer 7): the DH token of one's own key of a kind. This text was printed by genval2.py. -/
section
namespace Go.Proofs.YtikimmgileffgaaGreatDoor
open Go.RowKit

theorem eq321 (w : World) : (Op.equalIn 10000 74 (.agg #[.int .i64 1, .int .i64 1]) (.agg #[.int .i64 2, .int .i64 1])).run Tryz.prog w = .ok false w := by kernel_rfl
theorem eq421 (w : World) : (Op.equalIn 10000 74 (.agg #[.int .i64 1, .int .i64 2]) (.agg #[.int .i64 2, .int .i64 1])).run Tryz.prog w = .ok false w := by kernel_rfl
theorem eq521 (w : World) : (Op.equalIn 10000 74 (.agg #[.int .i64 2, .int .i64 1]) (.agg #[.int .i64 2, .int .i64 1])).run Tryz.prog w = .ok true w := by kernel_rfl
theorem eq312 (w : World) : (Op.equalIn 10000 74 (.agg #[.int .i64 1, .int .i64 1]) (.agg #[.int .i64 1, .int .i64 2])).run Tryz.prog w = .ok false w := by kernel_rfl
theorem eq412 (w : World) : (Op.equalIn 10000 74 (.agg #[.int .i64 1, .int .i64 2]) (.agg #[.int .i64 1, .int .i64 2])).run Tryz.prog w = .ok true w := by kernel_rfl
set_option maxHeartbeats 1600000 in
set_option maxRecDepth 100000 in
theorem mine_calls021 (w : World) : Calls Tryz.prog 203 #[.int .i64 0, .int .i64 2, .int .i64 1] w fun e w' => e = .returned (.int .i64 5) ∧ Below w.heap.size w w' := by
  have O0 := Lib.hid ((Own.start w).alloc (.cells #[.int .i64 2, .int .i64 1] 74))
  go_enter Tryz.func203, Tryz.ntmps203
  go_wp2_with fail
  generalize w.alloc (.cells #[.int .i64 2, .int .i64 1] 74) = W0 at *
  generalize w.heap.size = X at O0 ⊢
  go_loopw [8] (fun i wr => ∃ k : Nat, 3 ≤ k ∧ k ≤ 5 ∧ i = .int .i64 k ∧ Own w wr [blk X (.cells #[.int .i64 2, .int .i64 1] 74 (0, 0))])
    (fun i _ => 8 - (intOf i).toNat)
  case atStart => exact ⟨3, by omega, by omega, rfl, O0.out⟩
  case round =>
    clear O0
    obtain ⟨k, h3, ht, rfl, ok⟩ := hrel
    have Ok := Lib.hid ok
    clear ok
    have hk : k = 3 ∨ k = 4 ∨ k = 5 := by omega
    clear h3 ht
    have c0 := cell_of_heap (o := 0) (Ok.out.blk (i := 0) rfl)
    have c1 := cell_of_heap (o := 1) (Ok.out.blk (i := 0) rfl)
    simp only [List.getElem?_toArray, List.getElem?_cons_zero, List.getElem?_cons_succ] at c0 c1
    have hbb : Below wr.heap.size wr wr := Below.refl _ _
    have KS := Lib.hid (show ∀ w', Below wr.heap.size wr w' → (w'.cell? ⟨X, 0, none⟩ = some (.int .i64 2) ∧ w'.cell? ⟨X, 1, none⟩ = some (.int .i64 1)) from fun w' h => by
      have cc : ∀ {a : Addr} {v : Value}, wr.cell? a = some v → w'.cell? a = some v := fun {a v} hc => (h.cell (World.block_lt_of_cell? wr _ hc)).trans hc
      exact ⟨cc c0, cc c1⟩)
    rcases hk with rfl | rfl | rfl
    · rw [show (((3 : Nat)) : Int) = 3 from rfl]
      have heq := eq321
      go_upto_region 7 with fail
      go_region_held3 (fun w' => w'.cell? ⟨X, 0, none⟩ = some (.int .i64 2) ∧ w'.cell? ⟨X, 1, none⟩ = some (.int .i64 1))
        (first | exact KS.out _ (by repeat (first | with_reducible assumption | with_reducible refine Below.drew ?_ | with_reducible refine belowAlloc ?_ _)))
        (first
          | (go_at_call 202; with_reducible refine (pair_calls3 _).mono ?_; rintro e wa ⟨rfl, hba⟩; have hxa : Below wr.heap.size wr wa := below_call (by repeat (first | with_reducible assumption | with_reducible refine Below.drew ?_ | with_reducible refine belowAlloc ?_ _)) hba))
      all_goals
        have O2 := Lib.hid (Ok.out.call hxa)
        go_wp2_with fail
        go_roundw
      case rel => exact ⟨4, by omega, by omega, rfl, by first | exact O2.out | exact O2.out.drew⟩
      case measure => decide
    · rw [show (((4 : Nat)) : Int) = 4 from rfl]
      have heq := eq421
      go_upto_region 7 with fail
      go_region_held3 (fun w' => w'.cell? ⟨X, 0, none⟩ = some (.int .i64 2) ∧ w'.cell? ⟨X, 1, none⟩ = some (.int .i64 1))
        (first | exact KS.out _ (by repeat (first | with_reducible assumption | with_reducible refine Below.drew ?_ | with_reducible refine belowAlloc ?_ _)))
        (first
          | (go_at_call 202; with_reducible refine (pair_calls4 _).mono ?_; rintro e wa ⟨rfl, hba⟩; have hxa : Below wr.heap.size wr wa := below_call (by repeat (first | with_reducible assumption | with_reducible refine Below.drew ?_ | with_reducible refine belowAlloc ?_ _)) hba))
      all_goals
        have O2 := Lib.hid (Ok.out.call hxa)
        go_wp2_with fail
        go_roundw
      case rel => exact ⟨5, by omega, by omega, rfl, by first | exact O2.out | exact O2.out.drew⟩
      case measure => decide
    · rw [show (((5 : Nat)) : Int) = 5 from rfl]
      have heq := eq521
      go_upto_region 7 with fail
      go_region_held3 (fun w' => w'.cell? ⟨X, 0, none⟩ = some (.int .i64 2) ∧ w'.cell? ⟨X, 1, none⟩ = some (.int .i64 1))
        (first | exact KS.out _ (by repeat (first | with_reducible assumption | with_reducible refine Below.drew ?_ | with_reducible refine belowAlloc ?_ _)))
        (first
          | (go_at_call 202; with_reducible refine (pair_calls5 _).mono ?_; rintro e wa ⟨rfl, hba⟩; have hxa : Below wr.heap.size wr wa := below_call (by repeat (first | with_reducible assumption | with_reducible refine Below.drew ?_ | with_reducible refine belowAlloc ?_ _)) hba))
      all_goals
        have O2 := Lib.hid (Ok.out.call hxa)
        go_wp2_with fail
        go_ret
        exact ⟨rfl, by first | exact O2.out.below | exact O2.out.drew.below⟩
set_option maxHeartbeats 1600000 in
set_option maxRecDepth 100000 in
theorem mine_calls012 (w : World) : Calls Tryz.prog 203 #[.int .i64 0, .int .i64 1, .int .i64 2] w fun e w' => e = .returned (.int .i64 4) ∧ Below w.heap.size w w' := by
  have O0 := Lib.hid ((Own.start w).alloc (.cells #[.int .i64 1, .int .i64 2] 74))
  go_enter Tryz.func203, Tryz.ntmps203
  go_wp2_with fail
  generalize w.alloc (.cells #[.int .i64 1, .int .i64 2] 74) = W0 at *
  generalize w.heap.size = X at O0 ⊢
  go_loopw [8] (fun i wr => ∃ k : Nat, 3 ≤ k ∧ k ≤ 4 ∧ i = .int .i64 k ∧ Own w wr [blk X (.cells #[.int .i64 1, .int .i64 2] 74 (0, 0))])
    (fun i _ => 8 - (intOf i).toNat)
  case atStart => exact ⟨3, by omega, by omega, rfl, O0.out⟩
  case round =>
    clear O0
    obtain ⟨k, h3, ht, rfl, ok⟩ := hrel
    have Ok := Lib.hid ok
    clear ok
    have hk : k = 3 ∨ k = 4 := by omega
    clear h3 ht
    have c0 := cell_of_heap (o := 0) (Ok.out.blk (i := 0) rfl)
    have c1 := cell_of_heap (o := 1) (Ok.out.blk (i := 0) rfl)
    simp only [List.getElem?_toArray, List.getElem?_cons_zero, List.getElem?_cons_succ] at c0 c1
    have hbb : Below wr.heap.size wr wr := Below.refl _ _
    have KS := Lib.hid (show ∀ w', Below wr.heap.size wr w' → (w'.cell? ⟨X, 0, none⟩ = some (.int .i64 1) ∧ w'.cell? ⟨X, 1, none⟩ = some (.int .i64 2)) from fun w' h => by
      have cc : ∀ {a : Addr} {v : Value}, wr.cell? a = some v → w'.cell? a = some v := fun {a v} hc => (h.cell (World.block_lt_of_cell? wr _ hc)).trans hc
      exact ⟨cc c0, cc c1⟩)
    rcases hk with rfl | rfl
    · rw [show (((3 : Nat)) : Int) = 3 from rfl]
      have heq := eq312
      go_upto_region 7 with fail
      go_region_held3 (fun w' => w'.cell? ⟨X, 0, none⟩ = some (.int .i64 1) ∧ w'.cell? ⟨X, 1, none⟩ = some (.int .i64 2))
        (first | exact KS.out _ (by repeat (first | with_reducible assumption | with_reducible refine Below.drew ?_ | with_reducible refine belowAlloc ?_ _)))
        (first
          | (go_at_call 202; with_reducible refine (pair_calls3 _).mono ?_; rintro e wa ⟨rfl, hba⟩; have hxa : Below wr.heap.size wr wa := below_call (by repeat (first | with_reducible assumption | with_reducible refine Below.drew ?_ | with_reducible refine belowAlloc ?_ _)) hba))
      all_goals
        have O2 := Lib.hid (Ok.out.call hxa)
        go_wp2_with fail
        go_roundw
      case rel => exact ⟨4, by omega, by omega, rfl, by first | exact O2.out | exact O2.out.drew⟩
      case measure => decide
    · rw [show (((4 : Nat)) : Int) = 4 from rfl]
      have heq := eq412
      go_upto_region 7 with fail
      go_region_held3 (fun w' => w'.cell? ⟨X, 0, none⟩ = some (.int .i64 1) ∧ w'.cell? ⟨X, 1, none⟩ = some (.int .i64 2))
        (first | exact KS.out _ (by repeat (first | with_reducible assumption | with_reducible refine Below.drew ?_ | with_reducible refine belowAlloc ?_ _)))
        (first
          | (go_at_call 202; with_reducible refine (pair_calls4 _).mono ?_; rintro e wa ⟨rfl, hba⟩; have hxa : Below wr.heap.size wr wa := below_call (by repeat (first | with_reducible assumption | with_reducible refine Below.drew ?_ | with_reducible refine belowAlloc ?_ _)) hba))
      all_goals
        have O2 := Lib.hid (Ok.out.call hxa)
        go_wp2_with fail
        go_ret
        exact ⟨rfl, by first | exact O2.out.below | exact O2.out.drew.below⟩
set_option maxHeartbeats 1600000 in
set_option maxRecDepth 100000 in
theorem mine_calls121 (w : World) : Calls Tryz.prog 203 #[.int .i64 1, .int .i64 2, .int .i64 1] w fun e w' => e = .returned (.int .i64 4) ∧ Below w.heap.size w w' := by
  have O0 := Lib.hid ((Own.start w).alloc (.cells #[.int .i64 1, .int .i64 2] 74))
  go_enter Tryz.func203, Tryz.ntmps203
  go_wp2_with fail
  generalize w.alloc (.cells #[.int .i64 1, .int .i64 2] 74) = W0 at *
  generalize w.heap.size = X at O0 ⊢
  go_loopw [8] (fun i wr => ∃ k : Nat, 3 ≤ k ∧ k ≤ 4 ∧ i = .int .i64 k ∧ Own w wr [blk X (.cells #[.int .i64 1, .int .i64 2] 74 (0, 0))])
    (fun i _ => 8 - (intOf i).toNat)
  case atStart => exact ⟨3, by omega, by omega, rfl, O0.out⟩
  case round =>
    clear O0
    obtain ⟨k, h3, ht, rfl, ok⟩ := hrel
    have Ok := Lib.hid ok
    clear ok
    have hk : k = 3 ∨ k = 4 := by omega
    clear h3 ht
    have c0 := cell_of_heap (o := 0) (Ok.out.blk (i := 0) rfl)
    have c1 := cell_of_heap (o := 1) (Ok.out.blk (i := 0) rfl)
    simp only [List.getElem?_toArray, List.getElem?_cons_zero, List.getElem?_cons_succ] at c0 c1
    have hbb : Below wr.heap.size wr wr := Below.refl _ _
    have KS := Lib.hid (show ∀ w', Below wr.heap.size wr w' → (w'.cell? ⟨X, 0, none⟩ = some (.int .i64 1) ∧ w'.cell? ⟨X, 1, none⟩ = some (.int .i64 2)) from fun w' h => by
      have cc : ∀ {a : Addr} {v : Value}, wr.cell? a = some v → w'.cell? a = some v := fun {a v} hc => (h.cell (World.block_lt_of_cell? wr _ hc)).trans hc
      exact ⟨cc c0, cc c1⟩)
    rcases hk with rfl | rfl
    · rw [show (((3 : Nat)) : Int) = 3 from rfl]
      have heq := eq312
      go_upto_region 7 with fail
      go_region_held3 (fun w' => w'.cell? ⟨X, 0, none⟩ = some (.int .i64 1) ∧ w'.cell? ⟨X, 1, none⟩ = some (.int .i64 2))
        (first | exact KS.out _ (by repeat (first | with_reducible assumption | with_reducible refine Below.drew ?_ | with_reducible refine belowAlloc ?_ _)))
        (first
          | (go_at_call 202; with_reducible refine (pair_calls3 _).mono ?_; rintro e wa ⟨rfl, hba⟩; have hxa : Below wr.heap.size wr wa := below_call (by repeat (first | with_reducible assumption | with_reducible refine Below.drew ?_ | with_reducible refine belowAlloc ?_ _)) hba))
      all_goals
        have O2 := Lib.hid (Ok.out.call hxa)
        go_wp2_with fail
        go_roundw
      case rel => exact ⟨4, by omega, by omega, rfl, by first | exact O2.out | exact O2.out.drew⟩
      case measure => decide
    · rw [show (((4 : Nat)) : Int) = 4 from rfl]
      have heq := eq412
      go_upto_region 7 with fail
      go_region_held3 (fun w' => w'.cell? ⟨X, 0, none⟩ = some (.int .i64 1) ∧ w'.cell? ⟨X, 1, none⟩ = some (.int .i64 2))
        (first | exact KS.out _ (by repeat (first | with_reducible assumption | with_reducible refine Below.drew ?_ | with_reducible refine belowAlloc ?_ _)))
        (first
          | (go_at_call 202; with_reducible refine (pair_calls4 _).mono ?_; rintro e wa ⟨rfl, hba⟩; have hxa : Below wr.heap.size wr wa := below_call (by repeat (first | with_reducible assumption | with_reducible refine Below.drew ?_ | with_reducible refine belowAlloc ?_ _)) hba))
      all_goals
        have O2 := Lib.hid (Ok.out.call hxa)
        go_wp2_with fail
        go_ret
        exact ⟨rfl, by first | exact O2.out.below | exact O2.out.drew.below⟩
set_option maxHeartbeats 1600000 in
set_option maxRecDepth 100000 in
theorem mine_calls112 (w : World) : Calls Tryz.prog 203 #[.int .i64 1, .int .i64 1, .int .i64 2] w fun e w' => e = .returned (.int .i64 5) ∧ Below w.heap.size w w' := by
  have O0 := Lib.hid ((Own.start w).alloc (.cells #[.int .i64 2, .int .i64 1] 74))
  go_enter Tryz.func203, Tryz.ntmps203
  go_wp2_with fail
  generalize w.alloc (.cells #[.int .i64 2, .int .i64 1] 74) = W0 at *
  generalize w.heap.size = X at O0 ⊢
  go_loopw [8] (fun i wr => ∃ k : Nat, 3 ≤ k ∧ k ≤ 5 ∧ i = .int .i64 k ∧ Own w wr [blk X (.cells #[.int .i64 2, .int .i64 1] 74 (0, 0))])
    (fun i _ => 8 - (intOf i).toNat)
  case atStart => exact ⟨3, by omega, by omega, rfl, O0.out⟩
  case round =>
    clear O0
    obtain ⟨k, h3, ht, rfl, ok⟩ := hrel
    have Ok := Lib.hid ok
    clear ok
    have hk : k = 3 ∨ k = 4 ∨ k = 5 := by omega
    clear h3 ht
    have c0 := cell_of_heap (o := 0) (Ok.out.blk (i := 0) rfl)
    have c1 := cell_of_heap (o := 1) (Ok.out.blk (i := 0) rfl)
    simp only [List.getElem?_toArray, List.getElem?_cons_zero, List.getElem?_cons_succ] at c0 c1
    have hbb : Below wr.heap.size wr wr := Below.refl _ _
    have KS := Lib.hid (show ∀ w', Below wr.heap.size wr w' → (w'.cell? ⟨X, 0, none⟩ = some (.int .i64 2) ∧ w'.cell? ⟨X, 1, none⟩ = some (.int .i64 1)) from fun w' h => by
      have cc : ∀ {a : Addr} {v : Value}, wr.cell? a = some v → w'.cell? a = some v := fun {a v} hc => (h.cell (World.block_lt_of_cell? wr _ hc)).trans hc
      exact ⟨cc c0, cc c1⟩)
    rcases hk with rfl | rfl | rfl
    · rw [show (((3 : Nat)) : Int) = 3 from rfl]
      have heq := eq321
      go_upto_region 7 with fail
      go_region_held3 (fun w' => w'.cell? ⟨X, 0, none⟩ = some (.int .i64 2) ∧ w'.cell? ⟨X, 1, none⟩ = some (.int .i64 1))
        (first | exact KS.out _ (by repeat (first | with_reducible assumption | with_reducible refine Below.drew ?_ | with_reducible refine belowAlloc ?_ _)))
        (first
          | (go_at_call 202; with_reducible refine (pair_calls3 _).mono ?_; rintro e wa ⟨rfl, hba⟩; have hxa : Below wr.heap.size wr wa := below_call (by repeat (first | with_reducible assumption | with_reducible refine Below.drew ?_ | with_reducible refine belowAlloc ?_ _)) hba))
      all_goals
        have O2 := Lib.hid (Ok.out.call hxa)
        go_wp2_with fail
        go_roundw
      case rel => exact ⟨4, by omega, by omega, rfl, by first | exact O2.out | exact O2.out.drew⟩
      case measure => decide
    · rw [show (((4 : Nat)) : Int) = 4 from rfl]
      have heq := eq421
      go_upto_region 7 with fail
      go_region_held3 (fun w' => w'.cell? ⟨X, 0, none⟩ = some (.int .i64 2) ∧ w'.cell? ⟨X, 1, none⟩ = some (.int .i64 1))
        (first | exact KS.out _ (by repeat (first | with_reducible assumption | with_reducible refine Below.drew ?_ | with_reducible refine belowAlloc ?_ _)))
        (first
          | (go_at_call 202; with_reducible refine (pair_calls4 _).mono ?_; rintro e wa ⟨rfl, hba⟩; have hxa : Below wr.heap.size wr wa := below_call (by repeat (first | with_reducible assumption | with_reducible refine Below.drew ?_ | with_reducible refine belowAlloc ?_ _)) hba))
      all_goals
        have O2 := Lib.hid (Ok.out.call hxa)
        go_wp2_with fail
        go_roundw
      case rel => exact ⟨5, by omega, by omega, rfl, by first | exact O2.out | exact O2.out.drew⟩
      case measure => decide
    · rw [show (((5 : Nat)) : Int) = 5 from rfl]
      have heq := eq521
      go_upto_region 7 with fail
      go_region_held3 (fun w' => w'.cell? ⟨X, 0, none⟩ = some (.int .i64 2) ∧ w'.cell? ⟨X, 1, none⟩ = some (.int .i64 1))
        (first | exact KS.out _ (by repeat (first | with_reducible assumption | with_reducible refine Below.drew ?_ | with_reducible refine belowAlloc ?_ _)))
        (first
          | (go_at_call 202; with_reducible refine (pair_calls5 _).mono ?_; rintro e wa ⟨rfl, hba⟩; have hxa : Below wr.heap.size wr wa := below_call (by repeat (first | with_reducible assumption | with_reducible refine Below.drew ?_ | with_reducible refine belowAlloc ?_ _)) hba))
      all_goals
        have O2 := Lib.hid (Ok.out.call hxa)
        go_wp2_with fail
        go_ret
        exact ⟨rfl, by first | exact O2.out.below | exact O2.out.drew.below⟩
end Go.Proofs.YtikimmgileffgaaGreatDoor
end
