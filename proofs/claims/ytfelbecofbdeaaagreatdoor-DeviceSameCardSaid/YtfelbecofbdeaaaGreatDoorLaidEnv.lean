/- From what a row lists of package-level variables to what the walks read of them; and the row's builder with both the listed variables and the world's shape. -/
import Derived.Test.YtfelbecofbdeaaaGreatDoorEnv
import Derived.Stop.LaidErr
import Derived.Lib.LaidTab
import Derived.Shelf.Vars
import Derived.Lay
import Derived.HandedShaped
import Derived.LaidLaws
namespace Go.Proofs.YtfelbecofbdeaaaGreatDoor
open Go.RowKit Go.Shelf

theorem gES : Tryz.prog.globalNamed "strconv.ErrSyntax" = some 0 := by kernel_rfl
theorem gESType : (Tryz.prog.globals[0]?).map (·.type) = some 87 := by kernel_rfl
theorem gER : Tryz.prog.globalNamed "strconv.ErrRange" = some 1 := by kernel_rfl
theorem gERType : (Tryz.prog.globals[1]?).map (·.type) = some 87 := by kernel_rfl
theorem gP10 : Tryz.prog.globalNamed "internal/strconv.uint64pow10" = some 2 := by kernel_rfl
theorem gP10Type : (Tryz.prog.globals[2]?).map (·.type) = some 172 := by kernel_rfl
theorem starES : "*" ++ "errors.errorString" = "*errors.errorString" := by decide
theorem rowES (u : TypeId) (h : Tryz.prog.typeName? 3 u = some "*errors.errorString") : u = 179 :=
  typeName_ptr_named (nm := "errors.errorString") (by rw [starES]; kernel_rfl) (by kernel_rfl) (by decide) u (by rw [starES]; exact h)
theorem errS_cells : Tryz.prog.cellsOf 181 = 1 := by kernel_rfl
theorem str_cells : Tryz.prog.cellsOf 9 = 1 := by kernel_rfl
/-- What is listed gives what is read. -/
theorem env_of_laid {W : World} {a b c e : String × DataW Unit} {r : List (String × DataW Unit)} {x y : List UInt8}
    (h : laidMet Tryz.prog (a :: b :: ("internal/strconv.uint64pow10", Lib.tabData .u64 Lib.pow10Tab) :: c :: ("strconv.ErrRange", .iface "*errors.errorString" (.ptr (.agg [.lit (.string x)]))) :: ("strconv.ErrSyntax", .iface "*errors.errorString" (.ptr (.agg [.lit (.string y)]))) :: r) W)
    (hs : W.ShapedOpen Tryz.prog) : Env W := by
  have h2 := h.tail.tail
  have h4 := h2.tail.tail
  have h5 := h4.tail
  obtain ⟨a0, s0, hv0, -⟩ := laid_sentinel h4 gER gERType Tryz.underlying87 rowES Tryz.underlying179 Tryz.underlying181 rfl rfl Tryz.underlying9 errS_cells str_cells
  obtain ⟨a1, s1, hv1, -⟩ := laid_sentinel h5 gES gESType Tryz.underlying87 rowES Tryz.underlying179 Tryz.underlying181 rfl rfl Tryz.underlying9 errS_cells str_cells
  exact ⟨Lib.tabIs_of_head gP10 gP10Type Tryz.underlying172 Tryz.underlying59 (by kernel_rfl) (by kernel_rfl) h2,
    cell_of_shapedOpen_int (zero := #[.int .i64 0]) hs (by decide +kernel) (by kernel_rfl) rfl (by kernel_rfl) (by kernel_rfl) Tryz.underlying3, ⟨_, _, hv1⟩, ⟨_, _, hv0⟩⟩

/-- The row's builder: what is listed, and the world's shape. -/
theorem returns_laid_shaped {H : Type} {enc : TypeId × Value → H} {a : Assume} {C : Checked} {os : Os} {f : FuncId} {fn : Func} {s : ChangeSpec} {conds : List PathCond} {apart fresh handsOn again : Bool} {X : World → Array Value → Prop}
    (hX : ∀ (w w' : World) (args : Array Value), w.heap = w'.heap → X w args → X w' args)
    (own : ownKnob C.prog.godebug = none) (started : os.Started) (noInit : C.prog.inits.idxOf? f = none) (hfn : C.prog.funcs[f]? = some fn)
    (witness : ∃ (w : World) (tape : Tape) (i : Input), w.os = os ∧ (w.forCall tape i).Shaped C.prog ∧ i.vars = [] ∧ Input.okWide C.prog (w.forCall tape i) .any w.heap.size f i ∧
      ((s.pre enc C.prog fn conds apart (w.forCall tape i).memory i.args ∧ X (w.forCall tape i).memory i.args) ∧ sizedMet enc C.prog fn (OpenSpec.ofChange s) apart (w.forCall tape i).memory i.args) ∧ a.holds C.prog (lone (Frame.enter C.prog f i.args .normal) [] (w.forCall tape i)))
    (contract : ∀ (W : World) (base : Nat) (args : Array Value) (ds gs : List (DataW H)) (before : List MemPlace),
      (∀ (j : Nat) t v, fn.params[j]? = some t → args[j]? = some v → Value.okWide C.prog W .any base t v) →
      DataW.Whole enc C.prog fn.params.toList s.vars apart W args.toList ds gs before →
      X W args → W.ShapedOpen C.prog →
      Calls C.prog f args W fun e W' => ∃ v, e = .returned v ∧ s.post enc C.prog fn apart fresh handsOn again W args v W') :
    ReturnsInHanded a C os f .any (fun w args => (s.pre enc C.prog fn conds apart w args ∧ X w args) ∧ sizedMet enc C.prog fn (OpenSpec.ofChange s) apart w args) (s.post enc C.prog fn apart fresh handsOn again) := by
  refine returnsInHanded_of_calls own started noInit witness ?_
  intro w tape i _ hsh _ hok hpre hholds
  obtain ⟨_, _, _, fn', hfn', _, _, _, _, hval⟩ := hok
  have e : fn' = fn := Option.some.inj (hfn'.symm.trans hfn)
  subst e
  obtain ⟨⟨⟨ds, gs, before, hw, hc⟩, hx⟩, hz⟩ := hpre
  have hw' := DataW.Whole.of_heap (w' := w.forCall tape i) (by rfl) hw
  refine (contract (w.forCall tape i) w.heap.size i.args ds gs before hval hw' (hX _ _ _ (by rfl) hx) hsh).mono fun e W' ⟨v, he, hp⟩ => ?_
  subst he
  exact ChangeSpec.post_blind hp
end Go.Proofs.YtfelbecofbdeaaaGreatDoor
