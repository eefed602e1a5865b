/-
  No cell of these rows narrows 'for every input' (looked for: loops, veiled, ifaces, maps, wideKeys, modest, calm, conditions, laid).
  DERIVED. THE GIVEN ROWS OF THIS SEAT. 5 by the template 'for every input the law returns true; each argument reads behind the call as it read before'; 0 by the template 'total and deterministic' (their statements: YtgcjhmffndijhaaTotals.lean).
  GIVEN WITH THE SEED: the statements are not yours to turn. If you find one false, say at which input.
  Laid BY PROGRAM, IN A SANDBOX (cutbox-rows.mjs): the forced cells as the released guide's own fill.sh prints them over the translation 55e18bf4b923c0a8… (all of the seat's roots in one cut). By AI agents, Wed Nov 11 2026. No macro, syntax, notation, axiom, sorry.
-/
import Derived.Test.YtgcjhmffndijhaaChecked
import GoSem.Claim
import GoSem.ClaimJoined
import GoSem.ClaimMapViews
import Derived.JoinedTies
import Derived.KernelRfl
namespace Go.Proofs.Ytgcjhmffndijhaa
/- THE CELL 'sum', in the pinned program and in every row, IS THE sha256 OF THE DUMP (.gsa) THAT YtgcjhmffndijhaaProg.lean LOADS. Nothing in Lean hashes anything: it is a label: what it is worth is what the hold of that sum in a sandbox is worth. -/
noncomputable def Try.pinned : Pinned := { name := "ytgcjhmffndijhaa", sum := "55e18bf4b923c0a8486237a5df5a4ab572003f3cf93137b9be77d92b6806eb6b", checked := Try.checked }
namespace Rows
def none {H : Type} : Left H := { results := [], args := [] }

/-- 'undertonelaw13.TransNumbers': WHATEVER THE INPUT: true; the input reads as it did. -/
def transNumbersSpec : ChangeSpec := { name := "transNumbers", fn := fun _ => fun
  | [d1, d2, d3] => { results := [.lit (.bool true)], args := [d1, d2, d3] }
  | _ => none }
def transNumbersRow : OpenClaim := { program := "ytgcjhmffndijhaa", sum := "55e18bf4b923c0a8486237a5df5a4ab572003f3cf93137b9be77d92b6806eb6b", func := "undertone/undertonelaw13.TransNumbers", spec := "transNumbers", unfollowed := true, recurses := true, plainKeys := false, apart := false }
def TransNumbersSaid : Prop := transNumbersRow.holds Try.pinned (OpenSpec.ofChange transNumbersSpec)

/-- ITS FALSE NEIGHBOUR: 'it returns false'. Refute it at one input. -/
def transNumbersWrong : ChangeSpec := { name := "transNumbers", fn := fun _ => fun
  | [d1, d2, d3] => { results := [.lit (.bool false)], args := [d1, d2, d3] }
  | _ => none }
def TransNumbersWrongFalsely : Prop := transNumbersRow.holds Try.pinned (OpenSpec.ofChange transNumbersWrong)

/-- 'undertonelaw13.TransApart': WHATEVER THE INPUT: true; the input reads as it did. -/
def transApartSpec : ChangeSpec := { name := "transApart", fn := fun _ => fun
  | [d1, d2, d3] => { results := [.lit (.bool true)], args := [d1, d2, d3] }
  | _ => none }
def transApartRow : OpenClaim := { program := "ytgcjhmffndijhaa", sum := "55e18bf4b923c0a8486237a5df5a4ab572003f3cf93137b9be77d92b6806eb6b", func := "undertone/undertonelaw13.TransApart", spec := "transApart", unfollowed := true, recurses := true, plainKeys := false, apart := false }
def TransApartSaid : Prop := transApartRow.holds Try.pinned (OpenSpec.ofChange transApartSpec)

/-- ITS FALSE NEIGHBOUR: 'it returns false'. Refute it at one input. -/
def transApartWrong : ChangeSpec := { name := "transApart", fn := fun _ => fun
  | [d1, d2, d3] => { results := [.lit (.bool false)], args := [d1, d2, d3] }
  | _ => none }
def TransApartWrongFalsely : Prop := transApartRow.holds Try.pinned (OpenSpec.ofChange transApartWrong)

/-- 'undertonelaw13.TransBoth': WHATEVER THE INPUT: true; the input reads as it did. -/
def transBothSpec : ChangeSpec := { name := "transBoth", fn := fun _ => fun
  | [d1, d2, d3, d4] => { results := [.lit (.bool true)], args := [d1, d2, d3, d4] }
  | _ => none }
def transBothRow : OpenClaim := { program := "ytgcjhmffndijhaa", sum := "55e18bf4b923c0a8486237a5df5a4ab572003f3cf93137b9be77d92b6806eb6b", func := "undertone/undertonelaw13.TransBoth", spec := "transBoth", unfollowed := true, recurses := true, plainKeys := false, apart := false }
def TransBothSaid : Prop := transBothRow.holds Try.pinned (OpenSpec.ofChange transBothSpec)

/-- ITS FALSE NEIGHBOUR: 'it returns false'. Refute it at one input. -/
def transBothWrong : ChangeSpec := { name := "transBoth", fn := fun _ => fun
  | [d1, d2, d3, d4] => { results := [.lit (.bool false)], args := [d1, d2, d3, d4] }
  | _ => none }
def TransBothWrongFalsely : Prop := transBothRow.holds Try.pinned (OpenSpec.ofChange transBothWrong)

/-- 'undertonelaw13.TransKeys': WHATEVER THE INPUT: true; the input reads as it did. -/
def transKeysSpec : ChangeSpec := { name := "transKeys", fn := fun _ => fun
  | [d1, d2, d3] => { results := [.lit (.bool true)], args := [d1, d2, d3] }
  | _ => none }
def transKeysRow : OpenClaim := { program := "ytgcjhmffndijhaa", sum := "55e18bf4b923c0a8486237a5df5a4ab572003f3cf93137b9be77d92b6806eb6b", func := "undertone/undertonelaw13.TransKeys", spec := "transKeys", unfollowed := true, recurses := true, plainKeys := false, apart := false }
def TransKeysSaid : Prop := transKeysRow.holds Try.pinned (OpenSpec.ofChange transKeysSpec)

/-- ITS FALSE NEIGHBOUR: 'it returns false'. Refute it at one input. -/
def transKeysWrong : ChangeSpec := { name := "transKeys", fn := fun _ => fun
  | [d1, d2, d3] => { results := [.lit (.bool false)], args := [d1, d2, d3] }
  | _ => none }
def TransKeysWrongFalsely : Prop := transKeysRow.holds Try.pinned (OpenSpec.ofChange transKeysWrong)

/-- 'undertonelaw13.TransDoes': WHATEVER THE INPUT: true; the input reads as it did. -/
def transDoesSpec : ChangeSpec := { name := "transDoes", fn := fun _ => fun
  | [d1, d2, d3, d4] => { results := [.lit (.bool true)], args := [d1, d2, d3, d4] }
  | _ => none }
def transDoesRow : OpenClaim := { program := "ytgcjhmffndijhaa", sum := "55e18bf4b923c0a8486237a5df5a4ab572003f3cf93137b9be77d92b6806eb6b", func := "undertone/undertonelaw13.TransDoes", spec := "transDoes", unfollowed := true, recurses := true, plainKeys := false, apart := false }
def TransDoesSaid : Prop := transDoesRow.holds Try.pinned (OpenSpec.ofChange transDoesSpec)

/-- ITS FALSE NEIGHBOUR: 'it returns false'. Refute it at one input. -/
def transDoesWrong : ChangeSpec := { name := "transDoes", fn := fun _ => fun
  | [d1, d2, d3, d4] => { results := [.lit (.bool false)], args := [d1, d2, d3, d4] }
  | _ => none }
def TransDoesWrongFalsely : Prop := transDoesRow.holds Try.pinned (OpenSpec.ofChange transDoesWrong)

/- THE SECOND FORM. 'bulk': how many values and letters a reading holds, each counted each time it is reached (what is shared counts as often as it is met; a slice's spare places count too). A statement '..UptoSaid' is the law's where the arguments, and the package variables that the reading takes, are together of bulk at most 1048576: NARROWER than '..Said'. Prove '..Said' where nothing that the law and all that it calls make is longer than what came in: it says more and counts as full. Else prove '..UptoSaid'. A law counts once. -/
mutual
def uptoBulk {H : Type} : DataW H → Nat
  | .lit (.string bytes) => bytes.length + 1
  | .lit _ => 1
  | .nil => 1
  | .ptr d => uptoBulk d + 1
  | .slice elems spare => uptoBulkAll elems + uptoBulkAll spare + 1
  | .agg parts => uptoBulkAll parts + 1
  | .iface _ d => uptoBulk d + 1
  | .map entries => uptoBulkEntries entries + 1
  | .held _ => 1
def uptoBulkAll {H : Type} : List (DataW H) → Nat
  | [] => 0
  | d :: r => uptoBulk d + uptoBulkAll r
def uptoBulkEntries {H : Type} : List (Lit × DataW H) → Nat
  | [] => 0
  | x :: r => uptoBulkEntry x + uptoBulkEntries r
def uptoBulkEntry {H : Type} : Lit × DataW H → Nat
  | (.string bytes, d) => bytes.length + uptoBulk d + 1
  | (_, d) => uptoBulk d + 1
 end
def uptoSmall : (H : Type) → List (DataW H) → Bool := fun _ ds => decide (uptoBulkAll ds ≤ 1048576)
def OpenSpec.upto (s : _root_.Go.ChangeSpec) : _root_.Go.OpenSpec := { _root_.Go.OpenSpec.ofChange s with cond := some uptoSmall }

/-- 'undertonelaw13.TransNumbers', WHERE WHAT IT READS IS OF BULK AT MOST 1048576: true; the input reads as it did. -/
def transNumbersUptoRow : OpenClaim := { program := "ytgcjhmffndijhaa", sum := "55e18bf4b923c0a8486237a5df5a4ab572003f3cf93137b9be77d92b6806eb6b", func := "undertone/undertonelaw13.TransNumbers", spec := "transNumbers", unfollowed := true, recurses := true, plainKeys := false, apart := false, narrowed := true }
def TransNumbersUptoSaid : Prop := transNumbersUptoRow.holds Try.pinned (OpenSpec.upto transNumbersSpec)

/-- 'undertonelaw13.TransApart', WHERE WHAT IT READS IS OF BULK AT MOST 1048576: true; the input reads as it did. -/
def transApartUptoRow : OpenClaim := { program := "ytgcjhmffndijhaa", sum := "55e18bf4b923c0a8486237a5df5a4ab572003f3cf93137b9be77d92b6806eb6b", func := "undertone/undertonelaw13.TransApart", spec := "transApart", unfollowed := true, recurses := true, plainKeys := false, apart := false, narrowed := true }
def TransApartUptoSaid : Prop := transApartUptoRow.holds Try.pinned (OpenSpec.upto transApartSpec)

/-- 'undertonelaw13.TransBoth', WHERE WHAT IT READS IS OF BULK AT MOST 1048576: true; the input reads as it did. -/
def transBothUptoRow : OpenClaim := { program := "ytgcjhmffndijhaa", sum := "55e18bf4b923c0a8486237a5df5a4ab572003f3cf93137b9be77d92b6806eb6b", func := "undertone/undertonelaw13.TransBoth", spec := "transBoth", unfollowed := true, recurses := true, plainKeys := false, apart := false, narrowed := true }
def TransBothUptoSaid : Prop := transBothUptoRow.holds Try.pinned (OpenSpec.upto transBothSpec)

/-- 'undertonelaw13.TransKeys', WHERE WHAT IT READS IS OF BULK AT MOST 1048576: true; the input reads as it did. -/
def transKeysUptoRow : OpenClaim := { program := "ytgcjhmffndijhaa", sum := "55e18bf4b923c0a8486237a5df5a4ab572003f3cf93137b9be77d92b6806eb6b", func := "undertone/undertonelaw13.TransKeys", spec := "transKeys", unfollowed := true, recurses := true, plainKeys := false, apart := false, narrowed := true }
def TransKeysUptoSaid : Prop := transKeysUptoRow.holds Try.pinned (OpenSpec.upto transKeysSpec)

/-- 'undertonelaw13.TransDoes', WHERE WHAT IT READS IS OF BULK AT MOST 1048576: true; the input reads as it did. -/
def transDoesUptoRow : OpenClaim := { program := "ytgcjhmffndijhaa", sum := "55e18bf4b923c0a8486237a5df5a4ab572003f3cf93137b9be77d92b6806eb6b", func := "undertone/undertonelaw13.TransDoes", spec := "transDoes", unfollowed := true, recurses := true, plainKeys := false, apart := false, narrowed := true }
def TransDoesUptoSaid : Prop := transDoesUptoRow.holds Try.pinned (OpenSpec.upto transDoesSpec)

end Rows
end Go.Proofs.Ytgcjhmffndijhaa
