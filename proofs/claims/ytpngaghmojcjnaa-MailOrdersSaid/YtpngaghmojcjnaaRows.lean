/-
  No cell of these rows narrows 'for every input' (looked for: loops, veiled, ifaces, maps, wideKeys, modest, calm, conditions, laid).
  DERIVED. THE GIVEN ROWS OF THIS SEAT. 5 by the template 'for every input the law returns true; each argument reads behind the call as it read before'; 0 by the template 'total and deterministic' (their statements: YtpngaghmojcjnaaTotals.lean).
  GIVEN WITH THE SEED: the statements are not yours to turn. If you find one false, say at which input.
  Laid BY PROGRAM, IN A SANDBOX (cutbox-rows.mjs): the forced cells as the released guide's own fill.sh prints them over the translation 104b49139c5c69a8… (all of the seat's roots in one cut). By AI agents, Wed Nov 11 2026. No macro, syntax, notation, axiom, sorry.
-/
import Derived.Test.YtpngaghmojcjnaaChecked
import GoSem.Claim
import GoSem.ClaimJoined
import GoSem.ClaimMapViews
import Derived.JoinedTies
import Derived.KernelRfl
namespace Go.Proofs.Ytpngaghmojcjnaa
/- THE CELL 'sum', in the pinned program and in every row, IS THE sha256 OF THE DUMP (.gsa) THAT YtpngaghmojcjnaaProg.lean LOADS. Nothing in Lean hashes anything: it is a label: what it is worth is what the hold of that sum in a sandbox is worth. -/
noncomputable def Try.pinned : Pinned := { name := "ytpngaghmojcjnaa", sum := "104b49139c5c69a8a0078fa2c1f480e007f9ac45d63a37a1842081601b3b7a2b", checked := Try.checked }
namespace Rows
def none {H : Type} : Left H := { results := [], args := [] }

/-- 'undertonelaw16.MailRows': WHATEVER THE INPUT: true; the input reads as it did. -/
def mailRowsSpec : ChangeSpec := { name := "mailRows", fn := fun _ => fun
  | [d] => { results := [.lit (.bool true)], args := [d] }
  | _ => none }
def mailRowsRow : OpenClaim := { program := "ytpngaghmojcjnaa", sum := "104b49139c5c69a8a0078fa2c1f480e007f9ac45d63a37a1842081601b3b7a2b", func := "undertone/undertonelaw16.MailRows", spec := "mailRows", apart := false }
def MailRowsSaid : Prop := mailRowsRow.holds Try.pinned (OpenSpec.ofChange mailRowsSpec)

/-- ITS FALSE NEIGHBOUR: 'it returns false'. Refute it at one input. -/
def mailRowsWrong : ChangeSpec := { name := "mailRows", fn := fun _ => fun
  | [d] => { results := [.lit (.bool false)], args := [d] }
  | _ => none }
def MailRowsWrongFalsely : Prop := mailRowsRow.holds Try.pinned (OpenSpec.ofChange mailRowsWrong)

/-- 'undertonelaw16.MailRoom': WHATEVER THE INPUT: true; the input reads as it did. -/
def mailRoomSpec : ChangeSpec := { name := "mailRoom", fn := fun _ => fun
  | [d] => { results := [.lit (.bool true)], args := [d] }
  | _ => none }
def mailRoomRow : OpenClaim := { program := "ytpngaghmojcjnaa", sum := "104b49139c5c69a8a0078fa2c1f480e007f9ac45d63a37a1842081601b3b7a2b", func := "undertone/undertonelaw16.MailRoom", spec := "mailRoom", apart := false }
def MailRoomSaid : Prop := mailRoomRow.holds Try.pinned (OpenSpec.ofChange mailRoomSpec)

/-- ITS FALSE NEIGHBOUR: 'it returns false'. Refute it at one input. -/
def mailRoomWrong : ChangeSpec := { name := "mailRoom", fn := fun _ => fun
  | [d] => { results := [.lit (.bool false)], args := [d] }
  | _ => none }
def MailRoomWrongFalsely : Prop := mailRoomRow.holds Try.pinned (OpenSpec.ofChange mailRoomWrong)

/-- 'undertonelaw16.MailKeeps': WHATEVER THE INPUT: true; the input reads as it did. -/
def mailKeepsSpec : ChangeSpec := { name := "mailKeeps", fn := fun _ => fun
  | [d1, d2] => { results := [.lit (.bool true)], args := [d1, d2] }
  | _ => none }
def mailKeepsRow : OpenClaim := { program := "ytpngaghmojcjnaa", sum := "104b49139c5c69a8a0078fa2c1f480e007f9ac45d63a37a1842081601b3b7a2b", func := "undertone/undertonelaw16.MailKeeps", spec := "mailKeeps", apart := false }
def MailKeepsSaid : Prop := mailKeepsRow.holds Try.pinned (OpenSpec.ofChange mailKeepsSpec)

/-- ITS FALSE NEIGHBOUR: 'it returns false'. Refute it at one input. -/
def mailKeepsWrong : ChangeSpec := { name := "mailKeeps", fn := fun _ => fun
  | [d1, d2] => { results := [.lit (.bool false)], args := [d1, d2] }
  | _ => none }
def MailKeepsWrongFalsely : Prop := mailKeepsRow.holds Try.pinned (OpenSpec.ofChange mailKeepsWrong)

/-- 'undertonelaw16.MailOrders': WHATEVER THE INPUT: true; the input reads as it did. -/
def mailOrdersSpec : ChangeSpec := { name := "mailOrders", fn := fun _ => fun
  | [d1, d2, d3] => { results := [.lit (.bool true)], args := [d1, d2, d3] }
  | _ => none }
def mailOrdersRow : OpenClaim := { program := "ytpngaghmojcjnaa", sum := "104b49139c5c69a8a0078fa2c1f480e007f9ac45d63a37a1842081601b3b7a2b", func := "undertone/undertonelaw16.MailOrders", spec := "mailOrders", apart := false }
def MailOrdersSaid : Prop := mailOrdersRow.holds Try.pinned (OpenSpec.ofChange mailOrdersSpec)

/-- ITS FALSE NEIGHBOUR: 'it returns false'. Refute it at one input. -/
def mailOrdersWrong : ChangeSpec := { name := "mailOrders", fn := fun _ => fun
  | [d1, d2, d3] => { results := [.lit (.bool false)], args := [d1, d2, d3] }
  | _ => none }
def MailOrdersWrongFalsely : Prop := mailOrdersRow.holds Try.pinned (OpenSpec.ofChange mailOrdersWrong)

/-- 'undertonelaw16.MailTwice': WHATEVER THE INPUT: true; the input reads as it did. -/
def mailTwiceSpec : ChangeSpec := { name := "mailTwice", fn := fun _ => fun
  | [d1, d2] => { results := [.lit (.bool true)], args := [d1, d2] }
  | _ => none }
def mailTwiceRow : OpenClaim := { program := "ytpngaghmojcjnaa", sum := "104b49139c5c69a8a0078fa2c1f480e007f9ac45d63a37a1842081601b3b7a2b", func := "undertone/undertonelaw16.MailTwice", spec := "mailTwice", apart := false }
def MailTwiceSaid : Prop := mailTwiceRow.holds Try.pinned (OpenSpec.ofChange mailTwiceSpec)

/-- ITS FALSE NEIGHBOUR: 'it returns false'. Refute it at one input. -/
def mailTwiceWrong : ChangeSpec := { name := "mailTwice", fn := fun _ => fun
  | [d1, d2] => { results := [.lit (.bool false)], args := [d1, d2] }
  | _ => none }
def MailTwiceWrongFalsely : Prop := mailTwiceRow.holds Try.pinned (OpenSpec.ofChange mailTwiceWrong)

/- THE SECOND FORM. 'bulk': how many values and letters a reading holds, each counted each time it is reached (what is shared counts as often as it is met; a slice's spare places count too). A statement '..UptoSaid' is the law's where the arguments, and the package variables that the reading takes, are together of bulk at most 1048576: NARROWER than '..Said'. Prove '..Said' where nothing that the law and all that it calls make is longer than what came in: it says more and counts as full. Else prove '..UptoSaid'. A law counts once. -/
mutual
def uptoBulk {H : Type} : DataW H → Nat
  | .lit (.string bytes) => bytes.length + 1
  | .lit _ => 1
  | .nil => 1
  | .ptr d => uptoBulk d + 1
  | .slice elems spare => uptoBulkAll elems + uptoBulkAll spare + 1
  | .agg parts => uptoBulkAll parts + 1
  | .iface _ d => uptoBulk d + 1
  | .map entries => uptoBulkEntries entries + 1
  | .held _ => 1
def uptoBulkAll {H : Type} : List (DataW H) → Nat
  | [] => 0
  | d :: r => uptoBulk d + uptoBulkAll r
def uptoBulkEntries {H : Type} : List (Lit × DataW H) → Nat
  | [] => 0
  | x :: r => uptoBulkEntry x + uptoBulkEntries r
def uptoBulkEntry {H : Type} : Lit × DataW H → Nat
  | (.string bytes, d) => bytes.length + uptoBulk d + 1
  | (_, d) => uptoBulk d + 1
 end
def uptoSmall : (H : Type) → List (DataW H) → Bool := fun _ ds => decide (uptoBulkAll ds ≤ 1048576)
def OpenSpec.upto (s : _root_.Go.ChangeSpec) : _root_.Go.OpenSpec := { _root_.Go.OpenSpec.ofChange s with cond := some uptoSmall }

/-- 'undertonelaw16.MailRows', WHERE WHAT IT READS IS OF BULK AT MOST 1048576: true; the input reads as it did. -/
def mailRowsUptoRow : OpenClaim := { program := "ytpngaghmojcjnaa", sum := "104b49139c5c69a8a0078fa2c1f480e007f9ac45d63a37a1842081601b3b7a2b", func := "undertone/undertonelaw16.MailRows", spec := "mailRows", apart := false, narrowed := true }
def MailRowsUptoSaid : Prop := mailRowsUptoRow.holds Try.pinned (OpenSpec.upto mailRowsSpec)

/-- 'undertonelaw16.MailRoom', WHERE WHAT IT READS IS OF BULK AT MOST 1048576: true; the input reads as it did. -/
def mailRoomUptoRow : OpenClaim := { program := "ytpngaghmojcjnaa", sum := "104b49139c5c69a8a0078fa2c1f480e007f9ac45d63a37a1842081601b3b7a2b", func := "undertone/undertonelaw16.MailRoom", spec := "mailRoom", apart := false, narrowed := true }
def MailRoomUptoSaid : Prop := mailRoomUptoRow.holds Try.pinned (OpenSpec.upto mailRoomSpec)

/-- 'undertonelaw16.MailKeeps', WHERE WHAT IT READS IS OF BULK AT MOST 1048576: true; the input reads as it did. -/
def mailKeepsUptoRow : OpenClaim := { program := "ytpngaghmojcjnaa", sum := "104b49139c5c69a8a0078fa2c1f480e007f9ac45d63a37a1842081601b3b7a2b", func := "undertone/undertonelaw16.MailKeeps", spec := "mailKeeps", apart := false, narrowed := true }
def MailKeepsUptoSaid : Prop := mailKeepsUptoRow.holds Try.pinned (OpenSpec.upto mailKeepsSpec)

/-- 'undertonelaw16.MailOrders', WHERE WHAT IT READS IS OF BULK AT MOST 1048576: true; the input reads as it did. -/
def mailOrdersUptoRow : OpenClaim := { program := "ytpngaghmojcjnaa", sum := "104b49139c5c69a8a0078fa2c1f480e007f9ac45d63a37a1842081601b3b7a2b", func := "undertone/undertonelaw16.MailOrders", spec := "mailOrders", apart := false, narrowed := true }
def MailOrdersUptoSaid : Prop := mailOrdersUptoRow.holds Try.pinned (OpenSpec.upto mailOrdersSpec)

/-- 'undertonelaw16.MailTwice', WHERE WHAT IT READS IS OF BULK AT MOST 1048576: true; the input reads as it did. -/
def mailTwiceUptoRow : OpenClaim := { program := "ytpngaghmojcjnaa", sum := "104b49139c5c69a8a0078fa2c1f480e007f9ac45d63a37a1842081601b3b7a2b", func := "undertone/undertonelaw16.MailTwice", spec := "mailTwice", apart := false, narrowed := true }
def MailTwiceUptoSaid : Prop := mailTwiceUptoRow.holds Try.pinned (OpenSpec.upto mailTwiceSpec)

end Rows
end Go.Proofs.Ytpngaghmojcjnaa
