/- Nodes as keys of a map: they are compared field by field. -/
import Derived.Test.YtfelbecofbdeaaaGreatDoorAr
import Derived.Test.YtfelbecofbdeaaaGreatDoorMaps
namespace Go.Proofs.YtfelbecofbdeaaaGreatDoor
open Go.RowKit

theorem part_of {P : Program} {t : TypeId} {d : TypeDesc} (ht : P.underlying t = some d) (hd : (match d with | .struct _ | .array _ _ => false | _ => true) = true) {cs : Array Value} {off : Nat} {v : Value} (h : cs[off]? = some v) (w : World) : (part t cs off).run P w = .ok v w := by
  unfold part isAgg
  cases d <;> simp_all [run_underlying ht]
set_option maxHeartbeats 1000000 in
theorem nd_equal (x y : Nd) (w : World) : (Op.equal 61 x.val y.val).run Tryz.prog w = .ok (decide (x = y)) w := by
  have hi : ∀ (n : Nat) (a b : Int) (w : World), (Op.equalIn (n + 1) 3 (.int .i64 a) (.int .i64 b)).run Tryz.prog w = .ok (a == b) w := fun n a b w => by simp [Op.equalIn, run_underlying Tryz.underlying3]
  have hu : ∀ (n : Nat) (a b : Int) (w : World), (Op.equalIn (n + 1) 59 (.int .u64 a) (.int .u64 b)).run Tryz.prog w = .ok (a == b) w := fun n a b w => by simp [Op.equalIn, run_underlying Tryz.underlying59]
  have p0 := fun (a b c d e : Value) (w : World) => part_of (P := Tryz.prog) Tryz.underlying3 rfl (cs := #[a, b, c, d, e]) (off := 0) (v := a) rfl w
  have p1 := fun (a b c d e : Value) (w : World) => part_of (P := Tryz.prog) Tryz.underlying59 rfl (cs := #[a, b, c, d, e]) (off := 1) (v := b) rfl w
  have p2 := fun (a b c d e : Value) (w : World) => part_of (P := Tryz.prog) Tryz.underlying3 rfl (cs := #[a, b, c, d, e]) (off := 2) (v := c) rfl w
  have p3 := fun (a b c d e : Value) (w : World) => part_of (P := Tryz.prog) Tryz.underlying3 rfl (cs := #[a, b, c, d, e]) (off := 3) (v := d) rfl w
  have p4 := fun (a b c d e : Value) (w : World) => part_of (P := Tryz.prog) Tryz.underlying3 rfl (cs := #[a, b, c, d, e]) (off := 4) (v := e) rfl w
  have hst : Program.stoodInHeld Tryz.prog 61 = false := by kernel_rfl
  have h : ∀ n : Nat, (Op.equalIn (n + 2) 61 x.val y.val).run Tryz.prog w = .ok (decide (x = y)) w := fun n => by
    unfold Op.equalIn
    obtain ⟨k, m, a, b, c⟩ := x
    obtain ⟨k', m', a', b', c'⟩ := y
    simp only [Nd.val]
    simp only [Sem.run_bind, run_underlying Tryz.underlying61, Result.andThen_ok]
    simp [p0, p1, p2, p3, p4, hi, hu, hst]
    by_cases h1 : k = k'
    · by_cases h2 : m = m'
      · by_cases h3 : a = a'
        · by_cases h4 : b = b'
          · by_cases h5 : c = c' <;> simp [h1, h2, h3, h4, h5]
          · simp [h1, h2, h3, h4]
        · simp [h1, h2, h3]
      · simp [h1, h2]
    · simp [h1]
  exact h 9998
theorem nd_check (b : Bool) (x : Nd) (w : World) : (Instr.checkKey b 10000 61 x.val).run Tryz.prog w = .ok () w := by
  have hi : ∀ (n : Nat) (a : Int) (w : World), (Instr.checkKey b (n + 1) 3 (.int .i64 a)).run Tryz.prog w = .ok () w := fun n a w => by simp [Instr.checkKey, run_underlying Tryz.underlying3]
  have hu : ∀ (n : Nat) (a : Int) (w : World), (Instr.checkKey b (n + 1) 59 (.int .u64 a)).run Tryz.prog w = .ok () w := fun n a w => by simp [Instr.checkKey, run_underlying Tryz.underlying59]
  have p0 := fun (a b c d e : Value) (w : World) => part_of (P := Tryz.prog) Tryz.underlying3 rfl (cs := #[a, b, c, d, e]) (off := 0) (v := a) rfl w
  have p1 := fun (a b c d e : Value) (w : World) => part_of (P := Tryz.prog) Tryz.underlying59 rfl (cs := #[a, b, c, d, e]) (off := 1) (v := b) rfl w
  have p2 := fun (a b c d e : Value) (w : World) => part_of (P := Tryz.prog) Tryz.underlying3 rfl (cs := #[a, b, c, d, e]) (off := 2) (v := c) rfl w
  have p3 := fun (a b c d e : Value) (w : World) => part_of (P := Tryz.prog) Tryz.underlying3 rfl (cs := #[a, b, c, d, e]) (off := 3) (v := d) rfl w
  have p4 := fun (a b c d e : Value) (w : World) => part_of (P := Tryz.prog) Tryz.underlying3 rfl (cs := #[a, b, c, d, e]) (off := 4) (v := e) rfl w
  have h : ∀ n : Nat, (Instr.checkKey b (n + 2) 61 x.val).run Tryz.prog w = .ok () w := fun n => by
    unfold Instr.checkKey
    simp [run_underlying Tryz.underlying61, p0, p1, p2, p3, p4, hi, hu, Nd.val]
  exact h 9998
theorem nd_same (x : Nd) : Instr.sameBits 10000 x.val x.val = true := by
  have h : ∀ n : Nat, Instr.sameBits (n + 2) x.val x.val = true := fun n => by simp [Instr.sameBits, Nd.val]
  exact h 9998
theorem keyOk_nd : KeyOk Tryz.prog 61 Nd.val := keyOk_struct Tryz.underlying61 nd_check nd_equal nd_same
end Go.Proofs.YtfelbecofbdeaaaGreatDoor
