/- What the calls of Go's library read of package-level variables, in a world; and the numerals' texts. -/
import Derived.Test.YtfelbecofbdeaaaGreatDoorLib
import Derived.Test.YtfelbecofbdeaaaGreatDoorShelf
import Derived.Lib.SmallJoins
import Derived.Lib.Hide
import Derived.Lib.AppendIntMem
import Derived.Shelf.Strconv.Itoa3
namespace Go.Proofs.YtfelbecofbdeaaaGreatDoor
open Go.RowKit Go.Sort

structure Env (w : World) : Prop where
  tab : Lib.TabIs Tryz.prog w "internal/strconv.uint64pow10" .u64 Lib.pow10Tab
  mlen : ∃ m, w.cell? ⟨3, 0, none⟩ = some (.int .i64 m)
  syn : ∃ tp p, w.var? Tryz.prog "strconv.ErrSyntax" = some #[.iface tp p]
  rng : ∃ tp p, w.var? Tryz.prog "strconv.ErrRange" = some #[.iface tp p]
theorem gTab : ∃ g, Tryz.prog.globalNamed "internal/strconv.uint64pow10" = some g := by
  cases h : Tryz.prog.globalNamed "internal/strconv.uint64pow10" with
  | none => exact absurd h (by decide +kernel)
  | some g => exact ⟨g, rfl⟩
theorem gSyn : ∃ g, Tryz.prog.globalNamed "strconv.ErrSyntax" = some g := by
  cases h : Tryz.prog.globalNamed "strconv.ErrSyntax" with
  | none => exact absurd h (by decide +kernel)
  | some g => exact ⟨g, rfl⟩
theorem gRng : ∃ g, Tryz.prog.globalNamed "strconv.ErrRange" = some g := by
  cases h : Tryz.prog.globalNamed "strconv.ErrRange" with
  | none => exact absurd h (by decide +kernel)
  | some g => exact ⟨g, rfl⟩
theorem Env.below {w w' : World} (h : Env w) (hb : Below w.heap.size w w') : Env w' := by
  obtain ⟨g1, h1⟩ := gTab
  obtain ⟨g2, h2⟩ := gSyn
  obtain ⟨g3, h3⟩ := gRng
  obtain ⟨m, hm⟩ := h.mlen
  obtain ⟨tp, p, hs⟩ := h.syn
  obtain ⟨tq, q, hr⟩ := h.rng
  exact ⟨Joins.tab_stays h1 h.tab hb (Nat.le_refl _), ⟨m, (hb.cell (World.block_lt_of_cell? w _ hm)).trans hm⟩, ⟨tp, p, Joins.var_stays h2 hs hb (Nat.le_refl _)⟩, ⟨tq, q, Joins.var_stays h3 hr hb (Nat.le_refl _)⟩⟩

set_option maxHeartbeats 1600000 in
set_option maxRecDepth 100000 in
theorem formatUint_in (u : Nat) (h1 : u < 18446744073709551616) (w : World) (he : Env w) :
    Calls Tryz.prog 85 #[.int .u64 u, .int .i64 10] w fun e w' => e = .returned (.string ⟨(Lib.decDigits u).toArray⟩) ∧ Below w.heap.size w w' := by
  have htab := Lib.hid he.tab
  by_cases hs : u < 100
  · have hd : decide (u < 100) = true := decide_eq_true hs
    have hd2 : decide ((u : Int) < 100) = true := decide_eq_true (by omega)
    go_enter Tryz.func85, Tryz.ntmps85
    go_wp2_with fail
    refine (Sh.internal_strconv_small u hs _).mono ?_
    rintro e w' ⟨rfl, rfl⟩
    go_wp2_with fail
    go_ret
    exact ⟨rfl, Below.refl _ _⟩
  · have hu1 : 1 ≤ u := by omega
    have hd : decide (u < 100) = false := decide_eq_false hs
    have hd2 : decide ((u : Int) < 100) = false := decide_eq_false (by omega)
    have hnd20 : Lib.nDigits u ≤ 20 := by have := Lib.numDigits_eq u hu1 h1; split at this <;> omega
    have hal : Tryz.prog.arrayLen 154 = 24 := by kernel_rfl
    have hsl : ∀ W, (Instr.sliceAt 154 (.pointer (some ⟨w.heap.size, 0, none⟩)) none (some (.int .i64 (Lib.nDigits u : Int))) none).run Tryz.prog W = .ok (.slice (some ⟨w.heap.size, 0, none⟩) (Lib.nDigits u) 24) W := fun W => by
      rw [run_sliceAt_array_h W 154 ⟨w.heap.size, 0, none⟩ (by simp [Program.arrayLen, Program.elem, Tryz.underlying154]) .i64 (Lib.nDigits u : Int) (by omega) (by rw [hal]; omega)]
      go_simp
    have hH0 := Lib.holds_zero0 w 154 (Lib.nDigits u) (by omega)
    have hfmt := Sh.internal_strconv_formatBase10 w.heap.size 0 24 u (Array.replicate (Lib.nDigits u) 0) (w.alloc (.cells Lib.zeros24 154)) hH0 (by rw [Array.size_replicate]; exact Lib.lt_pow_nDigits u) h1 (by rw [Array.size_replicate]; omega)
    rw [Array.size_replicate] at hfmt
    have HH0 := Lib.hid hH0
    have iu : (100 : Int) ≤ (u : Int) := by omega
    clear hH0 hal
    go_enter Tryz.func85, Tryz.ntmps85
    go_wp2_with fail
    refine (Sh.internal_strconv_numDigits u hu1 h1 _ (Lib.tabIs_alloc htab.out _)).mono ?_
    rintro e w' ⟨rfl, rfl⟩
    go_wp2_with fail
    refine hfmt.mono ?_
    rintro e w' ⟨rfl, k, v', dk, rfl, hF⟩
    have hcv : (convert 104 9 (.slice (some ⟨w.heap.size, 0, none⟩) (Lib.nDigits u) 24)).run Tryz.prog ((putRow (fun (b : UInt8) => Value.int .u8 (b.toNat : Int)) (w.alloc (.cells Lib.zeros24 154)) w.heap.size 0 dk).drewN k) = .ok (.string ⟨(Lib.decDigits u).toArray⟩) ((putRow (fun (b : UInt8) => Value.int .u8 (b.toNat : Int)) (w.alloc (.cells Lib.zeros24 154)) w.heap.size 0 dk).drewN k) := by
      have h := run_convert_bytes_back (P := Tryz.prog) ((putRow (fun (b : UInt8) => Value.int .u8 (b.toNat : Int)) (w.alloc (.cells Lib.zeros24 154)) w.heap.size 0 dk).drewN k) 104 9 5 ⟨w.heap.size, 0, none⟩ 24 (Lib.decDigits u) Tryz.underlying104 Tryz.underlying5 Tryz.underlying9 (fun j hj => by
        rw [Lib.row_is_numeral hF j hj, Lib.add_plain, World.cell?_drewN]
        exact cell?_putRow (fun (b : UInt8) => Value.int .u8 (b.toNat : Int)) _ w.heap.size 0 _ dk HH0.out (by rw [hF.size, Array.size_replicate]) j (by rw [hF.size]; rw [Lib.decDigits_length] at hj; exact hj))
      rw [Lib.decDigits_length] at h
      exact h
    obtain ⟨os, eo⟩ := Lib.fin_at w (.cells Lib.zeros24 154) dk k 0
    have hb : Below w.heap.size w ((putRow (fun (b : UInt8) => Value.int .u8 (b.toNat : Int)) (w.alloc (.cells Lib.zeros24 154)) w.heap.size 0 dk).drewN k) := by rw [eo]; exact Lib.below_grow _ w (Nat.le_refl _) k os
    have Hb := Lib.hid hb
    generalize (putRow (fun (b : UInt8) => Value.int .u8 (b.toNat : Int)) (w.alloc (.cells Lib.zeros24 154)) w.heap.size 0 dk).drewN k = W2 at *
    clear hb eo HH0 hfmt hF
    go_wp2_with fail
    go_ret
    exact ⟨rfl, Hb.out⟩
set_option maxHeartbeats 400000 in
theorem formatUint_calls (u : Nat) (h1 : u < 18446744073709551616) (w : World) (he : Env w) :
    Calls Tryz.prog 57 #[.int .u64 u, .int .i64 10] w fun e w' => e = .returned (.string ⟨(Lib.decDigits u).toArray⟩) ∧ Below w.heap.size w w' := by
  have H1 := Lib.hid h1
  clear h1
  go_enter Tryz.func57, Tryz.ntmps57
  go_wp2_with fail
  refine (formatUint_in u H1.out _ he).mono ?_
  rintro e w' ⟨rfl, hb⟩
  go_wp2_with fail
  go_ret
  exact ⟨rfl, hb⟩
theorem itoa_calls (n : Nat) (h1 : n < 9223372036854775808) (w : World) (he : Env w) :
    Calls Tryz.prog 47 #[.int .i64 n] w fun e w' => e = .returned (.string ⟨(Lib.decDigits n).toArray⟩) ∧ Below w.heap.size w w' :=
  (Sh.strconv_Itoa n (by omega) (by omega) w he.tab).mono fun e w' ⟨h, k, os, hw⟩ => ⟨by rw [h, Lib.itoa_nonneg], by rw [hw]; exact Lib.below_grow _ w (Nat.le_refl _) k os⟩
end Go.Proofs.YtfelbecofbdeaaaGreatDoor
