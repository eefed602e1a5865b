/- Atoi and ParseUint of the library: a number, or an error; Split at a byte. -/
import Derived.Test.YtfelbecofbdeaaaGreatDoorEnv
import Derived.Test.YtfelbecofbdeaaaGreatDoorSpL
import Derived.Lib.AtoiErrMem
namespace Go.Proofs.YtfelbecofbdeaaaGreatDoor
open Go.RowKit

def numI (s : ByteArray) : Option Int := match Lib.atoiAll s.data.toList with | .ok v => some v | _ => none
def numU (s : ByteArray) : Option Nat := match Lib.parseUintB 64 s.data.toList with | .ok v => some v | _ => none
def NumPost (r : Option Value) (z : IntKind) (w : World) (e : Ending) (w' : World) : Prop :=
  ∃ v ev, e = .returned (.tuple #[.int z v, ev]) ∧ Below w.heap.size w w' ∧ ((r = some (.int z v) ∧ ev = .nilIface) ∨ (r = none ∧ ∃ t q, ev = .iface t q))
theorem atoi_calls (s : ByteArray) (hlim : s.size ≤ 281474976710656) (w : World) (he : Env w) : Calls Tryz.prog 45 #[.string s] w (NumPost ((numI s).map (Value.int .i64)) .i64 w) := by
  unfold numI
  cases h : Lib.atoiAll s.data.toList with
  | ok v => exact (Sh.strconv_Atoi_ok s (by omega) v h w).mono fun e w' ⟨h1, h2⟩ => ⟨v, .nilIface, h1, by
      rcases h2 with rfl | ⟨t, rfl⟩
      · exact Below.refl _ _
      · exact Lib.bytesWorld_below _ _ _, .inl ⟨rfl, rfl⟩⟩
  | range =>
    obtain ⟨tp, p, hv⟩ := he.rng
    exact (Sh.strconv_Atoi_range_var s hlim h tp p w hv).mono fun e w' ⟨N, h1, h2, h3, h4⟩ => ⟨_, _, h1, h4, .inr ⟨rfl, _, _, rfl⟩⟩
  | _ =>
    obtain ⟨tp, p, hv⟩ := he.syn
    exact (Sh.strconv_Atoi_syntax_var s hlim h tp p w hv).mono fun e w' ⟨N, h1, h2, h3, h4⟩ => ⟨_, _, h1, h4, .inr ⟨rfl, _, _, rfl⟩⟩
theorem parseU_calls (s : ByteArray) (hlim : s.size ≤ 281474976710656) (w : World) (he : Env w) : Calls Tryz.prog 92 #[.string s, .int .i64 10, .int .i64 64] w (NumPost ((numU s).map fun n => Value.int .u64 (n : Int)) .u64 w) := by
  unfold numU
  cases h : Lib.parseUintB 64 s.data.toList with
  | ok v => exact (Sh.strconv_ParseUint_10_at64_ok s (by omega) v h w).mono fun e w' ⟨h1, h2⟩ => ⟨v, .nilIface, h1, by
      rcases h2 with rfl | rfl
      · exact Below.refl _ _
      · exact Lib.bytesWorld_below _ _ _, .inl ⟨rfl, rfl⟩⟩
  | range =>
    obtain ⟨tp, p, hv⟩ := he.rng
    exact (Sh.strconv_ParseUint_10_at64_range_var s hlim h tp p w hv).mono fun e w' ⟨N, h1, h2, h3, h4⟩ => ⟨_, _, h1, h4, .inr ⟨rfl, _, _, rfl⟩⟩
  | _ =>
    obtain ⟨tp, p, hv⟩ := he.syn
    exact (Sh.strconv_ParseUint_10_at64_syntax_var s hlim h tp p w hv).mono fun e w' ⟨N, h1, h2, h3, h4⟩ => ⟨_, _, h1, h4, .inr ⟨rfl, _, _, rfl⟩⟩
/-- The pieces lie in a block of their own. -/
def piecesO (ws : List ByteArray) : Obj := .cells (ws.map Value.string).toArray 9 (0, 0)
def SplitPost (ws : List ByteArray) (w : World) (e : Ending) (w' : World) : Prop :=
  e = .returned (.slice (some ⟨w.heap.size, 0, none⟩) ws.length ws.length) ∧ w' = w.alloc (piecesO ws)
theorem split_calls (c : UInt8) (s : ByteArray) (hs : s.size < 4294967281) (w : World) (he : Env w) : Calls Tryz.prog 41 #[.string s, .string ⟨#[c]⟩] w (SplitPost (splitS c s) w) := by
  obtain ⟨m, hm⟩ := he.mlen
  exact (Sh.strings_Split s ⟨#[c]⟩ m w hs hm (by show 1 ≤ 1; omega)).mono fun e w' ⟨h1, h2⟩ => ⟨by rw [h1, splitS_length], h2⟩
theorem piece_at {w : World} {b : Nat} {ws : List ByteArray} (h : w.heap[b]? = some (piecesO ws)) {k : Nat} {x : ByteArray} (hk : ws[k]? = some x) : w.cell? ⟨b, k, none⟩ = some (.string x) := by
  have := cell_of_heap (o := k) h
  rw [this]; simp [hk]
end Go.Proofs.YtfelbecofbdeaaaGreatDoor
