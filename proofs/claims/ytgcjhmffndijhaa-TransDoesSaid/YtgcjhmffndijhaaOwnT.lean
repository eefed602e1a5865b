/- The calls of layers 10 and 13, on what a law has made. -/
import Derived.Test.YtgcjhmffndijhaaOwnA
import Derived.Test.YtgcjhmffndijhaaTra
namespace Go.Proofs.Ytgcjhmffndijhaa
open Go.RowKit

theorem tSeal_own {w0 w : World} {L : List Thing} {r : Nat} {A : Ar} (h : Own w0 w L) (i : Nat) (hi : L[i]? = some (arena r A)) (t : Tr) (p : Int) (h0 : 0 ≤ t.send.n) (h1 : t.send.n ≤ 18446744073709551615) :
    Calls Try.prog 11 #[t.val, .pointer (some ⟨r, 0, none⟩), .int .i64 p] w fun e w' => e = .returned (.tuple #[(sealT A t p).2.1.val, .int .i64 (sealT A t p).2.2.1, .int .i64 (sealT A t p).2.2.2]) ∧ Own w0 w' (L.set i (arena r (sealT A t p).1)) := by
  obtain ⟨S, hr, hk⟩ := h.left hi
  exact (tSeal_calls hr h0 h1).mono fun _ _ h2 => ⟨h2.1, hk _ _ h2.2⟩
theorem tOpen_own {w0 w : World} {L : List Thing} {r : Nat} {A : Ar} (h : Own w0 w L) (i : Nat) (hi : L[i]? = some (arena r A)) (t : Tr) (p : Int) (h0 : 0 ≤ t.recv.n) (h1 : t.recv.n ≤ 18446744073709551615) :
    Calls Try.prog 13 #[t.val, .pointer (some ⟨r, 0, none⟩), .int .i64 p] w fun e w' => e = .returned (.tuple #[(openT A.l t p).1.val, .int .i64 (openT A.l t p).2.1, .int .i64 (openT A.l t p).2.2]) ∧ Own w0 w' L := by
  obtain ⟨S, hr⟩ := h.arena hi
  exact (tOpen_calls hr h0 h1).mono fun _ _ h2 => ⟨h2.1, h.call h2.2⟩
theorem tRekey_own {w0 w : World} {L : List Thing} {r : Nat} {A : Ar} (h : Own w0 w L) (i : Nat) (hi : L[i]? = some (arena r A)) (t : Tr) (b : Bool) :
    Calls Try.prog 18 #[t.val, .pointer (some ⟨r, 0, none⟩), .bool b] w fun e w' => e = .returned (.tuple #[(rekeyT A t b).2.1.val, .int .i64 (rekeyT A t b).2.2]) ∧ Own w0 w' (L.set i (arena r (rekeyT A t b).1)) := by
  obtain ⟨S, hr, hk⟩ := h.left hi
  exact (tRekey_calls hr).mono fun _ _ h2 => ⟨h2.1, hk _ _ h2.2⟩
def trObj (t : Tr) : Obj := .cells #[.int .i64 t.send.key, .bool t.send.has, .int .u64 t.send.n, .int .i64 t.recv.key, .bool t.recv.has, .int .u64 t.recv.n] 34 (0, 0)
def ndObj (x : Nd) : Obj := .cells #[.int .i64 x.kind, .int .u64 x.n, .int .i64 x.a, .int .i64 x.b, .int .i64 x.c] 29 (0, 0)
theorem Own.set6 {w0 w : World} {L : List Thing} (i : Nat) {b : Nat} {a0 a1 a2 a3 a4 a5 : Value} {e : TypeId} (h : Own w0 w L) (hi : L[i]? = some (Go.Proofs.Ytgcjhmffndijhaa.blk b (.cells #[a0, a1, a2, a3, a4, a5] e (0, 0)))) (v0 v1 v2 v3 v4 v5 : Value) :
    Own w0 ((((((w.setCell ⟨b, 0, none⟩ v0).setCell ⟨b, 1, none⟩ v1).setCell ⟨b, 2, none⟩ v2).setCell ⟨b, 3, none⟩ v3).setCell ⟨b, 4, none⟩ v4).setCell ⟨b, 5, none⟩ v5) (L.set i (Go.Proofs.Ytgcjhmffndijhaa.blk b (.cells #[v0, v1, v2, v3, v4, v5] e (0, 0)))) :=
  h.store hi ((Upd.refl (One b) w).set6 (fun _ => rfl) _ _ _ _ _ _) (heap_set6 (h.blk hi))
end Go.Proofs.Ytgcjhmffndijhaa
