/- An arena among the things that a law has made; the calls of layer 1. -/
import Derived.Test.YtfelbecofbdeaaaGreatDoorTerm5
import Derived.Test.YtfelbecofbdeaaaGreatDoorOwn
namespace Go.Proofs.YtfelbecofbdeaaaGreatDoor
open Go.RowKit

def arena (r : Nat) (A : Ar) : Thing where
  P w S := IsArena w r A S
  lt _ _ h := h.lt
  keep _ _ _ _ h u hd := h.keep u hd

def ndObj (x : Nd) : Obj := .cells #[.int .i64 x.kind, .int .u64 x.n, .int .i64 x.a, .int .i64 x.b, .int .i64 x.c] 61 (0, 0)
/-- The calls of layer 1. -/
theorem new_own {w0 w : World} {L : List Thing} (h : Own w0 w L) (limit : Int) : Calls Tryz.prog 23 #[.int .i64 limit] w fun e w' => ∃ r, e = .returned (.pointer (some ⟨r, 0, none⟩)) ∧ Own w0 w' (arena r (newAr limit) :: L) :=
  (newArena_calls limit w).mono fun _ _ ⟨r, _, he, hr, hb, hs⟩ => ⟨r, he, h.new hb (Q := arena r (newAr limit)) hr hs⟩
theorem Own.left {w0 w : World} {L : List Thing} {i r : Nat} {A : Ar} (h : Own w0 w L) (hi : L[i]? = some (arena r A)) : ∃ S, IsArena w r A S ∧ ∀ A' w', Left w r S A' w' → Own w0 w' (L.set i (arena r A')) := by
  obtain ⟨S, hp, hk⟩ := h.upd hi
  exact ⟨S, hp, fun A' w' ⟨S', h1, h2, h3⟩ => hk w' (arena r A') S' h2 h1 h3⟩
theorem Own.arena {w0 w : World} {L : List Thing} {i r : Nat} {A : Ar} (h : Own w0 w L) (hi : L[i]? = some (Go.Proofs.YtfelbecofbdeaaaGreatDoor.arena r A)) : ∃ S, IsArena w r A S := by
  obtain ⟨S, h1, _⟩ := h.at hi; exact ⟨S, h1⟩
theorem mk_own {w0 w : World} {L : List Thing} {r : Nat} {A : Ar} (h : Own w0 w L) (i : Nat) (hi : L[i]? = some (arena r A)) (x : Nd) (hn0 : 0 ≤ x.n) (hn1 : x.n ≤ 18446744073709551615) :
    Calls Tryz.prog 27 #[.pointer (some ⟨r, 0, none⟩), x.val] w fun e w' => e = .returned (.tuple #[.int .i64 (mk A x).2.1, .int .i64 (mk A x).2.2]) ∧ Own w0 w' (L.set i (arena r (mk A x).1)) := by
  obtain ⟨S, hr, hk⟩ := h.left hi
  exact (mk_calls hr hn0 hn1).mono fun _ _ h2 => ⟨h2.1, hk _ _ h2.2⟩
theorem get_own {w0 w : World} {L : List Thing} {r : Nat} {A : Ar} (h : Own w0 w L) (i : Nat) (hi : L[i]? = some (arena r A)) (x : Int) :
    Calls Tryz.prog 32 #[.pointer (some ⟨r, 0, none⟩), .int .i64 x] w fun e w' => e = .returned (.tuple #[(getNd A.l x).val, .bool (has A.l x)]) ∧ Own w0 w' L := by
  obtain ⟨S, hr⟩ := h.arena hi
  exact (get_calls x hr).mono fun _ _ h2 => ⟨h2.1, h.call h2.2⟩
end Go.Proofs.YtfelbecofbdeaaaGreatDoor
