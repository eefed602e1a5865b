/- The document's arena, old or new, among the things that a call has made. -/
import Derived.Test.YtfelbecofbdeaaaGreatDoorR2f
import Derived.Test.YtfelbecofbdeaaaGreatDoorR2
import Derived.Test.YtfelbecofbdeaaaGreatDoorRef5
namespace Go.Proofs.YtfelbecofbdeaaaGreatDoor
open Go.RowKit

/-- The document's arena: in a block of its own, or in one that was there. -/
def refU (w0 : World) (g cap : Nat) (l : List Nd) : Thing where
  P w S := (g < w0.heap.size ∧ RefAt w0 g cap l ∧ ∀ k, ¬ S k) ∨ (RefAt w g cap l ∧ ∀ k, S k ↔ k = g)
  lt w S h k hk := by
    rcases h with ⟨_, _, h⟩ | ⟨h1, h2⟩
    · exact absurd hk (h k)
    · rw [h2] at hk; subst hk; exact (h1.lt k rfl).2
  keep w w' S T h u hd := by
    rcases h with h | ⟨h1, h2⟩
    · exact .inl h
    · exact .inr ⟨ownsRow_upd' h1 u (fun k hk => hd k ((h2 k).2 (by simp [Value.ownBlock] at hk; exact hk.symm))), h2⟩
theorem RefAt.of_block {w w' : World} {g cap : Nat} {l : List Nd} (h : RefAt w g cap l) (hb : w'.heap[g]? = w.heap[g]?) : RefAt w' g cap l := by
  obtain ⟨h1, h2⟩ := h
  refine ⟨h1, ?_⟩
  rcases h2 with h2 | ⟨g', c, cur, e, hb2, hg, rest⟩
  · exact .inl h2
  · cases e; exact .inr ⟨g, _, cur, rfl, hb2, hb.trans hg, rest⟩
theorem Own.refU {w0 w : World} {L : List Thing} {i g cap : Nat} {l : List Nd} (h : Own w0 w L) (hi : L[i]? = some (Go.Proofs.YtfelbecofbdeaaaGreatDoor.refU w0 g cap l)) : RefAt w g cap l := by
  obtain ⟨S, h1, _⟩ := h.at hi
  rcases h1 with ⟨hg, h1, _⟩ | ⟨h1, _⟩
  · exact h1.of_block (h.below.block g hg)
  · exact h1
theorem Own.startU {w : World} {g cap : Nat} {l : List Nd} (h : RefAt w g cap l) : Own w w [Go.Proofs.YtfelbecofbdeaaaGreatDoor.refU w g cap l] :=
  (Own.start w).new (Below.refl _ _) (Q := Go.Proofs.YtfelbecofbdeaaaGreatDoor.refU w g cap l) (S := fun _ => False) (.inl ⟨(h.lt g rfl).2, h, fun _ h => h⟩) (fun _ h => h.elim)
theorem Own.newRefU {w0 w w' : World} {L : List Thing} {i g cap g' cap' : Nat} {l l' : List Nd} (h : Own w0 w L) (hi : L[i]? = some (Go.Proofs.YtfelbecofbdeaaaGreatDoor.refU w0 g cap l)) (hb : Below w.heap.size w w') (hr : RefAt w' g' cap' l') (hg : g' = g ∨ w.heap.size ≤ g') : Own w0 w' (L.set i (Go.Proofs.YtfelbecofbdeaaaGreatDoor.refU w0 g' cap' l')) := by
  obtain ⟨S, hp, hk⟩ := h.upd hi
  rcases hg with rfl | hg
  · rcases hp with ⟨h1, h2, h3⟩ | ⟨h1, h2⟩
    · refine hk w' _ (fun _ => False) (Upd.of_below hb) (.inl ⟨h1, ?_, fun _ h => h⟩) (fun b h => h.elim)
      exact hr.of_block (((hb.block g' (Nat.lt_of_lt_of_le h1 h.size)).trans (h.below.block g' h1)).symm)
    · exact hk w' _ S (Upd.of_below hb) (.inr ⟨hr, h2⟩) (fun b h => .inl h)
  · exact hk w' _ (fun k => k = g') (Upd.of_below hb) (.inr ⟨hr, fun _ => Iff.rfl⟩) (fun b h => .inr (by omega))
def ReadPost2 (A : Ar) (s : List UInt8) (w : World) (e : Ending) (w' : World) : Prop :=
  ∃ (A' : Ar) (g' cap' : Nat) (x : Int) (ok : Bool), e = .returned (.tuple #[refV A' g' cap', .int .i64 x, .bool ok]) ∧ RefAt w' g' cap' A'.l ∧ Below w.heap.size w w' ∧ 1 ≤ A'.l.length ∧ (ok = true → ReadOk A s A' x) ∧ ∀ B y, ReadOk A s B y → ok = true ∧ A' = B ∧ x = y
/-! What the loop of the document's Read of layer 2 keeps. -/
structure RunAt (A : Ar) (s : ByteArray) (k : Nat) (A1 : Ar) (had : List Int) (rows : List (List UInt8)) (now : List UInt8) : Prop where
  split : splitL 59 (s.data.toList.take k) = rows ++ [now]
  run : RefRun A rows A1 had
  ok : ArOk A1
  room : A1.l.length ≤ A1.limit ∧ A1.limit ≤ 65536
  len : A1.l.length ≤ 100 + k ∧ 1 ≤ A1.l.length
  hl : had.length ≤ k
  nl : now.length ≤ k
theorem runAt_other {A : Ar} {s : ByteArray} {k : Nat} {A1 : Ar} {had : List Int} {rows : List (List UInt8)} {now : List UInt8} (h : RunAt A s k A1 had rows now) (hlt : k < s.size) (hc : s[k] ≠ 59) : RunAt A s (k + 1) A1 had rows (now ++ [s[k]]) where
  split := by
    have htk : s.data.toList.take (k + 1) = s.data.toList.take k ++ [s[k]] := take_succ hlt
    rw [htk, splitL_snoc, if_neg hc, h.split]; simp [List.getLastD_eq_getLast?]
  run := h.run
  ok := h.ok
  room := h.room
  len := by have := h.len; omega
  hl := by have := h.hl; omega
  nl := by have := h.nl; simp; omega
theorem runAt_cut {A : Ar} {s : ByteArray} {k : Nat} {A1 : Ar} {had : List Int} {rows : List (List UInt8)} {now : List UInt8} (h : RunAt A s k A1 had rows now) (hlt : k < s.size) (hc : s[k] = 59) {n : Nd} (hn : NodeOk had (splitL 32 now) n) (hm : (mk A1 n).2.2 = 0) : RunAt A s (k + 1) (mk A1 n).1 (had ++ [(mk A1 n).2.1]) (rows ++ [now]) [] where
  split := by
    have htk : s.data.toList.take (k + 1) = s.data.toList.take k ++ [s[k]] := take_succ hlt
    rw [htk, splitL_snoc, if_pos hc, h.split]
  run := .snoc h.run hn hm
  ok := (arOk_mk h.ok hn.u64.1 hn.u64.2).1
  room := by
    have h1 := mk_room A1 n
    have h2 := h.room
    rw [h1.2]; exact ⟨h1.1 h2.1, h2.2⟩
  len := by
    have h1 := h.len
    have h2 := (arOk_mk h.ok hn.u64.1 hn.u64.2).2.1.length_le
    rcases mk_right (mk_zero hm) with ⟨e, _⟩ | ⟨_, _, _, h3⟩
    · rw [hm] at e; cases e
    · omega
  hl := by have := h.hl; simp; omega
  nl := by simp
theorem splitL_take (c : UInt8) : ∀ (a b : List UInt8), ∃ t, splitL c (a ++ c :: b) = splitL c a ++ t ∧ t ≠ []
  | [], b => ⟨splitL c b, by rw [List.nil_append, splitL_here]; rfl, splitL_ne c b⟩
  | x :: a, b => by
    obtain ⟨t, h, ht⟩ := splitL_take c a b
    by_cases hx : x = c
    · subst hx
      exact ⟨t, by rw [List.cons_append, splitL_here, splitL_here, h]; rfl, ht⟩
    · obtain ⟨y, u, hy⟩ := List.exists_cons_of_ne_nil (splitL_ne c a)
      refine ⟨t, ?_, ht⟩
      rw [List.cons_append, splitL_other hx hy]
      rw [hy, List.cons_append] at h
      rw [splitL_other hx h]; rfl
/-- Where a row falls, the text has no term. -/
theorem runAt_none {A : Ar} {s : ByteArray} {k : Nat} {A1 : Ar} {had : List Int} {rows : List (List UInt8)} {now : List UInt8} (h : RunAt A s k A1 had rows now) (hlt : k < s.size) (hc : s[k] = 59) (hb : ∀ n, NodeOk had (splitL 32 now) n → (mk A1 n).2.2 ≠ 0) (B : Ar) (y : Int) : ¬ ReadOk A s.data.toList B y := by
  rintro ⟨rows2, had2, h1, _, h3, _⟩
  have hk : k < s.data.toList.length := by simpa using hlt
  have h2 : s.data.toList = s.data.toList.take k ++ 59 :: s.data.toList.drop (k + 1) := by
    conv => lhs; rw [← List.take_append_drop k s.data.toList]
    congr 1
    rw [List.drop_eq_getElem_cons hk]
    congr 1
  obtain ⟨t, ht, hne⟩ := splitL_take 59 (s.data.toList.take k) (s.data.toList.drop (k + 1))
  rw [← h2, h.split, h1] at ht
  have hd := congrArg List.dropLast ht
  rw [dropLast_snoc, List.dropLast_append_of_ne_nil hne, List.append_assoc, List.singleton_append] at hd
  rw [hd] at h3
  exact h.run.stuck hb _ h3
end Go.Proofs.YtfelbecofbdeaaaGreatDoor
