/- An append onto a slice that was made since some world, as a step of a region that draws: whatever is appended, nothing of that world changes. Any program. -/
import Derived.Test.YtfelbecofbdeaaaGreatDoorLib
import Derived.Deep.RegionLaw
import Derived.Deep.AppendLies
import Derived.Laws.OwnMore
namespace Go.Proofs.YtfelbecofbdeaaaGreatDoor
open Go.RowKit

theorem owns_empty {w : World} {B k : Nat} {e : TypeId} (size : Nat) (hB : B ≤ k) (h : w.heap[k]? = some (.cells #[] e (0, 0))) : w.ownsRow B e size (.slice (some ⟨k, 0, none⟩) 0 0) 0 [] :=
  ⟨by simp, .inr ⟨k, 0, #[], rfl, hB, h, Nat.le_refl _, by unfold maxLen; omega, by simp, by simp⟩⟩
/-- Cells that are to be appended: m elements of such a size. -/
def News (w : World) (A : Option Addr) (size m : Nat) (news : List Value) : Prop := news.length = m * size ∧ ((A = none ∧ m = 0) ∨ ∃ ad, A = some ad ∧ ∀ j u, news[j]? = some u → w.cell? (ad.add j) = some u)
theorem run_append_none0 {P : Program} {w : World} (base : Nat) (t ty e : TypeId) (i : TypeInfo) (size : Nat) (ht : P.underlying t = some (.slice e)) (hi : P.info? e = some i)
    (v : Value) (n : Nat) (xs : List Value) (hown : w.ownsRow base e size v n xs) (c : Nat) :
    (Builtin.append_ #[t, t] ty #[v, .slice none 0 c]).run P w = .ok v w := by
  rcases hown.2 with ⟨rfl, rfl⟩ | ⟨g, cap, cur, rfl, _, _, hnc, _⟩
  · simp [Builtin.append_, run_underlying ht, sizeOf, typeInfo, hi, Builtin.lenOf, Builtin.firstCells]
  · simp [Builtin.append_, run_underlying ht, sizeOf, typeInfo, hi, Builtin.lenOf, Builtin.firstCells, hnc, storeCells]
theorem run_cat {P : Program} {W w : World} (hb : Below W.heap.size W w) (t ty : TypeId) (e : TypeId) (z : Value) (size bytes : Nat) (ht : P.underlying t = some (.slice e))
    (hinfo : (P.info? e).map (fun i => (i.zero, i.size, i.bytes)) = some (some z, size, bytes)) (hzs : z.cells.size = size) (hsz : 0 < size)
    (v : Value) (n : Nat) (xs : List Value) (hown : w.ownsRow W.heap.size e size v n xs)
    (A : Option Addr) (m c : Nat) (news : List Value) (hnews : News w A size m news) (h1 : ∀ u ∈ news, u.oneCell' = true)
    (h63 : n + m ≤ maxLen) (hbytes : (n + m) * bytes ≤ 140737488355328) :
    ∃ v' w', (Builtin.append_ #[t, t] ty #[v, .slice A m c]).run P w = .ok v' w' ∧ w'.ownsRow W.heap.size e size v' (n + m) (xs ++ news) ∧ Below W.heap.size W w' ∧ (∀ k ob, w.heap[k]? = some ob → v.ownBlock ≠ some k → w'.heap[k]? = some ob) := by
  obtain ⟨i, hi, hz, hsize, hby⟩ := info_parts hinfo
  obtain ⟨hl, ⟨rfl, rfl⟩ | ⟨ad, rfl, hn⟩⟩ := hnews
  · rw [Nat.zero_mul] at hl
    have := List.eq_nil_of_length_eq_zero hl
    subst this
    exact ⟨v, w, run_append_none0 _ t ty e i size ht hi v n xs hown c, by simpa using hown, hb, fun _ _ h _ => h⟩
  · obtain ⟨v', w', hr, h2, h3, _, h5⟩ := run_append_own_at (P := P) w W.heap.size t ty e i z size bytes ht hi hz hsize hby hzs hsz v n xs hown ad m c news hl hn h1 h63 hbytes hb.size
    refine ⟨v', w', hr, h2, hb.grown h3 hb.size (fun k hk => (hown.lt k hk).1), fun k ob hk hne => ?_⟩
    rw [h3.block k (lt_of_heap hk) (Ne.symm hne)]; exact hk
theorem wp_cat {P : Program} {W w : World} {o : Oper} {a : Act} {K : Act → World → Prop} {Q : Exit → Act → World → Prop} (hb : Below W.heap.size W w) (s x : Operand) (t : TypeId)
    (ho : o.op = .call { callee := .builtin .append, args := #[s, x], argTypes := #[t, t] })
    (e : TypeId) (z : Value) (size bytes : Nat) (ht : P.underlying t = some (.slice e))
    (hinfo : (P.info? e).map (fun i => (i.zero, i.size, i.bytes)) = some (some z, size, bytes)) (hzs : z.cells.size = size) (hsz : 0 < size)
    (v : Value) (n : Nat) (xs : List Value) (hs : a.eval s = v) (hown : w.ownsRow W.heap.size e size v n xs)
    (A : Option Addr) (m c : Nat) (news : List Value) (hx : a.eval x = .slice A m c) (hnews : News w A size m news) (h1 : ∀ u ∈ news, u.oneCell' = true)
    (h63 : n + m ≤ maxLen) (hbytes : (n + m) * bytes ≤ 140737488355328)
    (h : ∀ v' w', w'.ownsRow W.heap.size e size v' (n + m) (xs ++ news) → Below W.heap.size W w' → (∀ k ob, w.heap[k]? = some ob → v.ownBlock ≠ some k → w'.heap[k]? = some ob) → K (a.put o.dst v') w') :
    o.wp P a w K Q := by
  obtain ⟨v', w', hr, h2, h3, h4⟩ := run_cat (P := P) hb t o.type e z size bytes ht hinfo hzs hsz v n xs hown A m c news hnews h1 h63 hbytes
  unfold Oper.wp execOp
  simp only [ho, resolve, invoke, builtin, Sem.run_bind, Sem.run_pure, Result.andThen_ok, List.map_toArray, List.map_cons, List.map_nil, hs, hx, hr]
  exact h v' w' h2 h3 h4
theorem step_cat {P : Program} {W w : World} {ops : Array Oper} {o : Oper} {a : Act} {K : Act → World → Prop} {Q : Exit → Act → World → Prop} {E : Prop} (hb : Below W.heap.size W w) (hgd : o.guard = none) (s x : Operand) (t : TypeId)
    (ho : o.op = .call { callee := .builtin .append, args := #[s, x], argTypes := #[t, t] })
    (e : TypeId) (z : Value) (size bytes : Nat) (ht : P.underlying t = some (.slice e))
    (hinfo : (P.info? e).map (fun i => (i.zero, i.size, i.bytes)) = some (some z, size, bytes)) (hzs : z.cells.size = size) (hsz : 0 < size)
    (v : Value) (n : Nat) (xs : List Value) (hs : a.eval s = v) (hown : w.ownsRow W.heap.size e size v n xs)
    (A : Option Addr) (m c : Nat) (news : List Value) (hx : a.eval x = .slice A m c) (hnews : News w A size m news) (h1 : ∀ u ∈ news, u.oneCell' = true)
    (h63 : n + m ≤ maxLen) (hbytes : (n + m) * bytes ≤ 140737488355328)
    (h : ∀ v' w', w'.ownsRow W.heap.size e size v' (n + m) (xs ++ news) → Below W.heap.size W w' → (∀ k ob, w.heap[k]? = some ob → v.ownBlock ≠ some k → w'.heap[k]? = some ob) → K (a.put o.dst v') w') :
    if Region.wanted o (yielded ops a.tmps) = true then Oper.wp P o a w K Q else E := by
  have hw : Region.wanted o (yielded ops a.tmps) = true := by simp [Region.wanted, hgd]
  rw [if_pos hw]
  exact wp_cat hb s x t ho e z size bytes ht hinfo hzs hsz v n xs hs hown A m c news hx hnews h1 h63 hbytes h
theorem wpList_cat {P : Program} {W w : World} {ops : Array Oper} {rest : List Oper} {o : Oper} {a : Act} {Q : Exit → Act → World → Prop} (hb : Below W.heap.size W w) (hgd : o.guard = none) (s x : Operand) (t : TypeId)
    (ho : o.op = .call { callee := .builtin .append, args := #[s, x], argTypes := #[t, t] })
    (e : TypeId) (z : Value) (size bytes : Nat) (ht : P.underlying t = some (.slice e))
    (hinfo : (P.info? e).map (fun i => (i.zero, i.size, i.bytes)) = some (some z, size, bytes)) (hzs : z.cells.size = size) (hsz : 0 < size)
    (v : Value) (n : Nat) (xs : List Value) (hs : a.eval s = v) (hown : w.ownsRow W.heap.size e size v n xs)
    (A : Option Addr) (m c : Nat) (news : List Value) (hx : a.eval x = .slice A m c) (hnews : News w A size m news) (h1 : ∀ u ∈ news, u.oneCell' = true)
    (h63 : n + m ≤ maxLen) (hbytes : (n + m) * bytes ≤ 140737488355328)
    (h : ∀ v' w', w'.ownsRow W.heap.size e size v' (n + m) (xs ++ news) → Below W.heap.size W w' → (∀ k ob, w.heap[k]? = some ob → v.ownBlock ≠ some k → w'.heap[k]? = some ob) → wpList P ops Q rest (a.put o.dst v') w') :
    wpList P ops Q (o :: rest) a w :=
  wpList_plain hgd fun _ hK => wp_cat hb s x t ho e z size bytes ht hinfo hzs hsz v n xs hs hown A m c news hx hnews h1 h63 hbytes fun v' w' h2 h3 h4 => hK _ _ (h v' w' h2 h3 h4)
theorem belowAlloc {W w : World} (h : Below W.heap.size W w) (o : Obj) : Below W.heap.size W (w.alloc o) := h.alloc h.size o
theorem News.upd {w w' : World} {A : Option Addr} {size m : Nat} {news : List Value} (h : News w A size m news) (u : Below w.heap.size w w') (hlt : ∀ ad, A = some ad → ad.block < w.heap.size) : News w' A size m news := by
  refine ⟨h.1, h.2.imp id fun ⟨ad, ha, hc⟩ => ⟨ad, ha, fun j v hv => ?_⟩⟩
  have hb : (ad.add j).block < w.heap.size := by
    have := hlt ad ha
    exact (by unfold Addr.add; split <;> rfl : (ad.add j).block = ad.block) ▸ this
  rw [u.cell hb]; exact hc j v hv
theorem News.of_owns {w : World} {base : Nat} {e : TypeId} {size n : Nat} {v : Value} {xs : List Value} (h : w.ownsRow base e size v n xs) : ∃ A c, v = .slice A n c ∧ News w A size n xs ∧ ∀ ad, A = some ad → base ≤ ad.block ∧ ad.block < w.heap.size := by
  rcases h.2 with ⟨rfl, rfl⟩ | ⟨g, cap, cur, rfl, hB, hg, _⟩
  · exact ⟨none, 0, rfl, ⟨h.1, .inl ⟨rfl, rfl⟩⟩, by simp⟩
  · exact ⟨_, _, rfl, ⟨h.1, .inr ⟨_, rfl, h.cells rfl⟩⟩, fun ad e => by cases e; exact ⟨hB, lt_of_heap hg⟩⟩
theorem News.block {w : World} {b : Nat} {cs : List Value} {t : TypeId} {fr : Nat × Nat} {size m : Nat} (h : w.heap[b]? = some (.cells cs.toArray t fr)) (hl : cs.length = m * size) : News w (some ⟨b, 0, none⟩) size m cs :=
  ⟨hl, .inr ⟨_, rfl, by simpa using World.news_of_block h⟩⟩
end Go.Proofs.YtfelbecofbdeaaaGreatDoor
