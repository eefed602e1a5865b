/- Packed by packn.py: SL, SX. -/
import Derived.Test.YtikimmgileffgaaGreatDoorQk04
import Derived.Deep.RegionHeld3
import Derived.Lib.Hide
import Derived.Scope
import Derived.Laws.StructEq
/- A run of operations on what a law has made, reckoned by the kernel: sim follows an operation through the listed blocks; a script names the block of each access. Any program. -/
section
namespace Go.Proofs.YtikimmgileffgaaGreatDoor
open Go.RowKit

inductive Ent where
  | blk (b : Nat) (o : Obj)
  | thing (t : Thing)
  /-- a row of its own, whose values are listed -/
  | row (el size g n cap : Nat) (xs : List Value)
def Ent.t : Ent → Thing
  | .blk b o => Go.Proofs.YtikimmgileffgaaGreatDoor.blk b o
  | .thing t => t
  | .row el size g n cap xs => rowT el size (.slice (some ⟨g, 0, none⟩) n cap) n xs
def AllEq : List (Nat × Nat) → Prop
  | [] => True
  | p :: l => p.1 = p.2 ∧ AllEq l
def notOne : Value → Bool
  | .agg _ => true
  | .tuple _ => true
  | _ => false
/-- What an operation comes to on listed blocks: its value, the list behind it, the pairs of block numbers that must be the same. -/
def sim {α : Type} (P : Program) : Sem α → List Nat → List Nat → List Ent → Option (α × List Ent × List (Nat × Nat))
  | .pure a, _, _, L => some (a, L, [])
  | .load _ a k, sc, fr, L => match sc with
    | [] => none
    | i :: sc => match L[i]? with
      | some (.blk b (.cells cs _ _)) => match a.spot with
        | some _ => none
        | none => match cs[a.off]? with
          | some v => (sim P (k v) sc fr L).map fun r => (r.1, r.2.1, (a.block, b) :: r.2.2)
          | none => none
      | _ => none
  | .store _ a v k, sc, fr, L => match sc with
    | [] => none
    | i :: sc => match L[i]? with
      | some (.blk b (.cells cs e (0, 0))) => match a.spot with
        | some _ => none
        | none => match cs[a.off]?, notOne v with
          | some _, false => (sim P k sc fr (L.set i (.blk b (.cells (cs.setIfInBounds a.off v) e (0, 0))))).map fun r => (r.1, r.2.1, (a.block, b) :: r.2.2)
          | _, _ => none
      | _ => none
  | .new o k, sc, fr, L => match fr with
    | [] => none
    | b :: fr => sim P (k b) sc fr (.blk b o :: L)
  | .shape r k, sc, fr, L => match sc with
    | [] => none
    | i :: sc => match L[i]? with
      | some (.blk b (.cells cs e _)) => (sim P (k (some (e, cs.size))) sc fr L).map fun x => (x.1, x.2.1, (r, b) :: x.2.2)
      | _ => none
  | .program k, sc, fr, L => sim P (k P) sc fr L
  | .mark _ k, sc, fr, L => sim P k sc fr L
  | _, _, _, _ => none

theorem ent_at {L : List Ent} {i : Nat} {e : Ent} (h : L[i]? = some e) : (L.map Ent.t)[i]? = some e.t := by rw [List.getElem?_map, h]; rfl
theorem sim_sound {α : Type} {P : Program} {w0 : World} : ∀ (s : Sem α) (sc fr : List Nat) (L : List Ent) (w : World) (x : α) (L' : List Ent) (obs : List (Nat × Nat)),
    sim P s sc fr L = some (x, L', obs) → AllEq obs → Own w0 w (L.map Ent.t) → (∀ j b, fr[j]? = some b → b = w.heap.size + j) →
    ∃ w', s.run P w = .ok x w' ∧ Own w0 w' (L'.map Ent.t) := by
  intro s
  induction s with
  | pure a => intro sc fr L w x L' obs h ho O hf; simp only [sim] at h; cases h; exact ⟨w, rfl, O⟩
  | load m a k ih =>
    intro sc fr L w x L' obs h ho O hf
    match sc, h with
    | [], h => simp [sim] at h
    | i :: sc, h =>
      simp only [sim] at h
      split at h
      · rename_i b cs e f hL
        split at h
        · cases h
        · rename_i hsp
          split at h
          · rename_i v hv
            cases hr : sim P (k v) sc fr L with
            | none => rw [hr] at h; cases h
            | some r =>
              rw [hr] at h
              simp only [Option.map_some, Option.some.injEq, Prod.mk.injEq] at h
              obtain ⟨rfl, rfl, rfl⟩ := h
              obtain ⟨hab, ho⟩ := ho
              have hab : a.block = b := hab
              obtain ⟨w', h1, h2⟩ := ih v sc fr L w _ _ _ hr ho O hf
              refine ⟨w', ?_, h2⟩
              have hb := O.blk (ent_at hL)
              have hc : w.cell? a = some v := by
                obtain ⟨ab, ao, sp⟩ := a
                simp only at hab hsp hv
                subst hab hsp
                rw [cell_of_heap hb]; exact hv
              simp only [Sem.run, hc]; exact h1
          · cases h
      · cases h
  | store m a v k ih =>
    intro sc fr L w x L' obs h ho O hf
    match sc, h with
    | [], h => simp [sim] at h
    | i :: sc, h =>
      simp only [sim] at h
      split at h
      · rename_i b cs e hL
        split at h
        · cases h
        · rename_i hsp
          split at h
          · rename_i v0 hv hn
            cases hr : sim P k sc fr (L.set i (.blk b (.cells (cs.setIfInBounds a.off v) e (0, 0)))) with
            | none => rw [hr] at h; cases h
            | some r =>
              rw [hr] at h
              simp only [Option.map_some, Option.some.injEq, Prod.mk.injEq] at h
              obtain ⟨rfl, rfl, rfl⟩ := h
              obtain ⟨hab, ho⟩ := ho
              have hab : a.block = b := hab
              have hb := O.blk (ent_at hL)
              have ha : a = ⟨b, a.off, none⟩ := by
                obtain ⟨ab, ao, sp⟩ := a
                simp only at hab hsp ⊢
                subst hab hsp; rfl
              have O' : Own w0 (w.setCell a v) ((L.set i (.blk b (.cells (cs.setIfInBounds a.off v) e (0, 0)))).map Ent.t) := by
                rw [List.map_set]
                rw [ha]
                exact O.store (ent_at hL) ((Upd.refl (One b) w).setCell (fun _ => rfl) v) (heap_setCell_at hb v)
              have hsz : (w.setCell a v).heap.size = w.heap.size := by simp [World.setCell]
              obtain ⟨w', h1, h2⟩ := ih sc fr _ (w.setCell a v) _ _ _ hr ho O' (fun j b h => by rw [hsz]; exact hf j b h)
              refine ⟨w', ?_, h2⟩
              have hc : w.cell? a = some v0 := by rw [ha, cell_of_heap hb]; exact hv
              have hfz : w.frozen? a = false := by rw [ha]; exact frozen_of_heap hb
              have : (Sem.store m a v k).run P w = k.run P (w.setCell a v) := by
                cases v <;> first | (simp only [Sem.run, hc, hfz]; rfl) | (simp [notOne] at hn)
              rw [this]; exact h1
          · cases h
      · cases h
  | new o k ih =>
    intro sc fr L w x L' obs h ho O hf
    match fr, h, hf with
    | [], h, hf => simp [sim] at h
    | b :: fr, h, hf =>
      simp only [sim] at h
      have hb : b = w.heap.size := hf 0 b rfl
      subst hb
      obtain ⟨w', h1, h2⟩ := ih w.heap.size sc fr (.blk w.heap.size o :: L) (w.alloc o) x L' obs h ho (O.alloc o) (fun j b hj => by
        have h1 := hf (j + 1) b (by simpa using hj)
        have h2 : (w.alloc o).heap.size = w.heap.size + 1 := Array.size_push _
        omega)
      exact ⟨w', by simp only [Sem.run]; exact h1, h2⟩
  | shape r k ih =>
    intro sc fr L w x L' obs h ho O hf
    match sc, h with
    | [], h => simp [sim] at h
    | i :: sc, h =>
      simp only [sim] at h
      split at h
      · rename_i b cs e f hL
        cases hr : sim P (k (some (e, cs.size))) sc fr L with
        | none => rw [hr] at h; cases h
        | some q =>
          rw [hr] at h
          simp only [Option.map_some, Option.some.injEq, Prod.mk.injEq] at h
          obtain ⟨rfl, rfl, rfl⟩ := h
          obtain ⟨hab, ho⟩ := ho
          have hab : r = b := hab
          subst hab
          obtain ⟨w', h1, h2⟩ := ih _ sc fr L w _ _ _ hr ho O hf
          refine ⟨w', ?_, h2⟩
          have hb := O.blk (ent_at hL)
          simp only [Sem.run, World.shape?, hb]; exact h1
      · cases h
  | freeze a n k => intro sc fr L w x L' obs h; simp [sim] at h
  | frozen a k => intro sc fr L w x L' obs h; simp [sim] at h
  | getObj r k => intro sc fr L w x L' obs h; simp [sim] at h
  | setObj r o k => intro sc fr L w x L' obs h; simp [sim] at h
  | choose q k => intro sc fr L w x L' obs h; simp [sim] at h
  | sys c k => intro sc fr L w x L' obs h; simp [sim] at h
  | program k ih => intro sc fr L w x L' obs h ho O hf; simp only [sim] at h; simp only [Sem.run]; exact ih P sc fr L w x L' obs h ho O hf
  | mark m k ih => intro sc fr L w x L' obs h ho O hf; simp only [sim] at h; simp only [Sem.run]; exact ih sc fr L w x L' obs h ho O hf
  | halt a => intro sc fr L w x L' obs h; simp [sim] at h
/-- What is known of a world: whole blocks, cells. -/
inductive Kn where
  | blk (b : Nat) (o : Obj)
  | cell (b o : Nat) (v : Value)
  | row (b : Nat) (xs : List Value)
  | no
def Ent.kn : Ent → Kn
  | .blk b o => .blk b o
  | .thing _ => .no
  | .row _ _ g _ _ xs => .row g xs
def Kn.holds (w : World) : Kn → Prop
  | .blk b o => w.heap[b]? = some o
  | .cell b o v => w.cell? ⟨b, o, none⟩ = some v
  | .row b xs => ∀ (i : Nat) v, xs[i]? = some v → w.cell? ⟨b, i, none⟩ = some v
  | .no => True
def Know : List Kn → World → Prop
  | [], _ => True
  | k :: l, w => k.holds w ∧ Know l w
/-- The same where only cells are read. -/
def simR {α : Type} (P : Program) (H : List Kn) : Sem α → List Nat → Option (α × List (Nat × Nat))
  | .pure a, _ => some (a, [])
  | .load _ a k, sc => match sc with
    | [] => none
    | i :: sc => match H[i]? with
      | some (.blk b (.cells cs _ _)) => match a.spot with
        | some _ => none
        | none => match cs[a.off]? with
          | some v => (simR P H (k v) sc).map fun r => (r.1, (a.block, b) :: r.2)
          | none => none
      | some (.cell b o v) => match a.spot with
        | some _ => none
        | none => (simR P H (k v) sc).map fun r => (r.1, (a.block, b) :: (a.off, o) :: r.2)
      | some (.row b xs) => match a.spot with
        | some _ => none
        | none => match xs[a.off]? with
          | some v => (simR P H (k v) sc).map fun r => (r.1, (a.block, b) :: r.2)
          | none => none
      | _ => none
  | .shape r k, sc => match sc with
    | [] => none
    | i :: sc => match H[i]? with
      | some (.blk b (.cells cs e _)) => (simR P H (k (some (e, cs.size))) sc).map fun x => (x.1, (r, b) :: x.2)
      | _ => none
  | .program k, sc => simR P H (k P) sc
  | .mark _ k, sc => simR P H k sc
  | _, _ => none
theorem Know.at {w : World} : ∀ {H : List Kn} {i : Nat} {k : Kn}, Know H w → H[i]? = some k → k.holds w
  | [], i, k, _, h => by simp at h
  | x :: H, 0, k, hk, h => by simp at h; subst h; exact hk.1
  | x :: H, i + 1, k, hk, h => Know.at hk.2 (by simpa using h)
theorem simR_sound {α : Type} {P : Program} {H : List Kn} {w : World} : ∀ (s : Sem α) (sc : List Nat) (x : α) (obs : List (Nat × Nat)),
    simR P H s sc = some (x, obs) → AllEq obs → Know H w → s.run P w = .ok x w := by
  intro s
  induction s with
  | pure a => intro sc x obs h ho O; simp only [simR] at h; cases h; rfl
  | load m a k ih =>
    intro sc x obs h ho O
    match sc, h with
    | [], h => simp [simR] at h
    | i :: sc, h =>
      simp only [simR] at h
      split at h
      · rename_i b cs e f hL
        split at h
        · cases h
        · rename_i hsp
          split at h
          · rename_i v hv
            cases hr : simR P H (k v) sc with
            | none => rw [hr] at h; cases h
            | some r =>
              rw [hr] at h
              simp only [Option.map_some, Option.some.injEq, Prod.mk.injEq] at h
              obtain ⟨rfl, rfl⟩ := h
              obtain ⟨hab, ho⟩ := ho
              have hab : a.block = b := hab
              have h1 := ih v sc _ _ hr ho O
              have hb : w.heap[b]? = some _ := O.at hL
              have hc : w.cell? a = some v := by
                obtain ⟨ab, ao, sp⟩ := a
                simp only at hab hsp hv
                subst hab hsp
                rw [cell_of_heap hb]; exact hv
              simp only [Sem.run, hc]; exact h1
          · cases h
      · rename_i b o v hL
        split at h
        · cases h
        · rename_i hsp
          cases hr : simR P H (k v) sc with
          | none => rw [hr] at h; cases h
          | some r =>
            rw [hr] at h
            simp only [Option.map_some, Option.some.injEq, Prod.mk.injEq] at h
            obtain ⟨rfl, rfl⟩ := h
            obtain ⟨hab, hao, ho⟩ := ho
            have hab : a.block = b := hab
            have hao : a.off = o := hao
            have h1 := ih v sc _ _ hr ho O
            have hb : w.cell? ⟨b, o, none⟩ = some v := O.at hL
            have hc : w.cell? a = some v := by
              obtain ⟨ab, ao, sp⟩ := a
              have e1 : ab = b := hab
              have e2 : ao = o := hao
              have e3 : sp = none := hsp
              rw [e1, e2, e3]
              exact hb
            simp only [Sem.run, hc]; exact h1
      · rename_i b xs hL
        split at h
        · cases h
        · rename_i hsp
          split at h
          · rename_i v hv
            cases hr : simR P H (k v) sc with
            | none => rw [hr] at h; cases h
            | some r =>
              rw [hr] at h
              simp only [Option.map_some, Option.some.injEq, Prod.mk.injEq] at h
              obtain ⟨rfl, rfl⟩ := h
              obtain ⟨hab, ho⟩ := ho
              have hab : a.block = b := hab
              have h1 := ih v sc _ _ hr ho O
              have hb : ∀ (i : Nat) v, xs[i]? = some v → w.cell? ⟨b, i, none⟩ = some v := O.at hL
              have hc : w.cell? a = some v := by
                obtain ⟨ab, ao, sp⟩ := a
                have e1 : ab = b := hab
                have e3 : sp = none := hsp
                rw [e1, e3]
                exact hb ao v hv
              simp only [Sem.run, hc]; exact h1
          · cases h
      · cases h
  | store m a v k ih => intro sc x obs h; simp [simR] at h
  | new o k ih => intro sc x obs h; simp [simR] at h
  | shape r k ih =>
    intro sc x obs h ho O
    match sc, h with
    | [], h => simp [simR] at h
    | i :: sc, h =>
      simp only [simR] at h
      split at h
      · rename_i b cs e f hL
        cases hr : simR P H (k (some (e, cs.size))) sc with
        | none => rw [hr] at h; cases h
        | some q =>
          rw [hr] at h
          simp only [Option.map_some, Option.some.injEq, Prod.mk.injEq] at h
          obtain ⟨rfl, rfl⟩ := h
          obtain ⟨hab, ho⟩ := ho
          have hab : r = b := hab
          subst hab
          have h1 := ih _ sc _ _ hr ho O
          have hb : w.heap[r]? = some _ := O.at hL
          simp only [Sem.run, World.shape?, hb]; exact h1
      · cases h
  | freeze a n k => intro sc x obs h; simp [simR] at h
  | frozen a k => intro sc x obs h; simp [simR] at h
  | getObj r k => intro sc x obs h; simp [simR] at h
  | setObj r o k => intro sc x obs h; simp [simR] at h
  | choose q k => intro sc x obs h; simp [simR] at h
  | sys c k => intro sc x obs h; simp [simR] at h
  | program k ih => intro sc x obs h ho O; simp only [simR] at h; simp only [Sem.run]; exact ih P sc x obs h ho O
  | mark m k ih => intro sc x obs h ho O; simp only [simR] at h; simp only [Sem.run]; exact ih sc x obs h ho O
  | halt a => intro sc x obs h; simp [simR] at h

theorem addr_add (b o n : Nat) : (⟨b, o, none⟩ : Addr).add n = ⟨b, o + n, none⟩ := by
  unfold Addr.add; split
  · rename_i h; rw [h]; rfl
  · rfl
theorem row_kn {w : World} {S : Nat → Prop} {el size g n cap : Nat} {xs : List Value} (h : (rowT el size (.slice (some ⟨g, 0, none⟩) n cap) n xs).P w S) : (Kn.row g xs).holds w := by
  intro i v hi
  have := h.1.cells (g := g) rfl i v hi
  rwa [addr_add, Nat.zero_add] at this
/-- All blocks of a list of things are known. -/
theorem Own.knowAll {w0 w : World} {L : List Ent} (O : Own w0 w (L.map Ent.t)) : Know (L.map Ent.kn) w := by
  have : ∀ (M : List Ent) (n : Nat), (∀ i e, M[i]? = some e → L[n + i]? = some e) → Know (M.map Ent.kn) w := by
    intro M
    induction M with
    | nil => intro n h; trivial
    | cons e M ih =>
      intro n h
      refine ⟨?_, ih (n + 1) (fun i x hx => by have := h (i + 1) x (by simpa using hx); rwa [show n + 1 + i = n + (i + 1) by omega])⟩
      have h0 := h 0 e rfl
      cases e with
      | blk b o => exact O.blk (ent_at h0)
      | thing t => trivial
      | row el size g n c xs =>
        obtain ⟨S, hS, _⟩ := O.at (ent_at h0)
        exact row_kn hS
  exact this L 0 (fun i e h => by rwa [Nat.zero_add])

theorem beq_t {x y : Int} (h : x = y) : (x == y) = true := by simpa using h
theorem beq_f {x y : Int} (h : ¬ x = y) : (x == y) = false := by simpa using h
theorem bne_t {x y : Int} (h : ¬ x = y) : (x != y) = true := by simpa using h
theorem bne_f {x y : Int} (h : x = y) : (x != y) = false := by simpa using h
theorem i64_id {x : Int} (h0 : -9223372036854775808 ≤ x) (h1 : x ≤ 9223372036854775807) : IntKind.i64.wrap x = x := by
  unfold IntKind.wrap; simp [IntKind.signed, IntKind.bits]; omega
theorem u64_id {x : Int} (h0 : 0 ≤ x) (h1 : x ≤ 18446744073709551615) : IntKind.u64.wrap x = x := by
  unfold IntKind.wrap; simp [IntKind.signed, IntKind.bits]; omega
/-- A list of things, one of them in front; what becomes of it goes back to its place. -/
def noT : Thing where
  P _ S := ∀ b, ¬ S b
  lt _ _ h b hb := (h b hb).elim
  keep _ _ _ _ h _ _ := h
theorem Own.focusA {w0 w : World} {M : List Thing} {i : Nat} {x : Thing} (O : Own w0 w M) (hi : M[i]? = some x) : Own w0 w ((.thing x :: (M.set i noT).map Ent.thing).map Ent.t) := by
  have hil := idx_lt hi
  have hm : ∀ l : List Thing, (l.map Ent.thing).map Ent.t = l := fun l => by rw [List.map_map]; exact List.map_id'' (fun _ => rfl) l
  obtain ⟨hb, f, h1, h2, h3⟩ := O
  rw [List.map_cons, hm]
  refine ⟨hb, fun j => match j with | 0 => f i | k + 1 => if k = i then fun _ => False else f k, ?_, ?_, ?_⟩
  · intro j R hj
    match j, hj with
    | 0, hj => cases hj; exact h1 i x hi
    | k + 1, hj =>
      rw [List.getElem?_cons_succ, List.getElem?_set] at hj
      by_cases e : k = i
      · subst e
        rw [if_pos rfl, if_pos hil] at hj
        cases hj
        show noT.P w (if k = k then _ else _)
        rw [if_pos rfl]; exact fun b hb => hb
      · rw [if_neg (Ne.symm e)] at hj
        show R.P w (if k = i then _ else _)
        rw [if_neg e]; exact h1 k R hj
  · intro j k b hj hk hfj hfk
    simp only [List.length_cons, List.length_set] at hj hk
    match j, k, hfj, hfk with
    | 0, 0, _, _ => rfl
    | 0, k + 1, hfj, hfk =>
      have hfk : (if k = i then fun _ => False else f k) b := hfk
      by_cases e : k = i
      · rw [if_pos e] at hfk; exact hfk.elim
      · rw [if_neg e] at hfk; exact absurd (h2 i k b hil (by omega) hfj hfk).symm e
    | j + 1, 0, hfj, hfk =>
      have hfj : (if j = i then fun _ => False else f j) b := hfj
      by_cases e : j = i
      · rw [if_pos e] at hfj; exact hfj.elim
      · rw [if_neg e] at hfj; exact absurd (h2 j i b (by omega) hil hfj hfk) e
    | j + 1, k + 1, hfj, hfk =>
      have hfj : (if j = i then fun _ => False else f j) b := hfj
      have hfk : (if k = i then fun _ => False else f k) b := hfk
      by_cases e : j = i
      · rw [if_pos e] at hfj; exact hfj.elim
      · by_cases e2 : k = i
        · rw [if_pos e2] at hfk; exact hfk.elim
        · rw [if_neg e] at hfj; rw [if_neg e2] at hfk
          have := h2 j k b (by omega) (by omega) hfj hfk; omega
  · intro j b hj hf
    simp only [List.length_cons, List.length_set] at hj
    match j, hf with
    | 0, hf => exact h3 i b hil hf
    | k + 1, hf =>
      have hf : (if k = i then fun _ => False else f k) b := hf
      by_cases e : k = i
      · rw [if_pos e] at hf; exact hf.elim
      · rw [if_neg e] at hf; exact h3 k b (by omega) hf
theorem Own.focusB {w0 w' : World} {M : List Thing} {i : Nat} {y : Thing} {G : List Ent} (hil : i < M.length) (O' : Own w0 w' ((G ++ .thing y :: (M.set i noT).map Ent.thing).map Ent.t)) : Own w0 w' (M.set i y) := by
  have hm : ∀ l : List Thing, (l.map Ent.thing).map Ent.t = l := fun l => by rw [List.map_map]; exact List.map_id'' (fun _ => rfl) l
  have O1 : Own w0 w' (y :: M.set i noT) := by
    induction G with
    | nil => rw [List.nil_append, List.map_cons, hm] at O'; exact O'
    | cons e G ih => rw [List.cons_append, List.map_cons] at O'; exact ih O'.tail
  obtain ⟨hb, f, h1, h2, h3⟩ := O1
  refine ⟨hb, fun j => if j = i then f 0 else f (j + 1), ?_, ?_, ?_⟩
  · intro j R hj
    rw [List.getElem?_set] at hj
    by_cases e : j = i
    · subst e
      rw [if_pos rfl, if_pos hil] at hj
      cases hj
      show y.P w' (if j = j then _ else _)
      rw [if_pos rfl]; exact h1 0 y rfl
    · rw [if_neg (Ne.symm e)] at hj
      show R.P w' (if j = i then _ else _)
      rw [if_neg e]
      refine h1 (j + 1) R ?_
      rw [List.getElem?_cons_succ, List.getElem?_set, if_neg (Ne.symm e)]; exact hj
  · intro j k b hj hk hfj hfk
    simp only [List.length_set, List.length_cons] at hj hk h2
    have hfj : (if j = i then f 0 else f (j + 1)) b := hfj
    have hfk : (if k = i then f 0 else f (k + 1)) b := hfk
    by_cases e : j = i <;> by_cases e2 : k = i <;> simp only [e, e2, if_true, if_false] at hfj hfk
    · omega
    · have := h2 0 (k + 1) b (by omega) (by omega) hfj hfk; omega
    · have := h2 (j + 1) 0 b (by omega) (by omega) hfj hfk; omega
    · have := h2 (j + 1) (k + 1) b (by omega) (by omega) hfj hfk; omega
  · intro j b hj hf
    simp only [List.length_set, List.length_cons] at hj h3
    have hf : (if j = i then f 0 else f (j + 1)) b := hf
    by_cases e : j = i <;> simp only [e, if_true, if_false] at hf
    · exact h3 0 b (by omega) hf
    · exact h3 (j + 1) b (by omega) hf
theorem Own.focus2 {w0 w : World} {M : List Thing} {i : Nat} {x : Thing} (O : Own w0 w M) (hi : M[i]? = some x) :
    ∃ T : List Ent, (∀ (j : Nat) (y : Thing), j ≠ i → M[j]? = some y → (T.map Ent.t)[j]? = some y) ∧ Own w0 w ((.thing x :: T).map Ent.t) ∧ ∀ (w' : World) (y : Thing) (G : List Ent), Own w0 w' ((G ++ .thing y :: T).map Ent.t) → Own w0 w' (M.set i y) := by
  have hm : ∀ l : List Thing, (l.map Ent.thing).map Ent.t = l := fun l => by rw [List.map_map]; exact List.map_id'' (fun _ => rfl) l
  refine ⟨(M.set i noT).map Ent.thing, fun j y hj hy => ?_, Own.focusA O hi, fun w' y G O' => Own.focusB (idx_lt hi) O'⟩
  rw [hm, List.getElem?_set, if_neg (Ne.symm hj)]; exact hy
theorem Own.all {w0 w : World} {M : List Thing} (O : Own w0 w M) : ∃ T : List Ent, T.map Ent.t = M ∧ Own w0 w (T.map Ent.t) := by
  have hm : ∀ l : List Thing, (l.map Ent.thing).map Ent.t = l := fun l => by rw [List.map_map]; exact List.map_id'' (fun _ => rfl) l
  exact ⟨M.map Ent.thing, hm M, by rw [hm]; exact O⟩

/-- What is known of a frame's temporaries. -/
abbrev Env := List (Nat × Value)
def lk : Env → Nat → Option Value
  | [], _ => none
  | p :: e, t => match Nat.beq p.1 t with
    | true => some p.2
    | false => lk e t
structure Fits (N : Nat) (e : Env) (a : Act) : Prop where
  size : a.tmps.size = N
  defers : a.defers = []
  known : ∀ t v, lk e t = some v → a.tmps[t]? = some v
def evE (e : Env) : Operand → Value
  | .tmp t => match lk e t with
    | some v => v
    | none => undef
  | .const v => v
  | .global g => .pointer (some ⟨g, 0, none⟩)
  | .func f => .func (.func f) #[] #[]
def foundE (e : Env) : Operand → Bool
  | .tmp t => (lk e t).isSome
  | _ => true
def dstOk (N : Nat) : Option Tmp → Bool
  | none => true
  | some d => Nat.blt d N
def notSel : Op → Bool
  | .select _ _ => false
  | _ => true
def chk (N : Nat) (e : Env) (o : Oper) : Bool := notSel o.op && (o.op.operands.toList.all (foundE e) && dstOk N o.dst)
def putE (e : Env) (dst : Option Tmp) (v : Value) : Env :=
  match dst with
  | some d => (d, v) :: e
  | none => e
theorem Fits.eval {N : Nat} {e : Env} {a : Act} (F : Fits N e a) {x : Operand} (h : foundE e x = true) : a.eval x = evE e x := by
  cases x with
  | tmp t =>
    simp only [foundE] at h
    obtain ⟨v, hv⟩ := Option.isSome_iff_exists.1 h
    simp only [Act.eval, evE, hv, Array.getD_eq_getD_getElem?, F.known t v hv, Option.getD_some]
  | const v => rfl
  | global g => rfl
  | func f => rfl
theorem Fits.exec {N : Nat} {e : Env} {a : Act} {o : Oper} (F : Fits N e a) (h : chk N e o = true) : execOp a.eval o = execOp (evE e) o := by
  simp only [chk, Bool.and_eq_true, List.all_eq_true] at h
  refine execOp_congr o (fun cs b hs => ?_) (fun x hx => F.eval (h.2.1 x (by simpa using hx)))
  rw [hs] at h; simp [notSel] at h
theorem Fits.put {N : Nat} {e : Env} {a : Act} {dst : Option Tmp} (F : Fits N e a) (h : dstOk N dst = true) (v : Value) : Fits N (putE e dst v) (a.put dst v) := by
  cases dst with
  | none => exact F
  | some d =>
    have hd : d < N := by simpa [dstOk] using h
    refine ⟨by simp [Act.put, F.size], F.defers, fun t u hu => ?_⟩
    simp only [putE, lk] at hu
    split at hu
    · rename_i hb
      have e1 : d = t := by simpa using hb
      subst e1; cases hu
      simp [Act.put, F.size, hd]
    · rename_i hb
      have e1 : d ≠ t := by intro e; subst e; simp at hb
      simp only [Act.put, Array.getElem?_setIfInBounds_ne e1]; exact F.known t u hu
theorem chk_dst {N : Nat} {e : Env} {o : Oper} (h : chk N e o = true) : dstOk N o.dst = true := by
  simp only [chk, Bool.and_eq_true] at h; exact h.2.2
def wantE (e : Env) (ops : Array Oper) (o : Oper) : Option Bool :=
  match o.guard with
  | none => some true
  | some (j, want) => match (ops[j]?).bind (·.dst) with
    | some d => match lk e d with
      | some (.bool b) => some (b == want)
      | some _ => some false
      | none => none
    | none => none
theorem Fits.want {N : Nat} {e : Env} {a : Act} {ops : Array Oper} {o : Oper} {b : Bool} (F : Fits N e a) (h : wantE e ops o = some b) : Region.wanted o (yielded ops a.tmps) = b := by
  unfold wantE at h
  unfold Region.wanted
  cases hg : o.guard with
  | none => rw [hg] at h; simpa using h
  | some p =>
    obtain ⟨j, want⟩ := p
    rw [hg] at h
    simp only at h ⊢
    unfold yielded
    cases hd : (ops[j]?).bind (·.dst) with
    | none => rw [hd] at h; cases h
    | some d =>
      rw [hd] at h
      simp only at h
      cases hl : lk e d with
      | none => rw [hl] at h; cases h
      | some v =>
        rw [hl] at h
        simp only [Option.bind_some, F.known d v hl]
        cases v <;> simp at h ⊢ <;> first | exact h | (rw [← h]; rfl)
/-- What follows, of every frame that fits. -/
def WK (K : Act → World → Prop) (N : Nat) (e : Env) (w : World) : Prop := ∀ a, Fits N e a → K a w
/-- What an operation wants, of every frame that fits. -/
def WO (P : Program) (o : Oper) (K : Act → World → Prop) (Q : Exit → Act → World → Prop) (N : Nat) (e : Env) (w : World) : Prop := ∀ a, Fits N e a → o.wp P a w K Q
def keepE (e : Env) : List Nat → Env
  | [] => []
  | t :: ts => match lk e t with
    | some v => (t, v) :: keepE e ts
    | none => keepE e ts
theorem lk_keep {e : Env} : ∀ {ts : List Nat} {t : Nat} {v : Value}, lk (keepE e ts) t = some v → lk e t = some v
  | [], t, v, h => by simp [keepE, lk] at h
  | u :: ts, t, v, h => by
    unfold keepE at h
    split at h
    · rename_i x hx
      simp only [lk] at h
      split at h
      · rename_i hb
        have e1 : u = t := by simpa using hb
        subst e1; cases h; exact hx
      · exact lk_keep h
    · exact lk_keep h
theorem Fits.keep {N : Nat} {e : Env} {a : Act} (F : Fits N e a) (ts : List Nat) : Fits N (keepE e ts) a := ⟨F.size, F.defers, fun t v h => F.known t v (lk_keep h)⟩
def argsE : Nat → List Value → Env
  | _, [] => []
  | n, v :: l => (n, v) :: argsE (n + 1) l
theorem lk_args : ∀ (l : List Value) (n t : Nat) (v : Value), lk (argsE n l) t = some v → n ≤ t ∧ l[t - n]? = some v
  | [], n, t, v, h => by simp [argsE, lk] at h
  | x :: l, n, t, v, h => by
    simp only [argsE, lk] at h
    split at h
    · rename_i hb
      have e1 : n = t := by simpa using hb
      subst e1; cases h
      exact ⟨Nat.le_refl _, by simp⟩
    · have := lk_args l (n + 1) t v h
      refine ⟨by omega, ?_⟩
      rw [show t - n = (t - (n + 1)) + 1 by omega, List.getElem?_cons_succ]; exact this.2
theorem fits_args {args : Array Value} {n : Nat} (hl : args.size ≤ n) : Fits n (argsE 0 args.toList) ⟨args ++ Array.replicate (n - args.size) undef, []⟩ := by
  refine ⟨by simp; omega, rfl, fun t v h => ?_⟩
  have h1 := (lk_args _ _ _ _ h).2
  rw [Nat.sub_zero] at h1
  have h2 : t < args.size := by
    have := (List.getElem?_eq_some_iff.1 h1).1
    simpa using this
  rw [Array.getElem?_append_left h2, ← Array.getElem?_toList]; exact h1
/-- One result. -/
def oneR (tmps : Array Value) : ResultVar → Sem Value
  | .tmp t => pure (tmps.getD t undef)
  | .cell a t => do loadVar t (← asAddr (tmps.getD a undef))
def oneE (e : Env) : ResultVar → Sem Value
  | .tmp t => pure (match lk e t with | some v => v | none => undef)
  | .cell a t => do loadVar t (← asAddr (match lk e a with | some v => v | none => undef))
def resOk (e : Env) : ResultVar → Bool
  | .tmp t => (lk e t).isSome
  | .cell a _ => (lk e a).isSome
theorem Fits.one {N : Nat} {e : Env} {a : Act} (F : Fits N e a) {r : ResultVar} (h : resOk e r = true) : oneR a.tmps r = oneE e r := by
  cases r with
  | tmp t =>
    obtain ⟨v, hv⟩ := Option.isSome_iff_exists.1 h
    simp [oneR, oneE, hv, Array.getD_eq_getD_getElem?, F.known t v hv]
  | cell b t =>
    obtain ⟨v, hv⟩ := Option.isSome_iff_exists.1 h
    simp [oneR, oneE, hv, Array.getD_eq_getD_getElem?, F.known b v hv]
theorem results_eq (fn : Func) (tmps : Array Value) : results fn tmps = (do let vs ← fn.results.mapM (oneR tmps); pure (if h : vs.size = 1 then vs[0] else .tuple vs)) := by
  unfold results
  congr 2
theorem results_run1 {P : Program} {fn : Func} {tmps : Array Value} {w : World} {r : ResultVar} {v : Value} (h : fn.results = #[r]) (h1 : (oneR tmps r).run P w = .ok v w) : (results fn tmps).run P w = .ok v w := by
  rw [results_eq, h]; simp [h1]
theorem results_run0 {P : Program} {fn : Func} {tmps : Array Value} {w : World} (h : fn.results = #[]) : (results fn tmps).run P w = .ok (.tuple #[]) w := by
  rw [results_eq, h]; simp
theorem results_run2 {P : Program} {fn : Func} {tmps : Array Value} {w : World} {r1 r2 : ResultVar} {v1 v2 : Value} (h : fn.results = #[r1, r2]) (h1 : (oneR tmps r1).run P w = .ok v1 w) (h2 : (oneR tmps r2).run P w = .ok v2 w) : (results fn tmps).run P w = .ok (.tuple #[v1, v2]) w := by
  rw [results_eq, h]; simp [Sem.run_bind, h1, h2]
theorem results_run3 {P : Program} {fn : Func} {tmps : Array Value} {w : World} {r1 r2 r3 : ResultVar} {v1 v2 v3 : Value} (h : fn.results = #[r1, r2, r3]) (h1 : (oneR tmps r1).run P w = .ok v1 w) (h2 : (oneR tmps r2).run P w = .ok v2 w) (h3 : (oneR tmps r3).run P w = .ok v3 w) : (results fn tmps).run P w = .ok (.tuple #[v1, v2, v3]) w := by
  rw [results_eq, h]; simp [Sem.run_bind, h1, h2, h3]
theorem results_run4 {P : Program} {fn : Func} {tmps : Array Value} {w : World} {r1 r2 r3 r4 : ResultVar} {v1 v2 v3 v4 : Value} (h : fn.results = #[r1, r2, r3, r4]) (h1 : (oneR tmps r1).run P w = .ok v1 w) (h2 : (oneR tmps r2).run P w = .ok v2 w) (h3 : (oneR tmps r3).run P w = .ok v3 w) (h4 : (oneR tmps r4).run P w = .ok v4 w) : (results fn tmps).run P w = .ok (.tuple #[v1, v2, v3, v4]) w := by
  rw [results_eq, h]; simp [Sem.run_bind, h1, h2, h3, h4]
theorem results_run5 {P : Program} {fn : Func} {tmps : Array Value} {w : World} {r1 r2 r3 r4 r5 : ResultVar} {v1 v2 v3 v4 v5 : Value} (h : fn.results = #[r1, r2, r3, r4, r5]) (h1 : (oneR tmps r1).run P w = .ok v1 w) (h2 : (oneR tmps r2).run P w = .ok v2 w) (h3 : (oneR tmps r3).run P w = .ok v3 w) (h4 : (oneR tmps r4).run P w = .ok v4 w) (h5 : (oneR tmps r5).run P w = .ok v5 w) : (results fn tmps).run P w = .ok (.tuple #[v1, v2, v3, v4, v5]) w := by
  rw [results_eq, h]; simp [Sem.run_bind, h1, h2, h3, h4, h5]

section rules
variable {P : Program} {o : Oper} {w w0 : World} {K : Act → World → Prop} {Q : Exit → Act → World → Prop} {ops : Array Oper} {rest : List Oper} {L L' : List Ent} {H : List Kn} {N : Nat} {e : Env}

def AfterCall (K : Act → World → Prop) (Q : Exit → Act → World → Prop) (N : Nat) (e : Env) (o : Oper) : Ending → World → Prop
  | .returned v, w => WK K N (putE e o.dst v) w
  | .panicked c, w => WK (Q (.panic c)) N e w
  | .outgrown, _ => LetsOut Q
theorem o_call {f : FuncId} {args : Array Value} {R : Ending → World → Prop} (hc : chk N e o = true) (hs : simR P [] (execOp (evE e) o) [] = some (.enter f args, [])) (hC : Calls P f args w R) (h : ∀ e' w', R e' w' → AfterCall K Q N e o e' w') : WO P o K Q N e w := by
  intro a F
  unfold Oper.wp; rw [F.exec hc, simR_sound _ _ _ _ hs trivial (H := []) trivial]
  refine hC.mono fun e' w' hr => ?_
  have := h e' w' hr
  cases e' with
  | returned v => exact this _ (F.put (chk_dst hc) _)
  | panicked c => exact this _ F
  | outgrown => exact this

theorem k_seq {x y : Code} (h : WK (x.wp P (Exit.then (y.wp P Q) Q)) N e w) : WK ((Code.seq x y).wp P Q) N e w := fun a F => wp_seq (h a F)
theorem k_block {id : Nat} {c : Code} (h : WK (c.wp P (Exit.inBlock id Q)) N e w) : WK ((Code.block id c).wp P Q) N e w := fun a F => wp_block (h a F)
theorem k_skip (h : WK (Q .normal) N e w) : WK (Code.skip.wp P Q) N e w := fun a F => wp_skip (h a F)
theorem k_exit {id : Nat} (h : WK (Q (.exit id)) N e w) : WK ((Code.exit id).wp P Q) N e w := fun a F => wp_exit (h a F)
theorem k_ret (h : WK (Q .ret) N e w) : WK (Code.ret.wp P Q) N e w := fun a F => wp_ret (h a F)
def boolE (e : Env) : Operand → Option Value
  | .tmp t => lk e t
  | .const v => some v
  | _ => none
theorem boolE_eval {a : Act} {c : Operand} {v : Value} (F : Fits N e a) (h : boolE e c = some v) : a.eval c = v := by
  cases c with
  | tmp t => simp only [boolE] at h; simp only [Act.eval, Array.getD_eq_getD_getElem?, F.known t v h, Option.getD_some]
  | const u => simp only [boolE] at h; cases h; rfl
  | global g => simp [boolE] at h
  | func g => simp [boolE] at h
theorem k_true {c : Operand} {x y : Code} (hc : boolE e c = some (.bool true)) (h : WK (x.wp P Q) N e w) : WK ((Code.cond c x y).wp P Q) N e w := fun a F => wp_cond_true (boolE_eval F hc) (h a F)
theorem k_false {c : Operand} {x y : Code} (hc : boolE e c = some (.bool false)) (h : WK (y.wp P Q) N e w) : WK ((Code.cond c x y).wp P Q) N e w := fun a F => wp_cond_false (boolE_eval F hc) (h a F)
theorem l_op (hw : wantE e ops o = some true) (h : WO P o (wpList P ops Q rest) Q N e w) : WK (wpList P ops Q (o :: rest)) N e w := by
  intro a F
  unfold wpList; rw [if_pos (F.want hw)]; exact .inl (h a F)
theorem l_no (hw : wantE e ops o = some false) (hd : dstOk N o.dst = true) (h : WK (wpList P ops Q rest) N (putE e o.dst undef) w) : WK (wpList P ops Q (o :: rest)) N e w := by
  intro a F
  unfold wpList; rw [F.want hw]; exact h _ (F.put hd _)
variable {md : Region.Mode} {S : World → Prop}
def Each (F : Nat → Prop) : List Nat → Prop
  | [] => True
  | i :: l => F i ∧ Each F l
theorem Each.of {F : Nat → Prop} : ∀ {l : List Nat}, Each F l → ∀ i ∈ l, F i
  | [], _, i, h => by cases h
  | x :: l, hx, i, h => by
    rcases List.mem_cons.1 h with rfl | h
    · exact hx.1
    · exact Each.of hx.2 i h
/-- What comes up in a region, of every frame that fits. -/
def WI (P : Program) (ops : Array Oper) (Q : Exit → Act → World → Prop) (N : Nat) (e : Env) (w : World) (K : Act → World → Prop) (i : Nat) : Prop := ∀ a, Fits N e a → wpOp P ops Q i K a w
theorem r_op {i : Nat} (hi : ops[i]? = some o) (hw : wantE e ops o = some true) (h : WO P o K Q N e w) : WI P ops Q N e w K i := by
  intro a F
  unfold wpOp; simp only [hi, F.want hw, if_true]; exact .inl (h a F)
theorem r_opno {i : Nat} (hi : ops[i]? = some o) (hw : wantE e ops o = some false) (hd : dstOk N o.dst = true) (h : WK K N (putE e o.dst undef) w) : WI P ops Q N e w K i := by
  intro a F
  unfold wpOp; simp only [hi, F.want hw]; exact h _ (F.put hd _)
theorem r_done {fuel : Nat} {listed : Array Bool} (hr : Region.ready md ops listed = []) (h : WK (Q .normal) N e w) : WK (wpAnyH P md ops Q S fuel listed) N e w := fun a F => wpAnyH_done hr (h a F) fuel

theorem x_blkHit {id : Nat} (h : WK (Q .normal) N e w) : WK (Exit.inBlock id Q (.exit id)) N e w := fun a F => by simp only [Exit.inBlock, if_true]; exact h a F
theorem x_blkMiss {id id' : Nat} (hne : (id' == id) = false) (h : WK (Q (.exit id')) N e w) : WK (Exit.inBlock id Q (.exit id')) N e w := fun a F => by
  have : id' ≠ id := by simpa using hne
  simp only [Exit.inBlock, if_neg this]; exact h a F
theorem x_scope {c : Code} (h : WK (c.wp P (Exit.noGoto Q)) N e w) : WK ((Code.scope c).wp P Q) N e w := fun a F => wp_scope_straight (h a F)
section leave
variable {fn : Func} {R : Ending → World → Prop} {r1 r2 r3 r4 r5 : ResultVar}
end leave
/-- A loop's rounds, laid out: n of them at most. -/
def Rounds (P : Program) (c : Code) (Q : Exit → Act → World → Prop) : Nat → Act → World → Prop
  | 0, _, _ => False
  | n + 1, a, w => c.wp P (Exit.then (Rounds P c Q n) Q) a w
theorem least {p : Nat → Prop} (h : ∃ n, p n) : ∃ n, p n ∧ ∀ m, p m → n ≤ m := by
  obtain ⟨n, hn⟩ := h
  induction n using Nat.strongRecOn with
  | _ n ih =>
    by_cases hm : ∃ m, m < n ∧ p m
    · obtain ⟨m, h1, h2⟩ := hm; exact ih m h1 h2
    · exact ⟨n, hn, fun m h => Nat.le_of_not_lt fun hl => hm ⟨m, hl, h⟩⟩
theorem wp_rounds {c : Code} {a : Act} (n : Nat) (h : Rounds P c Q n a w) : (Code.loop c).wp P Q a w := by
  classical
  let I : Act → World → Prop := fun a w => ∃ n, Rounds P c Q n a w
  let μ : Act → World → Nat := fun a w => if h : ∃ n, Rounds P c Q n a w then Classical.choose (least h) else 0
  refine wp_loop I μ ⟨n, h⟩ fun a w hI => ?_
  have hs := (Classical.choose_spec (least hI)).1
  have hm : μ a w = Classical.choose (least hI) := dif_pos hI
  cases hn : Classical.choose (least hI) with
  | zero => rw [hn] at hs; exact hs.elim
  | succ m =>
    rw [hn] at hs
    refine Code.wp_mono (fun e a' w' hq => ?_) hs
    cases e with
    | normal =>
      have hq : Rounds P c Q m a' w' := hq
      have hI' : ∃ n, Rounds P c Q n a' w' := ⟨m, hq⟩
      refine ⟨hI', ?_⟩
      have h1 : μ a' w' = Classical.choose (least hI') := dif_pos hI'
      have h2 := (Classical.choose_spec (least hI')).2 m hq
      omega
    | exit id => exact hq
    | goto l => exact hq
    | ret => exact hq
    | panic c => exact hq
    | outgrown => exact hq
/-- A loop: at its head I holds, with so many rounds left; a round that ends leaves fewer. -/
theorem k_loop {α : Type} {c : Code} (E : α → Env) (I : α → World → Prop) (μ : α → Nat) (x : α) (he : E x = e) (h0 : I x w)
    (hround : ∀ x w, I x w → WK (c.wp P (Exit.then (fun a' w' => ∃ y, Fits N (E y) a' ∧ I y w' ∧ μ y < μ x) Q)) N (E x) w) : WK ((Code.loop c).wp P Q) N e w := by
  subst he
  intro a F
  classical
  let J : Act → World → Prop := fun a w => ∃ x, Fits N (E x) a ∧ I x w
  have hl : ∀ a w, J a w → ∃ n, ∃ x, Fits N (E x) a ∧ I x w ∧ μ x = n := fun a w ⟨x, h1, h2⟩ => ⟨μ x, x, h1, h2, rfl⟩
  let ν : Act → World → Nat := fun a w => if h : J a w then Classical.choose (least (hl a w h)) else 0
  refine wp_loop J ν ⟨x, F, h0⟩ fun a w hJ => ?_
  have hs := Classical.choose_spec (least (hl a w hJ))
  have hν : ν a w = Classical.choose (least (hl a w hJ)) := dif_pos hJ
  obtain ⟨x, h1, h2, h3⟩ := hs.1
  refine Code.wp_mono (fun ex a' w' hq => ?_) (hround x w h2 a h1)
  cases ex with
  | normal =>
    obtain ⟨y, k1, k2, k3⟩ : ∃ y, Fits N (E y) a' ∧ I y w' ∧ μ y < μ x := hq
    have hJ' : J a' w' := ⟨y, k1, k2⟩
    refine ⟨hJ', ?_⟩
    have e1 : ν a' w' = Classical.choose (least (hl a' w' hJ')) := dif_pos hJ'
    have e2 := (Classical.choose_spec (least (hl a' w' hJ'))).2 (μ y) ⟨y, k1, k2, rfl⟩
    omega
  | exit id => exact hq
  | goto l => exact hq
  | ret => exact hq
  | panic c => exact hq
  | outgrown => exact hq
theorem k_rounds {c : Code} (n : Nat) (h : WK (Rounds P c Q n) N e w) : WK ((Code.loop c).wp P Q) N e w := fun a F => wp_rounds n (h a F)
theorem u_step {c : Code} {n : Nat} (h : WK (c.wp P (Exit.then (Rounds P c Q n) Q)) N e w) : WK (Rounds P c Q (n + 1)) N e w := h
theorem Own.mset {i : Nat} {x : Thing} (O : Own w0 w ((L.map Ent.t).set i x)) : Own w0 w ((L.set i (.thing x)).map Ent.t) := by rw [List.map_set]; exact O
end rules
end Go.Proofs.YtikimmgileffgaaGreatDoor
end
/- Rules for operations that want a fact beside what the kernel reckons: an index that is a letter. Any program. -/
section
namespace Go.Proofs.YtikimmgileffgaaGreatDoor
open Go.RowKit
section eqs
variable {P : Program} {w : World}
theorem eqF_nil (d : Nat) (xs ys : Array Value) : (Op.eqFields d xs ys []).run P w = .ok true w := by simp [Op.eqFields]
theorem eqF_step {f : Field} {fs : List Field} {xs ys : Array Value} {d : Nat} {x y : Value} {b r : Bool} (hn : (f.name != "_") = true) (hx : simR P [] (part f.type xs f.offset) [] = some (x, [])) (hy : simR P [] (part f.type ys f.offset) [] = some (y, [])) (he : (Op.equalIn d f.type x y).run P w = .ok b w) (hr : (Op.eqFields d xs ys fs).run P w = .ok r w) : (Op.eqFields d xs ys (f :: fs)).run P w = .ok (b && r) w := by
  have h1 := simR_sound (w := w) _ _ _ _ hx trivial trivial
  have h2 := simR_sound (w := w) _ _ _ _ hy trivial trivial
  have hn' : f.name ≠ "_" := by simpa using hn
  simp only [Op.eqFields, Sem.run_bind, h1, h2, he, Result.andThen_ok, hn', ne_eq, not_false_eq_true, if_true]
  cases b <;> simp [hr]
theorem eqS_in {t : TypeId} {xs ys : Array Value} {d : Nat} {fs : List Field} {b : Bool} (ht : P.underlying t = some (.struct (P.fieldsOf t))) (hp : P.stoodInHeld t = false) (hf : (P.fieldsOf t).toList = fs) (h : (Op.eqFields d xs ys fs).run P w = .ok b w) : (Op.equalIn (d + 1) t (.agg xs) (.agg ys)).run P w = .ok b w := by
  rw [run_equalIn_struct _ _ _ _ _ ht hp, hf, h]
theorem eqI_in {t : TypeId} {k k' : IntKind} {x y : Int} {d : Nat} (h : P.underlying t = some (.int k')) : (Op.equalIn (d + 1) t (.int k x) (.int k y)).run P w = .ok (x == y) w := run_equalIn_int w d t k k' x y h
theorem eqB_in {t : TypeId} {x y : Bool} {d : Nat} (h : P.underlying t = some .bool) : (Op.equalIn (d + 1) t (.bool x) (.bool y)).run P w = .ok (x == y) w := run_equalIn_bool' w d t x y h
end eqs
section rules
variable {P : Program} {o : Oper} {w w0 : World} {K : Act → World → Prop} {Q : Exit → Act → World → Prop} {N : Nat} {e : Env}

end rules
end Go.Proofs.YtikimmgileffgaaGreatDoor
end
