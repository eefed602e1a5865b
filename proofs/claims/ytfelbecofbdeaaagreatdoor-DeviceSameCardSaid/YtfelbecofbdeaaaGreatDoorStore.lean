/- Stores of layer 14 (keys are ints): how one lies in memory, and what its calls do. -/
import Derived.Test.YtfelbecofbdeaaaGreatDoorMaps
import Derived.Test.YtfelbecofbdeaaaGreatDoorOpen
import Derived.Lib.Hide
import Derived.Deep.QuietTactic
import Derived.BigQuiet
import Derived.Deep.RegionHeld3
import Derived.Deep.AppendLies
import Derived.Laws.AppendOwnNone
import Derived.Test.YtfelbecofbdeaaaGreatDoorShelf
import Derived.Test.YtfelbecofbdeaaaGreatDoorShelf2
import Derived.Lib.SlBy
import Derived.Test.YtfelbecofbdeaaaGreatDoorOwnR
namespace Go.Proofs.YtfelbecofbdeaaaGreatDoor
open Go.RowKit

structure St where
  limit : Nat
  l : List (Int × Value)
def sZero : Value := .int .i64 0
def keyV (n : Int) : Value := .int .i64 n
def keysV (l : List (Int × Value)) : List Value := l.map fun p => keyV p.1
theorem keysV_length (l : List (Int × Value)) : (keysV l).length = l.length := List.length_map ..

structure StoreAt (w : World) (r bm : Nat) (kv : Value) (s : St) : Prop where
  root : w.heap[r]? = some (.cells #[.int .i64 s.limit, kv, .map (some bm)] 127 (0, 0))
  row : w.ownsRow 0 3 1 kv s.l.length (keysV s.l)
  map : MapIs keyV w bm s.l
  nodup : (s.l.map (·.1)).Nodup
  room : s.l.length ≤ s.limit ∧ s.limit ≤ 65536
def IsStore (w : World) (r : Nat) (s : St) (S : Nat → Prop) : Prop :=
  ∃ bm kv, StoreAt w r bm kv s ∧ S r ∧ S bm ∧ (∀ k, kv.ownBlock = some k → S k) ∧ ∀ b, S b → b < w.heap.size
theorem StoreAt.keep {S : Nat → Prop} {w w' : World} {r bm : Nat} {kv : Value} {s : St} (h : StoreAt w r bm kv s) (u : Upd S w w') (h1 : ¬ S r) (h2 : ¬ S bm) (h3 : ∀ k, kv.ownBlock = some k → ¬ S k) : StoreAt w' r bm kv s :=
  ⟨u.heap h.root h1, ownsRow_upd' h.row u h3, h.map.upd u h2, h.nodup, h.room⟩
theorem IsStore.keep {S T : Nat → Prop} {w w' : World} {r : Nat} {s : St} (h : IsStore w r s S) (u : Upd T w w') (hd : ∀ b, S b → ¬ T b) : IsStore w' r s S := by
  obtain ⟨bm, kv, h, h1, h2, h3, h4⟩ := h
  exact ⟨bm, kv, h.keep u (hd _ h1) (hd _ h2) (fun k hk => hd _ (h3 k hk)), h1, h2, h3, fun b hb => Nat.lt_of_lt_of_le (h4 b hb) u.size⟩
theorem IsStore.below {S : Nat → Prop} {w w' : World} {r : Nat} {s : St} (h : IsStore w r s S) (u : Below w.heap.size w w') : IsStore w' r s S :=
  h.keep (Upd.of_below (S := None) u) (fun _ _ h => h)
theorem IsStore.lt {S : Nat → Prop} {w : World} {r : Nat} {s : St} (h : IsStore w r s S) : ∀ b, S b → b < w.heap.size := by
  obtain ⟨bm, kv, h, h1, h2, h3, h4⟩ := h; exact h4
theorem StoreAt.cells {w : World} {r bm : Nat} {kv : Value} {s : St} (h : StoreAt w r bm kv s) : w.cell? ⟨r, 0, none⟩ = some (.int .i64 s.limit) ∧ w.cell? ⟨r, 1, none⟩ = some kv ∧ w.cell? ⟨r, 2, none⟩ = some (.map (some bm)) :=
  ⟨cell_of_heap h.root, cell_of_heap h.root, cell_of_heap h.root⟩
theorem StoreAt.ne {w : World} {r bm : Nat} {kv : Value} {s : St} (h : StoreAt w r bm kv s) : r ≠ bm ∧ (∀ k, kv.ownBlock = some k → k ≠ r ∧ k ≠ bm) := by
  refine ⟨fun e => ?_, fun k hk => ⟨fun e => ?_, fun e => ?_⟩⟩
  · obtain ⟨es, cl, h1, _⟩ := h.map
    have := h.root; rw [e, h1] at this; cases this
  · rcases h.row.2 with ⟨h2, _⟩ | ⟨g, cp, cur, h2, _, h3, _⟩
    · rw [h2] at hk; cases hk
    · rw [h2] at hk; simp [Value.ownBlock] at hk; subst hk
      rw [e, h.root] at h3; simp at h3
  · obtain ⟨es, cl, h1, _⟩ := h.map
    rcases h.row.2 with ⟨h2, _⟩ | ⟨g, cp, cur, h2, _, h3, _⟩
    · rw [h2] at hk; cases hk
    · rw [h2] at hk; simp [Value.ownBlock] at hk; subst hk
      rw [e, h1] at h3; cases h3

theorem row_form {w : World} {base : Nat} {e : TypeId} {v : Value} {n : Nat} {xs : List Value} {size : Nat} (h : w.ownsRow base e size v n xs) : ∃ A cap, v = .slice A n cap := by
  rcases h.2 with ⟨h2, h3⟩ | ⟨g, cp, cur, h2, _⟩
  · exact ⟨none, 0, by rw [h2, h3]⟩
  · exact ⟨_, _, h2⟩
/-- What Get tells. -/
def getS (s : St) (k : Int) : Value := ((findL k s.l 0).map (·.2)).getD sZero
def hasS (s : St) (k : Int) : Bool := (findL k s.l 0).isSome
theorem einfo_int : (Tryz.prog.info? 3).map (fun i => (i.zero, i.size, i.bytes)) = some (some (.int .i64 0), 1, 8) := by kernel_rfl
theorem keyOk : KeyOk Tryz.prog 3 keyV := keyOk_int Tryz.underlying3

set_option maxHeartbeats 800000 in
theorem sGet_calls {S : Nat → Prop} {r : Nat} {s : St} {w : World} (h : IsStore w r s S) (k : Int) :
    Calls Tryz.prog 49 #[.pointer (some ⟨r, 0, none⟩), .int .i64 k] w fun e w' => e = .returned (.tuple #[getS s k, .bool (hasS s k)]) ∧ w = w' := by
  obtain ⟨bm, kv, hs, -⟩ := h
  obtain ⟨c0, c1, c2⟩ := hs.cells
  obtain ⟨iE, hE, hz, -, -⟩ := info_parts (show (Tryz.prog.info? 3).map (fun i => (i.zero, i.size, i.bytes)) = some (some sZero, 1, 8) by kernel_rfl)
  have hlk := lookup_ok keyOk Tryz.underlying102 hE hz hs.map k
  unfold keyV at hlk
  clear hE hz hs
  have hg : getS s k = ((findL k s.l 0).map (·.2)).getD sZero := rfl
  have hh : hasS s k = (findL k s.l 0).isSome := rfl
  rw [hg, hh]
  generalize ((findL k s.l 0).map (·.2)).getD sZero = v at *
  generalize (findL k s.l 0).isSome = b at *
  clear hg hh
  go_enter Tryz.func49, Tryz.ntmps49
  go_wp2_with fail
  go_ret2
  exact ⟨rfl, rfl⟩

/-- What a call that changes a store leaves. -/
def SLeft (w : World) (r : Nat) (S : Nat → Prop) (s' : St) (w' : World) : Prop := ∃ S', IsStore w' r s' S' ∧ Upd S w w' ∧ ∀ b, S' b → S b ∨ w.heap.size ≤ b
theorem SLeft.refl {w : World} {r : Nat} {S : Nat → Prop} {s : St} (h : IsStore w r s S) : SLeft w r S s w := ⟨S, h, Upd.refl _ _, fun _ hb => .inl hb⟩
theorem SLeft.of_below {w w' : World} {r : Nat} {S : Nat → Prop} {s : St} (h : IsStore w r s S) (u : Below w.heap.size w w') : SLeft w r S s w' := ⟨S, h.below u, Upd.of_below u, fun _ hb => .inl hb⟩
def newS (n : Int) : St := ⟨(max n 0).toNat, []⟩
def SNewPost (n : Int) (w : World) (e : Ending) (w' : World) : Prop :=
  ∃ r S, e = .returned (.pointer (some ⟨r, 0, none⟩)) ∧ IsStore w' r (newS n) S ∧ Below w.heap.size w w' ∧ ∀ b, S b → w.heap.size ≤ b
set_option maxHeartbeats 800000 in
theorem sNew_calls (n : Int) (w : World) (hn : n ≤ 65536) : Calls Tryz.prog 69 #[.int .i64 n] w (SNewPost n w) := by
  have hmap := @run_makeMap Tryz.prog
  have Hn := Lib.hid hn
  clear hn
  go_enter Tryz.func69, Tryz.ntmps69
  go_wp2_with fail
  go_ret
  refine ⟨w.heap.size + 1, fun b => b = w.heap.size ∨ b = w.heap.size + 1, rfl, ⟨w.heap.size, .slice none 0 0, ⟨?_, World.ownsRow_nil _ _ _ _, ⟨#[], 0, (two_new w _ _).1, rfl⟩, by simp [newS], by have := Hn.out; simp [newS]; omega⟩, .inr rfl, .inl rfl, fun k hk => by simp [Value.ownBlock] at hk, fun b hb => by simp; omega⟩, below2 _ _ _, fun b hb => by omega⟩
  have := (two_new w (.map #[] 0) (.cells #[.int .i64 (max n 0), .slice none 0 0, .map (some w.heap.size)] 127)).2
  rw [this]
  simp [newS]
/-- Put: the store behind it, the error. -/
def putS (s : St) (k : Int) (v : Value) : St × Int := if hasS s k = false ∧ s.limit ≤ s.l.length then (s, 3) else (⟨s.limit, setL k v s.l⟩, 0)
def SPutPost (s : St) (k : Int) (v : Value) (S : Nat → Prop) (r : Nat) (w : World) (e : Ending) (w' : World) : Prop :=
  e = .returned (.int .i64 (putS s k v).2) ∧ SLeft w r S (putS s k v).1 w'
theorem findL_at {α : Type} [DecidableEq α] (a : α) (l : List (α × Value)) {i : Nat} {v : Value} (h : findL a l 0 = some (i, v)) : l[i]? = some (a, v) := by
  have := (findL_spec a l 0 i v h).2; simpa using this
theorem setL_keys {α : Type} [DecidableEq α] (a : α) (v : Value) (l : List (α × Value)) (h : (findL a l 0).isSome = true) : (setL a v l).map (·.1) = l.map (·.1) ∧ (setL a v l).length = l.length := by
  unfold setL
  cases hf : findL a l 0 with
  | none => rw [hf] at h; cases h
  | some p =>
    obtain ⟨i, u⟩ := p
    have hi := findL_at a l hf
    refine ⟨?_, by simp⟩
    apply List.ext_getElem?
    intro j
    simp only [List.getElem?_map, List.getElem?_set]
    by_cases hij : i = j
    · subst hij
      have hl := (List.getElem?_eq_some_iff.1 hi).1
      simp [hl]
      rw [List.getElem?_eq_some_iff] at hi
      simp [hi.2]
    · simp [hij]
theorem keysV_of_map {l l' : List (Int × Value)} (h : l'.map (·.1) = l.map (·.1)) : keysV l' = keysV l := by
  have : ∀ l : List (Int × Value), keysV l = (l.map (·.1)).map keyV := fun l => by simp [keysV]
  rw [this, this, h]
theorem store_upd {S : Nat → Prop} {w w1 w5 : World} {r bm : Nat} {kv : Value} {s : St} {l' : List (Int × Value)} (H : IsStore w r s S) (hs : StoreAt w r bm kv s) (sr : S r) (sm : S bm) (sk : ∀ k, kv.ownBlock = some k → S k)
    (uq : Upd S w w1) (u5 : Upd (One bm) w1 w5) (m5 : MapIs keyV w5 bm l') (hset : l'.map (·.1) = s.l.map (·.1) ∧ l'.length = s.l.length) (hh : w1.heap = w.heap := by rfl) : SLeft w r S ⟨s.limit, l'⟩ w5 := by
  obtain ⟨hne, hnk⟩ := hs.ne
  have u1 : Upd None w w1 := ⟨uq.os, uq.tape, uq.output, uq.size, fun k _ _ => by rw [hh]⟩
  have hs1 := hs.keep u1 (fun h => h) (fun h => h) (fun _ _ h => h)
  refine ⟨S, ⟨bm, kv, ⟨u5.heap hs1.root hne, ?_, m5, by rw [hset.1]; exact hs.nodup, by simp only [hset.2]; exact hs.room⟩, sr, sm, sk, fun b hb => ?_⟩, ?_, fun b hb => .inl hb⟩
  · have := ownsRow_upd' hs1.row u5 (fun k hk e => (hnk k hk).2 e)
    simp only
    rw [hset.2, keysV_of_map hset.1]; exact this
  · have := H.lt b hb; have := uq.size; have := u5.size; omega
  · exact uq.trans' u5 (fun k _ e => by unfold One at e; subst e; exact sm)
theorem put_end {S : Nat → Prop} {w w1 w5 w6 : World} {r bm g cp : Nat} {kv : Value} {s : St} {k : Int} {v : Value} (H : IsStore w r s S) (hb1 : Below w.heap.size w w1) (hs : StoreAt w1 r bm kv s) (sr : S r) (sm : S bm) (sk : ∀ k, kv.ownBlock = some k → S k)
    (hg6 : (w1.alloc (.cells #[.int .i64 k] 3)).grownBy w6 kv.ownBlock) (hown6 : w6.ownsRow 0 3 1 (.slice (some ⟨g, 0, none⟩) (s.l.length + 1) cp) (s.l.length + 1) (keysV s.l ++ [.int .i64 k]))
    (hat6 : kv.ownBlock = some g ∨ g = w1.heap.size + 1) (hlt6 : g < w6.heap.size)
    (u5 : Upd (One bm) (w6.setCell ⟨r, 1, none⟩ (.slice (some ⟨g, 0, none⟩) (s.l.length + 1) cp)) w5) (m5 : MapIs keyV w5 bm (s.l ++ [(k, v)])) (hn : findL k s.l 0 = none) (hroom : s.l.length + 1 ≤ s.limit) :
    SLeft w r S ⟨s.limit, s.l ++ [(k, v)]⟩ w5 := by
  obtain ⟨hne, hnk⟩ := hs.ne
  have hlr := H.lt r sr
  have hlm := H.lt bm sm
  have hs1 := hb1.size
  have hs6 := hg6.size
  simp only [World.size_alloc] at hs6
  have hs7 : (w6.setCell ⟨r, 1, none⟩ (.slice (some ⟨g, 0, none⟩) (s.l.length + 1) cp)).heap.size = w6.heap.size := by simp [World.setCell]
  have hs5 := u5.size
  have hgr : g ≠ r ∧ g ≠ bm := by
    rcases hat6 with h | h
    · exact hnk g h
    · omega
  have hroot6 : w6.heap[r]? = some (.cells #[.int .i64 s.limit, kv, .map (some bm)] 127 (0, 0)) :=
    (hg6.block r (by simp; omega) (fun e => (hnk r e.symm).1 rfl)).trans (old_at hs.root)
  have hroot7 := heap_setCell_at (o := 1) hroot6 (.slice (some ⟨g, 0, none⟩) (s.l.length + 1) cp)
  have hrow7 := ownsRow_upd' (S := One r) (w' := w6.setCell ⟨r, 1, none⟩ (.slice (some ⟨g, 0, none⟩) (s.l.length + 1) cp)) hown6 ⟨rfl, rfl, rfl, by rw [hs7]; exact Nat.le_refl _, fun k _ hk => Below.heap_setCell _ _ _ _ hk⟩ (fun k hk e => by simp [Value.ownBlock] at hk; unfold One at e; omega)
  have hrow5 := ownsRow_upd' hrow7 u5 (fun k hk e => by simp [Value.ownBlock] at hk; unfold One at e; omega)
  refine ⟨fun b => S b ∨ b = g, ⟨bm, .slice (some ⟨g, 0, none⟩) (s.l.length + 1) cp, ⟨?_, ?_, m5, ?_, ?_⟩, .inl sr, .inl sm, fun k hk => by simp [Value.ownBlock] at hk; exact .inr hk.symm, ?_⟩, ⟨?_, ?_, ?_, by omega, ?_⟩, ?_⟩
  · have := u5.heap hroot7 hne
    simpa using this
  · simpa [keysV, keyV] using hrow5
  · rw [List.map_append]
    refine List.nodup_append.2 ⟨hs.nodup, by simp, ?_⟩
    intro x hx y hy
    have hy' : y = k := by simpa using hy
    rw [hy']
    obtain ⟨p, hp, rfl⟩ := List.mem_map.1 hx
    exact (findL_none k s.l 0).1 hn p hp
  · have := hs.room; simp; omega
  · intro b hb
    rcases hb with hb | rfl
    · have := H.lt b hb; omega
    · omega
  · exact u5.os.trans (hg6.os.trans hb1.os)
  · exact u5.tape.trans (hg6.tape.trans hb1.tape)
  · exact u5.output.trans (hg6.output.trans hb1.output)
  · intro j hj hS
    have k1 : j ≠ r := fun e => hS (e ▸ sr)
    have k2 : j ≠ bm := fun e => hS (e ▸ sm)
    rw [u5.block j (by omega) k2, Below.heap_setCell _ _ _ _ (by show j ≠ r; exact k1), hg6.block j (by simp; omega) (fun e => hS (sk j e.symm)), heap_alloc_get, if_neg (by omega)]
    exact hb1.block j hj
  · intro b hb
    rcases hb with hb | rfl
    · exact .inl hb
    · rcases hat6 with h | h
      · exact .inl (sk _ h)
      · right; omega
set_option maxHeartbeats 3200000 in
set_option maxRecDepth 100000 in
theorem sPut_calls {S : Nat → Prop} {r : Nat} {s : St} {w : World} (h : IsStore w r s S) (k : Int) (v : Value) :
    Calls Tryz.prog 75 #[.pointer (some ⟨r, 0, none⟩), .int .i64 k, v] w (SPutPost s k v S r w) := by
  have H := Lib.hid h
  obtain ⟨bm, kv, hs, sr, sm, sk, slt⟩ := h
  obtain ⟨c0, c1, c2⟩ := hs.cells
  obtain ⟨hne, hnk⟩ := hs.ne
  obtain ⟨iE, hE, hz, -, -⟩ := info_parts (show (Tryz.prog.info? 3).map (fun i => (i.zero, i.size, i.bytes)) = some (some sZero, 1, 8) by kernel_rfl)
  have hlk := lookup_ok keyOk Tryz.underlying102 hE hz hs.map k
  unfold keyV at hlk
  clear hE hz
  have fr := fun o => frozen_of_heap (o := o) hs.root
  have Hs := Lib.hid hs
  clear hs
  cases hf : (findL k s.l 0).isSome with
  | true =>
    have Hp := Lib.hid (show putS s k v = (⟨s.limit, setL k v s.l⟩, 0) by simp [putS, hasS, hf])
    have Hset := Lib.hid (setL_keys k v s.l hf)
    rw [hf] at hlk
    generalize ((findL k s.l 0).map (·.2)).getD sZero = z at *
    go_enter Tryz.func75, Tryz.ntmps75
    go_wp2_with fail
    go_quiet (fail)
    have uq : Upd S w (w.drewN nq) := (Upd.refl _ _).drewN _
    obtain ⟨w5, r5, m5, u5, s5, d5⟩ := update_ok (w := w.drewN nq) keyOk Tryz.underlying102 (Hs.out.map.upd ((Upd.refl None _).drewN _) (fun h => h)) k v
    unfold keyV at r5
    clear s5 d5
    go_wp2_with fail
    go_ret
    exact ⟨by rw [Hp.out]; rfl, by rw [Hp.out]; exact store_upd H.out Hs.out sr sm sk uq u5 m5 Hset.out⟩
  | false =>
    rw [hf] at hlk
    generalize ((findL k s.l 0).map (·.2)).getD sZero = z at *
    have hn : findL k s.l 0 = none := by simpa using hf
    by_cases hfull : s.limit ≤ s.l.length
    · have Hp := Lib.hid (show putS s k v = (s, 3) by simp [putS, hasS, hf, hfull])
      have hd : decide ((s.limit : Int) ≤ (s.l.length : Int)) = true := decide_eq_true (by omega)
      have hd2 : decide (s.limit ≤ s.l.length) = true := decide_eq_true hfull
      obtain ⟨A, cap, rfl⟩ := row_form Hs.out.row
      clear hfull
      go_enter Tryz.func75, Tryz.ntmps75
      go_wp2_with fail
      go_quiet (fail)
      go_wp2_with fail
      go_ret
      exact ⟨by rw [Hp.out]; rfl, by rw [Hp.out]; exact SLeft.of_below H.out (Upd.below (S := None) ((Upd.refl _ _).drewN _) (Nat.le_refl _) (fun _ _ h => h))⟩
    · have hroom : s.l.length + 1 ≤ s.limit := by omega
      have Hp := Lib.hid (show putS s k v = (⟨s.limit, s.l ++ [(k, v)]⟩, 0) by simp [putS, hasS, hfull, setL, hn])
      have hd : decide ((s.limit : Int) ≤ (s.l.length : Int)) = false := decide_eq_false (by omega)
      have hd2 : decide (s.limit ≤ s.l.length) = false := decide_eq_false hfull
      obtain ⟨A, cap, rfl⟩ := row_form Hs.out.row
      clear hfull
      go_enter Tryz.func75, Tryz.ntmps75
      go_wp2_with fail
      go_quiet (fail)
      obtain ⟨w1, hw1⟩ : ∃ w1 : World, w1 = w.drewN nq := ⟨_, rfl⟩
      rw [← hw1]
      have hb1 : Below w.heap.size w w1 := by rw [hw1]; exact Upd.below (S := None) ((Upd.refl _ _).drewN _) (Nat.le_refl _) (fun _ _ h => h)
      have hh1 : w1.heap = w.heap := by rw [hw1]; rfl
      have Hs1 := Lib.hid (Hs.out.keep (Upd.of_below (S := None) hb1) (fun h => h) (fun h => h) (fun _ _ h => h))
      clear hw1 c0 c1 c2 fr hlk hd hd2
      obtain ⟨c0, c1, c2⟩ := Hs1.out.cells
      have lr := lt_of_heap Hs1.out.root
      have hx0 : (w1.alloc (.cells #[.int .i64 k] 3)).heap.size = w1.heap.size + 1 := by simp
      have hlim := Hs1.out.room
      have Hh1 := Lib.hid hh1
      clear hh1
      go_wp2_with (at_builtin; go_loud (refine wpList_app1L rfl (.tmp 38) (.tmp 40) 70 rfl 3 (.int .i64 0) 8 Tryz.underlying70 einfo_int rfl _ s.l.length (keysV s.l) rfl Hs1.out.row w1.heap.size (.int .i64 k) rfl rfl rfl (by unfold maxLen; omega) (by omega) ?_))
      intro g cp w6 hown6 hg6 hat6 hlt6
      have hroot6 : w6.heap[r]? = some (.cells #[.int .i64 s.limit, .slice A s.l.length cap, .map (some bm)] 127 (0, 0)) :=
        (hg6.block r (by simp; omega) (fun e => (hnk r e.symm).1 rfl)).trans (old_at Hs1.out.root)
      have fr6 := fun o => frozen_of_heap (o := o) hroot6
      have l6 := lt_of_heap hroot6
      have hroot7 := heap_setCell_at (o := 1) hroot6 (.slice (some ⟨g, 0, none⟩) (s.l.length + 1) cp)
      have c7 := cell_of_heap (o := 2) hroot7
      have l7 := lt_of_heap hroot7
      have hm7 : MapIs keyV (w6.setCell ⟨r, 1, none⟩ (.slice (some ⟨g, 0, none⟩) (s.l.length + 1) cp)) bm s.l := by
        obtain ⟨es, cl, q1, q2⟩ := Hs1.out.map
        refine ⟨es, cl, ?_, q2⟩
        rw [Below.heap_setCell _ _ _ _ (by show bm ≠ r; exact Ne.symm hne)]
        exact (hg6.block bm (by have := lt_of_heap q1; simp; omega) (fun e => (hnk bm e.symm).2 rfl)).trans (old_at q1)
      obtain ⟨w5, r5, m5, u5, s5, d5⟩ := update_ok keyOk Tryz.underlying102 hm7 k v
      unfold keyV at r5
      clear c0 c1 c2 s5 d5
      have c0 := cell_of_heap (o := 0) hroot6
      have c1 := cell_of_heap (o := 1) hroot6
      have c2 := cell_of_heap (o := 2) hroot6
      go_wp2_with fail
      go_ret
      exact ⟨by rw [Hp.out]; rfl, by rw [Hp.out]; exact put_end H.out hb1 Hs1.out sr sm sk hg6 hown6 hat6 hlt6 u5 (by have := m5; rw [setL, hn] at this; exact this) hn (by omega)⟩
/-- Add: the store behind it, the error. -/
def addSt (s : St) (k : Int) (v : Value) : St × Int := if hasS s k then (s, 4) else putS s k v
def SAddPost (s : St) (k : Int) (v : Value) (S : Nat → Prop) (r : Nat) (w : World) (e : Ending) (w' : World) : Prop :=
  e = .returned (.int .i64 (addSt s k v).2) ∧ SLeft w r S (addSt s k v).1 w'
set_option maxHeartbeats 1600000 in
theorem sAdd_calls {S : Nat → Prop} {r : Nat} {s : St} {w : World} (h : IsStore w r s S) (k : Int) (v : Value) :
    Calls Tryz.prog 70 #[.pointer (some ⟨r, 0, none⟩), .int .i64 k, v] w (SAddPost s k v S r w) := by
  have H := Lib.hid h
  obtain ⟨bm, kv, hs, -⟩ := h
  obtain ⟨c0, c1, c2⟩ := hs.cells
  obtain ⟨iE, hE, hz, -, -⟩ := info_parts (show (Tryz.prog.info? 3).map (fun i => (i.zero, i.size, i.bytes)) = some (some sZero, 1, 8) by kernel_rfl)
  have hlk := lookup_ok keyOk Tryz.underlying102 hE hz hs.map k
  unfold keyV at hlk
  clear hE hz hs
  generalize ((findL k s.l 0).map (·.2)).getD sZero = z at *
  cases hf : (findL k s.l 0).isSome with
  | true =>
    have Hp := Lib.hid (show addSt s k v = (s, 4) by simp [addSt, hasS, hf])
    rw [hf] at hlk
    go_enter Tryz.func70, Tryz.ntmps70
    go_wp2_with fail
    go_ret
    exact ⟨by rw [Hp.out]; rfl, by rw [Hp.out]; exact SLeft.refl H.out⟩
  | false =>
    have Hp := Lib.hid (show addSt s k v = putS s k v by simp [addSt, hasS, hf])
    rw [hf] at hlk
    go_enter Tryz.func70, Tryz.ntmps70
    go_wp2_with fail
    refine (sPut_calls H.out k v).mono ?_
    rintro e w1 ⟨rfl, h1⟩
    go_wp2_with fail
    go_ret
    exact ⟨by rw [Hp.out]; rfl, by rw [Hp.out]; exact h1⟩
/-! Drop of a store. -/
theorem makeFunc_run (fn : Fn) (first cap : Array Value) (w : World) : (Instr.makeFunc fn first cap).run Tryz.prog w = .ok (.func fn first cap) w := rfl
theorem enters_drop1 : ∀ args w, (callFunc 98 args).run Tryz.prog w = .ok (.enter 98 args) w := enters_of Tryz.func98 (by kernel_rfl) rfl
theorem drop1_gives (k x : Int) (B : Nat) (W : World) (hc : W.cell? ⟨B, 0, none⟩ = some (.int .i64 k)) : FnGives Tryz.prog 98 #[.pointer (some ⟨B, 0, none⟩)] #[.int .i64 x] (.bool (x == k)) W := by
  show Calls Tryz.prog 98 #[.int .i64 x, .pointer (some ⟨B, 0, none⟩)] W _
  go_enter Tryz.func98, Tryz.ntmps98
  go_wp2
  all_goals (go_ret; exact ⟨rfl, 0, rfl⟩)
theorem drop1_pred (k : Int) (B : Nat) (w : World) (hB : B < w.heap.size) (hc : w.cell? ⟨B, 0, none⟩ = some (.int .i64 k)) : PredAt Tryz.prog 98 #[.pointer (some ⟨B, 0, none⟩)] (Value.int .i64) (fun x => x == k) w :=
  fun W x hb => drop1_gives k x B W ((hb.cell (p := ⟨B, 0, none⟩) hB).trans hc)
open Go.Sort in
theorem drop1_over (k : Int) (B blk off size : Nat) (w : World) (hB : B < w.heap.size) (hne : B ≠ blk) (hc : w.cell? ⟨B, 0, none⟩ = some (.int .i64 k)) : PredOver Tryz.prog 98 #[.pointer (some ⟨B, 0, none⟩)] (Value.int .i64) (fun x => x == k) blk off size w :=
  fun n os dk x _ => drop1_gives k x B _ (by
    unfold sortWorld
    rw [cell?_grow _ _ _ (by show B < (putRow _ _ _ _ _).heap.size; rw [size_putRow]; exact hB), cell?_putRow_other _ _ blk off _ _ (Or.inl hne)]
    exact hc)
open Go.Sort in
theorem putRow_upd {α : Type} [Inhabited α] (enc : α → Value) (W : World) (g q : Nat) (d : Array α) : Upd (One g) W (putRow enc (Sort.ahead W q) g 0 d) := by
  refine ⟨rfl, rfl, rfl, ?_, fun k _ hk => ?_⟩
  · simp [putRow, mapBlock, Sort.ahead]
  · simp only [putRow, mapBlock, Sort.ahead]
    rw [Array.getElem?_modify, if_neg (fun e => hk e.symm)]
open Go.Sort in
theorem putRow_owns {α : Type} [Inhabited α] (enc : α → Value) (W : World) (g q cap m : Nat) (d : Array α) {cur : Array Value} {e : TypeId} (hg : W.heap[g]? = some (.cells cur e (0, 0))) (hc : cur.size = cap) (hm : m ≤ d.size) (hd : d.size ≤ cap) (hmax : cap ≤ maxLen) :
    (putRow enc (Sort.ahead W q) g 0 d).ownsRow 0 e 1 (.slice (some ⟨g, 0, none⟩) m cap) m ((d.toList.take m).map enc) := by
  refine ⟨by simp; omega, .inr ⟨g, cap, putCells enc 0 d cur, rfl, Nat.zero_le _, ?_, by omega, hmax, by simp [putCells, hc], ?_⟩⟩
  · simp only [putRow, mapBlock, Sort.ahead]
    rw [Array.getElem?_modify, if_pos rfl, hg]
    rfl
  · apply List.ext_getElem?
    intro k
    simp only [Nat.mul_one]
    rw [List.getElem?_take, List.getElem?_map, List.getElem?_take]
    by_cases hk : k < m
    · rw [if_pos hk, if_pos hk, Array.getElem?_toList, Array.getElem?_toList]
      simp only [putCells, Array.getElem?_mapIdx]
      rw [Array.getElem?_eq_getElem (by omega : k < cur.size), Array.getElem?_eq_getElem (by omega : k < d.size)]
      simp only [Option.map_some]
      rw [if_pos ⟨Nat.zero_le _, by omega⟩]
      simp only [Nat.sub_zero]
      rw [getElem!_pos d k (by omega)]
    · rw [if_neg hk, if_neg hk]; rfl
theorem findL_shift {α : Type} [DecidableEq α] (a : α) : ∀ (l : List (α × Value)) (i : Nat), findL a l (i + 1) = (findL a l i).map fun q => (q.1 + 1, q.2)
  | [], i => rfl
  | p :: l, i => by
    unfold findL
    split
    · rfl
    · exact findL_shift a l (i + 1)
theorem dropL_cons {α : Type} [DecidableEq α] (a : α) (p : α × Value) (l : List (α × Value)) : dropL a (p :: l) = if a = p.1 then l else p :: dropL a l := by
  unfold dropL
  rw [findL]
  by_cases h : a = p.1
  · simp [h]
  · rw [if_neg h, if_neg h, findL_shift]
    cases findL a l 0 with
    | none => rfl
    | some q => rfl
theorem dropL_keys {α : Type} [DecidableEq α] (a : α) : ∀ (l : List (α × Value)), (l.map (·.1)).Nodup → (dropL a l).map (·.1) = (l.map (·.1)).filter fun x => !(x == a)
  | [], _ => rfl
  | p :: l, h => by
    rw [List.map_cons, List.nodup_cons] at h
    rw [dropL_cons]
    by_cases he : a = p.1
    · rw [if_pos he]
      have : ∀ x ∈ l.map (·.1), (!(x == a)) = true := fun x hx => by simp; rintro rfl; exact h.1 (he ▸ hx)
      rw [List.map_cons, List.filter_cons, if_neg (by simp [he]), List.filter_eq_self.2 this]
    · rw [if_neg he, List.map_cons, List.map_cons, List.filter_cons, if_pos (by simp; exact fun e => he e.symm), dropL_keys a l h.2]
/-- Drop: the store behind it, the error. -/
def dropS (s : St) (k : Int) : St × Int := if hasS s k then (⟨s.limit, dropL k s.l⟩, 0) else (s, 4)
def SDropPost (s : St) (k : Int) (S : Nat → Prop) (r : Nat) (w : World) (e : Ending) (w' : World) : Prop :=
  e = .returned (.int .i64 (dropS s k).2) ∧ SLeft w r S (dropS s k).1 w'
set_option maxHeartbeats 3200000 in
set_option maxRecDepth 100000 in
theorem sDrop_calls {S : Nat → Prop} {r : Nat} {s : St} {w : World} (h : IsStore w r s S) (k : Int) :
    Calls Tryz.prog 74 #[.pointer (some ⟨r, 0, none⟩), .int .i64 k] w (SDropPost s k S r w) := by
  have H := Lib.hid h
  have hb1 : Below w.heap.size w (w.alloc (.cells #[.int .i64 k] 3)) := (Below.refl _ _).alloc (Nat.le_refl _) _
  obtain ⟨bm, kv, hs, sr, sm, sk, slt⟩ := h.below hb1
  obtain ⟨c0, c1, c2⟩ := hs.cells
  obtain ⟨hne, hnk⟩ := hs.ne
  obtain ⟨iE, hE, hz, -, -⟩ := info_parts (show (Tryz.prog.info? 3).map (fun i => (i.zero, i.size, i.bytes)) = some (some sZero, 1, 8) by kernel_rfl)
  have hlk := fun n => lookup_ok (w := (w.alloc (.cells #[.int .i64 k] 3)).drewN n) keyOk Tryz.underlying102 hE hz (hs.map.upd ((Upd.refl None _).drewN _) (fun h => h)) k
  unfold keyV at hlk
  generalize ((findL k s.l 0).map (·.2)).getD sZero = z at *
  clear hE hz
  have Hs := Lib.hid hs
  clear hs
  cases hf : (findL k s.l 0).isSome with
  | false =>
    have Hp := Lib.hid (show dropS s k = (s, 4) by simp [dropS, hasS, hf])
    rw [hf] at hlk
    go_enter Tryz.func74, Tryz.ntmps74
    go_wp2_with fail
    go_quiet (fail)
    go_wp2_with fail
    go_ret
    exact ⟨by rw [Hp.out]; rfl, by rw [Hp.out]; exact SLeft.of_below H.out (hb1.trans (Upd.below (S := None) ((Upd.refl _ _).drewN _) (by simp) (fun _ _ h => h)))⟩
  | true =>
    have Hp := Lib.hid (show dropS s k = (⟨s.limit, dropL k s.l⟩, 0) by simp [dropS, hasS, hf])
    rw [hf] at hlk
    go_enter Tryz.func74, Tryz.ntmps74
    go_wp2_with fail
    go_quiet (fail)
    go_wp2_with fail
    obtain ⟨w1, hw1⟩ : ∃ w1 : World, w1 = (w.alloc (.cells #[.int .i64 k] 3)).drewN nq := ⟨_, rfl⟩
    rw [← hw1]
    have hbw : Below w.heap.size w w1 := by rw [hw1]; exact hb1.trans (Upd.below (S := None) ((Upd.refl _ _).drewN _) (by simp) (fun _ _ h => h))
    have Hs1 := Lib.hid (show StoreAt w1 r bm kv s by rw [hw1]; exact Hs.out.keep (S := None) ((Upd.refl _ _).drewN _) (fun h => h) (fun h => h) (fun _ _ h => h))
    have hbox : w1.heap[w.heap.size]? = some (.cells #[.int .i64 k] 3 (0, 0)) := by rw [hw1]; exact new_at rfl
    clear hw1 c0 c1 c2 Hs hlk
    obtain ⟨c0, c1, c2⟩ := Hs1.out.cells
    have fr := fun o => frozen_of_heap (o := o) Hs1.out.root
    have cb := cell_of_heap (o := 0) hbox
    have lb := lt_of_heap hbox
    simp only [List.getElem?_toArray, List.getElem?_cons_zero] at cb
    obtain ⟨w2, r2, m2, u2, s2, d2⟩ := delete_ok (w := w1.drew) keyOk Tryz.underlying102 (Hs1.out.map.upd ((Upd.refl None _).drew) (fun h => h)) k 3 0
    unfold keyV at r2
    have hnb : w.heap.size ≠ bm := fun e => by
      obtain ⟨es, cl, q1, _⟩ := Hs1.out.map
      rw [← e, hbox] at q1; cases q1
    have u2' : Upd (One bm) w1 w2 := (Upd.refl _ _).drew.trans u2
    have e2 := u2'.cell' c2 hne
    have eb := u2'.cell' cb hnb
    go_region_held3 (fun w' => w'.cell? ⟨r, 2, none⟩ = some (.map (some bm)) ∧ w'.cell? ⟨w.heap.size, 0, none⟩ = some (.int .i64 k))
      (first | go_keep)
      ((fail))
    clear c0 c1 c2 cb e2 eb r2 s2 d2
    have hroot2 := u2'.heap Hs1.out.root hne
    have hbox2 := u2'.heap hbox hnb
    have c1 := cell_of_heap (o := 1) hroot2
    have f1 := fun o => frozen_of_heap (o := o) hroot2
    have l2 := lt_of_heap hroot2
    simp only [List.getElem?_toArray, List.getElem?_cons_zero, List.getElem?_cons_succ] at c1
    have hmf := makeFunc_run
    have hn0 : s.l ≠ [] := fun e => by rw [e] at hf; cases hf
    obtain ⟨hlen, hrow⟩ := ownsRow_upd' Hs1.out.row u2' (fun j hj e => (hnk j hj).2 e)
    rcases hrow with ⟨_, h0⟩ | ⟨g, cap, cur, rfl, _, hg, hnc, hmax, hcs, hcur⟩
    · exact absurd (List.eq_nil_of_length_eq_zero h0) hn0
    have hgr := hnk g rfl
    have hgb : w.heap.size ≠ g := fun e => by have := H.out.lt g (sk g rfl); omega
    obtain ⟨d, hd⟩ : ∃ d : Array Int, d = (s.l.map (·.1)).toArray := ⟨_, rfl⟩
    have hds : d.size = s.l.length := by rw [hd]; simp
    have hH : Go.Sort.Holds (Value.int .i64) w2 g 0 d := fun j hj => by
      rw [hds] at hj
      refine ⟨?_, frozen_of_heap hg⟩
      rw [Nat.zero_add, cell_of_heap hg]
      have : cur[j]? = (keysV s.l)[j]? := by
        rw [← hcur, List.getElem?_take, if_pos (by omega), Array.getElem?_toList]
      rw [this]
      simp only [keysV, keyV, List.getElem?_map, List.getElem?_eq_getElem hj, Option.map_some, hd]
      rw [getElem!_pos _ j (by simpa using hj)]
      simp
    have cbx := cell_of_heap (o := 0) hbox2
    simp only [List.getElem?_toArray, List.getElem?_cons_zero] at cbx
    have hcon := Sh.slices_DeleteFunc (Value.int .i64) (fun _ => rfl) (fun x => x == k) 98 #[.pointer (some ⟨w.heap.size, 0, none⟩)] enters_drop1 0 Tryz.zeroValue3 g 0 cap d w2
      (drop1_pred k w.heap.size w2 (lt_of_heap hbox2) cbx) (drop1_over k w.heap.size g 0 d.size w2 (lt_of_heap hbox2) hgb cbx) hH (by have := Hs1.out.room; omega) (by omega)
    rw [hds] at hcon
    go_wp2_with fail
    refine hcon.mono ?_
    rintro e w3 ⟨rfl, q, hw3⟩
    have hkeys : d.toList.filter (fun x => !(x == k)) = (dropL k s.l).map (·.1) := by
      rw [dropL_keys k s.l Hs1.out.nodup, hd]
    rw [hkeys] at hw3 ⊢
    have u3 : Upd (One g) w2 w3 := by rw [hw3]; exact putRow_upd _ _ _ _ _
    have hdl : (dropL k s.l).length ≤ s.l.length := by
      unfold dropL; split
      · exact List.length_eraseIdx_le ..
      · exact Nat.le_refl _
    have own3 : w3.ownsRow 0 3 1 (.slice (some ⟨g, 0, none⟩) (dropL k s.l).length cap) (dropL k s.l).length (keysV (dropL k s.l)) := by
      obtain ⟨ks, hks⟩ : ∃ ks : List Int, ks = (dropL k s.l).map (·.1) := ⟨_, rfl⟩
      have hkl : ks.length = (dropL k s.l).length := by rw [hks, List.length_map]
      rw [← hks] at hw3
      have := putRow_owns (Value.int .i64) w2 g q cap ks.length (ks ++ List.replicate (s.l.length - ks.length) 0).toArray hg (by omega) (by simp) (by simp; omega) hmax
      rw [← hw3, List.take_left' (by simp), hkl] at this
      have h2 : ks.map (Value.int .i64) = keysV (dropL k s.l) := by simp [keysV, keyV, hks]
      rwa [h2] at this
    clear hw3 hcon hH hkeys
    have hroot3 := u3.heap hroot2 (fun e => hgr.1 e.symm)
    have f3 := fun o => frozen_of_heap (o := o) hroot3
    have l3 := lt_of_heap hroot3
    have c3 := cell_of_heap (o := 1) hroot3
    simp only [List.getElem?_toArray, List.getElem?_cons_zero, List.getElem?_cons_succ] at c3
    clear c1 f1 l2
    rw [List.length_map]
    go_wp2_with fail
    go_ret
    refine ⟨by rw [Hp.out]; rfl, ?_⟩
    rw [Hp.out]
    have hroot4 := heap_setCell_at (o := 1) hroot3 (.slice (some ⟨g, 0, none⟩) (dropL k s.l).length cap)
    have u4 : Upd (One r) w3 (w3.setCell ⟨r, 1, none⟩ (.slice (some ⟨g, 0, none⟩) (dropL k s.l).length cap)) := (Upd.refl (One r) w3).setCell (fun _ => rfl) _
    refine ⟨S, ⟨bm, .slice (some ⟨g, 0, none⟩) (dropL k s.l).length cap, ⟨by rw [hroot4]; simp, ownsRow_upd' own3 u4 (fun j hj e => by simp [Value.ownBlock] at hj; unfold One at e; omega), (m2.upd u3 (fun e => hgr.2 e.symm)).upd u4 (fun e => hne e.symm), ?_, ?_⟩, sr, sm, sk, ?_⟩, ?_, fun b hb => .inl hb⟩
    · rw [dropL_keys k s.l Hs1.out.nodup]; exact Hs1.out.nodup.filter _
    · have := Hs1.out.room; simp only; omega
    · intro b hb
      have := H.out.lt b hb; have := hbw.size; have := u2'.size; have := u3.size; have := u4.size; omega
    · refine (Upd.of_below hbw).trans' ((u2'.mono (S' := fun b => b = bm ∨ b = g ∨ b = r) fun _ _ e => .inl e).trans ((u3.mono fun _ _ e => .inr (.inl e)).trans (u4.mono fun _ _ e => .inr (.inr e)))) (fun j _ e => ?_)
      rcases e with rfl | rfl | rfl
      · exact sm
      · exact sk _ rfl
      · exact sr
/-! Rows of pairs of ints as a store's entries: what look-up, put and drop come to. -/
def encI (l : List (Int × Int)) : List (Int × Value) := l.map fun p => (p.1, .int .i64 p.2)
/-- What stands for a key. -/
def lk (k : Int) : List (Int × Int) → Option Int
  | [] => none
  | p :: l => if k = p.1 then some p.2 else lk k l
/-- The first key under which a value stands. -/
def wh (v : Int) : List (Int × Int) → Option Int
  | [] => none
  | p :: l => if p.2 = v then some p.1 else wh v l
def setI (k v : Int) : List (Int × Int) → List (Int × Int)
  | [] => [(k, v)]
  | p :: l => if k = p.1 then (k, v) :: l else p :: setI k v l
def dropI (k : Int) : List (Int × Int) → List (Int × Int)
  | [] => []
  | p :: l => if k = p.1 then l else p :: dropI k l
theorem encI_cons (p : Int × Int) (l : List (Int × Int)) : encI (p :: l) = (p.1, .int .i64 p.2) :: encI l := rfl
theorem encI_length (l : List (Int × Int)) : (encI l).length = l.length := List.length_map ..
theorem encI_keys (l : List (Int × Int)) : (encI l).map (·.1) = l.map (·.1) := by simp [encI]
theorem findL_encI (k : Int) : ∀ l : List (Int × Int), (findL k (encI l) 0).map (·.2) = (lk k l).map (Value.int .i64)
  | [] => rfl
  | p :: l => by
    rw [encI_cons]
    unfold findL lk
    by_cases h : k = p.1
    · simp [h]
    · simp only [h, if_false]
      rw [findL_shift, Option.map_map]
      have := findL_encI k l
      rw [← this]
      cases findL k (encI l) 0 <;> rfl
theorem getS_encI (n : Nat) (k : Int) (l : List (Int × Int)) : getS ⟨n, encI l⟩ k = .int .i64 ((lk k l).getD 0) := by
  unfold getS; simp only; rw [findL_encI]
  cases lk k l <;> rfl
theorem hasS_encI (n : Nat) (k : Int) (l : List (Int × Int)) : hasS ⟨n, encI l⟩ k = (lk k l).isSome := by
  unfold hasS; simp only
  have := congrArg Option.isSome (findL_encI k l)
  simpa using this
theorem setL_cons {α : Type} [DecidableEq α] (a : α) (v : Value) (p : α × Value) (l : List (α × Value)) : setL a v (p :: l) = if a = p.1 then (a, v) :: l else p :: setL a v l := by
  unfold setL
  rw [findL]
  by_cases h : a = p.1
  · simp [h]
  · rw [if_neg h, if_neg h, findL_shift]
    cases findL a l 0 with
    | none => rfl
    | some q => rfl
theorem setL_encI (k v : Int) : ∀ l : List (Int × Int), setL k (.int .i64 v) (encI l) = encI (setI k v l)
  | [] => rfl
  | p :: l => by
    rw [encI_cons, setL_cons]
    unfold setI
    by_cases h : k = p.1
    · simp [h, encI]
    · simp [h, setL_encI k v l, encI_cons]
theorem dropL_encI (k : Int) : ∀ l : List (Int × Int), dropL k (encI l) = encI (dropI k l)
  | [] => rfl
  | p :: l => by
    rw [encI_cons, dropL_cons]
    unfold dropI
    by_cases h : k = p.1
    · simp [h]
    · simp [h, dropL_encI k l, encI_cons]
theorem keysV_encI (l : List (Int × Int)) : keysV (encI l) = (l.map (·.1)).map (Value.int .i64) := by simp [keysV, keyV, encI]
theorem putS_encI (n : Nat) (k v : Int) (l : List (Int × Int)) : putS ⟨n, encI l⟩ k (.int .i64 v) = if (lk k l).isSome = false ∧ n ≤ l.length then (⟨n, encI l⟩, 3) else (⟨n, encI (setI k v l)⟩, 0) := by
  unfold putS
  rw [hasS_encI]
  simp only [encI_length, setL_encI]
theorem addSt_encI (n : Nat) (k v : Int) (l : List (Int × Int)) : addSt ⟨n, encI l⟩ k (.int .i64 v) = if (lk k l).isSome = true then (⟨n, encI l⟩, 4) else if n ≤ l.length then (⟨n, encI l⟩, 3) else (⟨n, encI (setI k v l)⟩, 0) := by
  unfold addSt
  rw [hasS_encI, putS_encI]
  cases (lk k l).isSome <;> simp
theorem dropS_encI (n : Nat) (k : Int) (l : List (Int × Int)) : dropS ⟨n, encI l⟩ k = if (lk k l).isSome then (⟨n, encI (dropI k l)⟩, 0) else (⟨n, encI l⟩, 4) := by
  unfold dropS
  rw [hasS_encI]
  simp only [dropL_encI]
/-- Where a value stands among the keys: as IndexFunc asks it. -/
theorem wh_idx (v : Int) (p : Int → Bool) : ∀ (l : List (Int × Int)) (i : Nat), (∀ q ∈ l, p q.1 = decide (q.2 = v)) →
    match wh v l with
    | some k => ∃ j, (l.map (·.1))[j]? = some k ∧ Lib.idxByFrom (fun _ y => p y) default (l.map (·.1)) i = ((i + j : Nat) : Int)
    | none => Lib.idxByFrom (fun _ y => p y) default (l.map (·.1)) i = -1
  | [], i, _ => rfl
  | q :: l, i, h => by
    have hq := h q (List.mem_cons_self ..)
    have ih := wh_idx v p l (i + 1) (fun x hx => h x (List.mem_cons_of_mem _ hx))
    unfold wh
    by_cases he : q.2 = v
    · rw [if_pos he]
      refine ⟨0, rfl, ?_⟩
      simp [Lib.idxByFrom, hq, he]
    · rw [if_neg he]
      have hp : p q.1 = false := by rw [hq]; simp [he]
      cases hw : wh v l with
      | none => rw [hw] at ih; simpa [Lib.idxByFrom, hp] using ih
      | some k =>
        rw [hw] at ih
        obtain ⟨j, h1, h2⟩ := ih
        refine ⟨j + 1, by simpa using h1, ?_⟩
        simp only [List.map_cons, Lib.idxByFrom, hp, Bool.false_eq_true, if_false]
        rw [h2]; congr 1; omega
theorem lk_mem {l : List (Int × Int)} (hn : (l.map (·.1)).Nodup) : ∀ q ∈ l, lk q.1 l = some q.2 := by
  induction l with
  | nil => intro q hq; cases hq
  | cons p l ih =>
    intro q hq
    rw [List.map_cons, List.nodup_cons] at hn
    unfold lk
    rcases List.mem_cons.1 hq with rfl | hq
    · simp
    · have : q.1 ≠ p.1 := fun e => hn.1 (e ▸ List.mem_map_of_mem hq)
      rw [if_neg this]; exact ih hn.2 q hq
/-! A store among the things that a law has made; the calls of layer 14. -/
def storeT (r : Nat) (s : St) : Thing where
  P w S := IsStore w r s S
  lt _ _ h := h.lt
  keep _ _ _ _ h u hd := h.keep u hd
theorem Own.storeAt {w0 w : World} {L : List Thing} {i r : Nat} {s : St} (h : Own w0 w L) (hi : L[i]? = some (storeT r s)) : ∃ S, IsStore w r s S := by
  obtain ⟨S, h1, _⟩ := h.at hi; exact ⟨S, h1⟩
theorem Own.sleft {w0 w : World} {L : List Thing} {i r : Nat} {s : St} (h : Own w0 w L) (hi : L[i]? = some (storeT r s)) : ∃ S, IsStore w r s S ∧ ∀ s' w', SLeft w r S s' w' → Own w0 w' (L.set i (storeT r s')) := by
  obtain ⟨S, hp, hk⟩ := h.upd hi
  exact ⟨S, hp, fun s' w' ⟨S', h1, h2, h3⟩ => hk w' (storeT r s') S' h2 h1 h3⟩
theorem sNew_own {w0 w : World} {L : List Thing} (h : Own w0 w L) (n : Int) (hn : n ≤ 65536) : Calls Tryz.prog 69 #[.int .i64 n] w fun e w' => ∃ r, e = .returned (.pointer (some ⟨r, 0, none⟩)) ∧ Own w0 w' (storeT r (newS n) :: L) :=
  (sNew_calls n w hn).mono fun _ _ ⟨r, _, he, hr, hb, hs⟩ => ⟨r, he, h.new hb (Q := storeT r (newS n)) hr hs⟩
theorem sGet_own {w0 w : World} {L : List Thing} {r : Nat} {s : St} (h : Own w0 w L) (i : Nat) (hi : L[i]? = some (storeT r s)) (k : Int) :
    Calls Tryz.prog 49 #[.pointer (some ⟨r, 0, none⟩), .int .i64 k] w fun e w' => e = .returned (.tuple #[getS s k, .bool (hasS s k)]) ∧ w = w' := by
  obtain ⟨S, hs⟩ := h.storeAt hi
  exact sGet_calls hs k
theorem sAdd_own {w0 w : World} {L : List Thing} {r : Nat} {s : St} (h : Own w0 w L) (i : Nat) (hi : L[i]? = some (storeT r s)) (k : Int) (v : Value) :
    Calls Tryz.prog 70 #[.pointer (some ⟨r, 0, none⟩), .int .i64 k, v] w fun e w' => e = .returned (.int .i64 (addSt s k v).2) ∧ Own w0 w' (L.set i (storeT r (addSt s k v).1)) := by
  obtain ⟨S, hs, hk⟩ := h.sleft hi
  exact (sAdd_calls hs k v).mono fun _ _ h2 => ⟨h2.1, hk _ _ h2.2⟩
theorem sPut_own {w0 w : World} {L : List Thing} {r : Nat} {s : St} (h : Own w0 w L) (i : Nat) (hi : L[i]? = some (storeT r s)) (k : Int) (v : Value) :
    Calls Tryz.prog 75 #[.pointer (some ⟨r, 0, none⟩), .int .i64 k, v] w fun e w' => e = .returned (.int .i64 (putS s k v).2) ∧ Own w0 w' (L.set i (storeT r (putS s k v).1)) := by
  obtain ⟨S, hs, hk⟩ := h.sleft hi
  exact (sPut_calls hs k v).mono fun _ _ h2 => ⟨h2.1, hk _ _ h2.2⟩
theorem sDrop_own {w0 w : World} {L : List Thing} {r : Nat} {s : St} (h : Own w0 w L) (i : Nat) (hi : L[i]? = some (storeT r s)) (k : Int) :
    Calls Tryz.prog 74 #[.pointer (some ⟨r, 0, none⟩), .int .i64 k] w fun e w' => e = .returned (.int .i64 (dropS s k).2) ∧ Own w0 w' (L.set i (storeT r (dropS s k).1)) := by
  obtain ⟨S, hs, hk⟩ := h.sleft hi
  exact (sDrop_calls hs k).mono fun _ _ h2 => ⟨h2.1, hk _ _ h2.2⟩

def SKeysPost (s : St) (w : World) (e : Ending) (w' : World) : Prop := ∃ v, e = .returned v ∧ w'.ownsRow w.heap.size 3 1 v s.l.length (keysV s.l) ∧ Below w.heap.size w w'
theorem clone_calls {w : World} {v : Value} {ks : List Int} (h : w.ownsRow 0 3 1 v ks.length (ks.map (Value.int .i64))) (hm : ks.length ≤ 65536) :
    Calls Tryz.prog 96 #[v] w fun e w' => ∃ v', e = .returned v' ∧ w'.ownsRow w.heap.size 3 1 v' ks.length (ks.map (Value.int .i64)) ∧ Below w.heap.size w w' := by
  rcases h.2 with ⟨rfl, h0⟩ | ⟨g, cap, cur, rfl, _, hg, hnc, hmax, hcs, hcur⟩
  · refine (Sh.slices_Clone_int_nil 0 0 w).mono fun e w' ⟨he, hw⟩ => ⟨_, he, ?_, hw ▸ Below.refl _ _⟩
    rw [h0, List.eq_nil_of_length_eq_zero h0]; exact World.ownsRow_nil _ _ _ _
  · by_cases h0 : ks.length = 0
    · rw [h0, List.eq_nil_of_length_eq_zero h0]
      exact (Sh.slices_Clone_int_zero ⟨g, 0, none⟩ cap w).mono fun e w' ⟨v', he, hr, _, hb⟩ => ⟨v', he, hr, hb⟩
    · refine (Sh.slices_Clone_int g 0 ks.length cap ks w (Nat.le_refl _) (by omega) (fun j hj => ?_)).mono fun e w' ⟨v', he, hr, _, hb⟩ => ⟨v', he, by rwa [List.take_length] at hr, hb⟩
      rw [Nat.zero_add, cell_of_heap hg]
      have : cur[j]? = (ks.map (Value.int .i64))[j]? := by
        rw [← hcur, List.getElem?_take, if_pos (by omega), Array.getElem?_toList]
      rw [this]
      simp [List.getD, hj]
set_option maxHeartbeats 800000 in
theorem sKeys_calls {S : Nat → Prop} {r : Nat} {s : St} {w : World} (h : IsStore w r s S) :
    Calls Tryz.prog 71 #[.pointer (some ⟨r, 0, none⟩)] w (SKeysPost s w) := by
  obtain ⟨bm, kv, hs, -⟩ := h
  obtain ⟨c0, c1, c2⟩ := hs.cells
  have hk : keysV s.l = (s.l.map (·.1)).map (Value.int .i64) := by simp [keysV, keyV]
  have hl : (s.l.map (·.1)).length = s.l.length := List.length_map ..
  have hc := clone_calls (w := w) (v := kv) (ks := s.l.map (·.1)) (by rw [hl, ← hk]; exact hs.row) (by rw [hl]; have := hs.room; omega)
  rw [hl, ← hk] at hc
  have Hc := Lib.hid hc
  clear hs hk hl hc
  go_enter Tryz.func71, Tryz.ntmps71
  go_wp2_with fail
  refine Hc.out.mono ?_
  rintro e w1 ⟨v, rfl, h1, h2⟩
  go_wp2_with fail
  go_ret
  exact ⟨v, rfl, h1, h2⟩
theorem sKeys_own {w0 w : World} {L : List Thing} {r : Nat} {s : St} (h : Own w0 w L) (i : Nat) (hi : L[i]? = some (storeT r s)) :
    Calls Tryz.prog 71 #[.pointer (some ⟨r, 0, none⟩)] w fun e w' => ∃ v, e = .returned v ∧ Own w0 w' (rowT 3 1 v s.l.length (keysV s.l) :: L) := by
  obtain ⟨S, hs⟩ := h.storeAt hi
  exact (sKeys_calls hs).mono fun _ _ ⟨v, he, hr, hb⟩ => ⟨v, he, h.newRow hb hr⟩
end Go.Proofs.YtfelbecofbdeaaaGreatDoor
