/- Stores of layer 14 (keys are ints): how one lies in memory, and what its calls do. -/
import Derived.Test.YtlpcjngclgncmaaMaps
import Derived.Test.YtlpcjngclgncmaaOpen
import Derived.Lib.Hide
import Derived.Deep.QuietTactic
import Derived.BigQuiet
import Derived.Deep.RegionHeld3
import Derived.Deep.AppendLies
import Derived.Laws.AppendOwnNone
namespace Go.Proofs.Ytlpcjngclgncmaa
open Go.RowKit

structure St where
  limit : Nat
  l : List (Int × Value)
def sZero : Value := .int .i64 0
def keyV (n : Int) : Value := .int .i64 n
def keysV (l : List (Int × Value)) : List Value := l.map fun p => keyV p.1
theorem keysV_length (l : List (Int × Value)) : (keysV l).length = l.length := List.length_map ..

structure StoreAt (w : World) (r bm : Nat) (kv : Value) (s : St) : Prop where
  root : w.heap[r]? = some (.cells #[.int .i64 s.limit, kv, .map (some bm)] 56 (0, 0))
  row : w.ownsRow 0 3 1 kv s.l.length (keysV s.l)
  map : MapIs keyV w bm s.l
  nodup : (s.l.map (·.1)).Nodup
  room : s.l.length ≤ s.limit ∧ s.limit ≤ 65536
def IsStore (w : World) (r : Nat) (s : St) (S : Nat → Prop) : Prop :=
  ∃ bm kv, StoreAt w r bm kv s ∧ S r ∧ S bm ∧ (∀ k, kv.ownBlock = some k → S k) ∧ ∀ b, S b → b < w.heap.size
theorem StoreAt.keep {S : Nat → Prop} {w w' : World} {r bm : Nat} {kv : Value} {s : St} (h : StoreAt w r bm kv s) (u : Upd S w w') (h1 : ¬ S r) (h2 : ¬ S bm) (h3 : ∀ k, kv.ownBlock = some k → ¬ S k) : StoreAt w' r bm kv s :=
  ⟨u.heap h.root h1, ownsRow_upd' h.row u h3, h.map.upd u h2, h.nodup, h.room⟩
theorem IsStore.keep {S T : Nat → Prop} {w w' : World} {r : Nat} {s : St} (h : IsStore w r s S) (u : Upd T w w') (hd : ∀ b, S b → ¬ T b) : IsStore w' r s S := by
  obtain ⟨bm, kv, h, h1, h2, h3, h4⟩ := h
  exact ⟨bm, kv, h.keep u (hd _ h1) (hd _ h2) (fun k hk => hd _ (h3 k hk)), h1, h2, h3, fun b hb => Nat.lt_of_lt_of_le (h4 b hb) u.size⟩
theorem IsStore.below {S : Nat → Prop} {w w' : World} {r : Nat} {s : St} (h : IsStore w r s S) (u : Below w.heap.size w w') : IsStore w' r s S :=
  h.keep (Upd.of_below (S := None) u) (fun _ _ h => h)
theorem IsStore.lt {S : Nat → Prop} {w : World} {r : Nat} {s : St} (h : IsStore w r s S) : ∀ b, S b → b < w.heap.size := by
  obtain ⟨bm, kv, h, h1, h2, h3, h4⟩ := h; exact h4
theorem StoreAt.cells {w : World} {r bm : Nat} {kv : Value} {s : St} (h : StoreAt w r bm kv s) : w.cell? ⟨r, 0, none⟩ = some (.int .i64 s.limit) ∧ w.cell? ⟨r, 1, none⟩ = some kv ∧ w.cell? ⟨r, 2, none⟩ = some (.map (some bm)) :=
  ⟨cell_of_heap h.root, cell_of_heap h.root, cell_of_heap h.root⟩
theorem StoreAt.ne {w : World} {r bm : Nat} {kv : Value} {s : St} (h : StoreAt w r bm kv s) : r ≠ bm ∧ (∀ k, kv.ownBlock = some k → k ≠ r ∧ k ≠ bm) := by
  refine ⟨fun e => ?_, fun k hk => ⟨fun e => ?_, fun e => ?_⟩⟩
  · obtain ⟨es, cl, h1, _⟩ := h.map
    have := h.root; rw [e, h1] at this; cases this
  · rcases h.row.2 with ⟨h2, _⟩ | ⟨g, cp, cur, h2, _, h3, _⟩
    · rw [h2] at hk; cases hk
    · rw [h2] at hk; simp [Value.ownBlock] at hk; subst hk
      rw [e, h.root] at h3; simp at h3
  · obtain ⟨es, cl, h1, _⟩ := h.map
    rcases h.row.2 with ⟨h2, _⟩ | ⟨g, cp, cur, h2, _, h3, _⟩
    · rw [h2] at hk; cases hk
    · rw [h2] at hk; simp [Value.ownBlock] at hk; subst hk
      rw [e, h1] at h3; cases h3

theorem row_form {w : World} {base : Nat} {e : TypeId} {v : Value} {n : Nat} {xs : List Value} {size : Nat} (h : w.ownsRow base e size v n xs) : ∃ A cap, v = .slice A n cap := by
  rcases h.2 with ⟨h2, h3⟩ | ⟨g, cp, cur, h2, _⟩
  · exact ⟨none, 0, by rw [h2, h3]⟩
  · exact ⟨_, _, h2⟩
/-- What Get tells. -/
def getS (s : St) (k : Int) : Value := ((findL k s.l 0).map (·.2)).getD sZero
def hasS (s : St) (k : Int) : Bool := (findL k s.l 0).isSome
theorem einfo_int : (Try.prog.info? 3).map (fun i => (i.zero, i.size, i.bytes)) = some (some (.int .i64 0), 1, 8) := by kernel_rfl
theorem keyOk : KeyOk Try.prog 3 keyV := keyOk_int Try.underlying3

set_option maxHeartbeats 800000 in
theorem sGet_calls {S : Nat → Prop} {r : Nat} {s : St} {w : World} (h : IsStore w r s S) (k : Int) :
    Calls Try.prog 23 #[.pointer (some ⟨r, 0, none⟩), .int .i64 k] w fun e w' => e = .returned (.tuple #[getS s k, .bool (hasS s k)]) ∧ w = w' := by
  obtain ⟨bm, kv, hs, -⟩ := h
  obtain ⟨c0, c1, c2⟩ := hs.cells
  obtain ⟨iE, hE, hz, -, -⟩ := info_parts (show (Try.prog.info? 3).map (fun i => (i.zero, i.size, i.bytes)) = some (some sZero, 1, 8) by kernel_rfl)
  have hlk := lookup_ok keyOk Try.underlying54 hE hz hs.map k
  unfold keyV at hlk
  clear hE hz hs
  have hg : getS s k = ((findL k s.l 0).map (·.2)).getD sZero := rfl
  have hh : hasS s k = (findL k s.l 0).isSome := rfl
  rw [hg, hh]
  generalize ((findL k s.l 0).map (·.2)).getD sZero = v at *
  generalize (findL k s.l 0).isSome = b at *
  clear hg hh
  go_enter Try.func23, Try.ntmps23
  go_wp2_with fail
  go_ret2
  exact ⟨rfl, rfl⟩

/-- What a call that changes a store leaves. -/
def SLeft (w : World) (r : Nat) (S : Nat → Prop) (s' : St) (w' : World) : Prop := ∃ S', IsStore w' r s' S' ∧ Upd S w w' ∧ ∀ b, S' b → S b ∨ w.heap.size ≤ b
theorem SLeft.refl {w : World} {r : Nat} {S : Nat → Prop} {s : St} (h : IsStore w r s S) : SLeft w r S s w := ⟨S, h, Upd.refl _ _, fun _ hb => .inl hb⟩
theorem SLeft.of_below {w w' : World} {r : Nat} {S : Nat → Prop} {s : St} (h : IsStore w r s S) (u : Below w.heap.size w w') : SLeft w r S s w' := ⟨S, h.below u, Upd.of_below u, fun _ hb => .inl hb⟩
def newS (n : Int) : St := ⟨(max n 0).toNat, []⟩
def SNewPost (n : Int) (w : World) (e : Ending) (w' : World) : Prop :=
  ∃ r S, e = .returned (.pointer (some ⟨r, 0, none⟩)) ∧ IsStore w' r (newS n) S ∧ Below w.heap.size w w' ∧ ∀ b, S b → w.heap.size ≤ b
set_option maxHeartbeats 800000 in
theorem sNew_calls (n : Int) (w : World) (hn : n ≤ 65536) : Calls Try.prog 14 #[.int .i64 n] w (SNewPost n w) := by
  have hmap := @run_makeMap Try.prog
  have Hn := Lib.hid hn
  clear hn
  go_enter Try.func14, Try.ntmps14
  go_wp2_with fail
  go_ret
  refine ⟨w.heap.size + 1, fun b => b = w.heap.size ∨ b = w.heap.size + 1, rfl, ⟨w.heap.size, .slice none 0 0, ⟨?_, World.ownsRow_nil _ _ _ _, ⟨#[], 0, (two_new w _ _).1, rfl⟩, by simp [newS], by have := Hn.out; simp [newS]; omega⟩, .inr rfl, .inl rfl, fun k hk => by simp [Value.ownBlock] at hk, fun b hb => by simp; omega⟩, below2 _ _ _, fun b hb => by omega⟩
  have := (two_new w (.map #[] 0) (.cells #[.int .i64 (max n 0), .slice none 0 0, .map (some w.heap.size)] 56)).2
  rw [this]
  simp [newS]
/-- Put: the store behind it, the error. -/
def putS (s : St) (k : Int) (v : Value) : St × Int := if hasS s k = false ∧ s.limit ≤ s.l.length then (s, 3) else (⟨s.limit, setL k v s.l⟩, 0)
def SPutPost (s : St) (k : Int) (v : Value) (S : Nat → Prop) (r : Nat) (w : World) (e : Ending) (w' : World) : Prop :=
  e = .returned (.int .i64 (putS s k v).2) ∧ SLeft w r S (putS s k v).1 w'
theorem findL_at {α : Type} [DecidableEq α] (a : α) (l : List (α × Value)) {i : Nat} {v : Value} (h : findL a l 0 = some (i, v)) : l[i]? = some (a, v) := by
  have := (findL_spec a l 0 i v h).2; simpa using this
theorem setL_keys {α : Type} [DecidableEq α] (a : α) (v : Value) (l : List (α × Value)) (h : (findL a l 0).isSome = true) : (setL a v l).map (·.1) = l.map (·.1) ∧ (setL a v l).length = l.length := by
  unfold setL
  cases hf : findL a l 0 with
  | none => rw [hf] at h; cases h
  | some p =>
    obtain ⟨i, u⟩ := p
    have hi := findL_at a l hf
    refine ⟨?_, by simp⟩
    apply List.ext_getElem?
    intro j
    simp only [List.getElem?_map, List.getElem?_set]
    by_cases hij : i = j
    · subst hij
      have hl := (List.getElem?_eq_some_iff.1 hi).1
      simp [hl]
      rw [List.getElem?_eq_some_iff] at hi
      simp [hi.2]
    · simp [hij]
theorem keysV_of_map {l l' : List (Int × Value)} (h : l'.map (·.1) = l.map (·.1)) : keysV l' = keysV l := by
  have : ∀ l : List (Int × Value), keysV l = (l.map (·.1)).map keyV := fun l => by simp [keysV]
  rw [this, this, h]
theorem store_upd {S : Nat → Prop} {w w1 w5 : World} {r bm : Nat} {kv : Value} {s : St} {l' : List (Int × Value)} (H : IsStore w r s S) (hs : StoreAt w r bm kv s) (sr : S r) (sm : S bm) (sk : ∀ k, kv.ownBlock = some k → S k)
    (uq : Upd S w w1) (u5 : Upd (One bm) w1 w5) (m5 : MapIs keyV w5 bm l') (hset : l'.map (·.1) = s.l.map (·.1) ∧ l'.length = s.l.length) (hh : w1.heap = w.heap := by rfl) : SLeft w r S ⟨s.limit, l'⟩ w5 := by
  obtain ⟨hne, hnk⟩ := hs.ne
  have u1 : Upd None w w1 := ⟨uq.os, uq.tape, uq.output, uq.size, fun k _ _ => by rw [hh]⟩
  have hs1 := hs.keep u1 (fun h => h) (fun h => h) (fun _ _ h => h)
  refine ⟨S, ⟨bm, kv, ⟨u5.heap hs1.root hne, ?_, m5, by rw [hset.1]; exact hs.nodup, by simp only [hset.2]; exact hs.room⟩, sr, sm, sk, fun b hb => ?_⟩, ?_, fun b hb => .inl hb⟩
  · have := ownsRow_upd' hs1.row u5 (fun k hk e => (hnk k hk).2 e)
    simp only
    rw [hset.2, keysV_of_map hset.1]; exact this
  · have := H.lt b hb; have := uq.size; have := u5.size; omega
  · exact uq.trans' u5 (fun k _ e => by unfold One at e; subst e; exact sm)
theorem put_end {S : Nat → Prop} {w w1 w5 w6 : World} {r bm g cp : Nat} {kv : Value} {s : St} {k : Int} {v : Value} (H : IsStore w r s S) (hb1 : Below w.heap.size w w1) (hs : StoreAt w1 r bm kv s) (sr : S r) (sm : S bm) (sk : ∀ k, kv.ownBlock = some k → S k)
    (hg6 : (w1.alloc (.cells #[.int .i64 k] 3)).grownBy w6 kv.ownBlock) (hown6 : w6.ownsRow 0 3 1 (.slice (some ⟨g, 0, none⟩) (s.l.length + 1) cp) (s.l.length + 1) (keysV s.l ++ [.int .i64 k]))
    (hat6 : kv.ownBlock = some g ∨ g = w1.heap.size + 1) (hlt6 : g < w6.heap.size)
    (u5 : Upd (One bm) (w6.setCell ⟨r, 1, none⟩ (.slice (some ⟨g, 0, none⟩) (s.l.length + 1) cp)) w5) (m5 : MapIs keyV w5 bm (s.l ++ [(k, v)])) (hn : findL k s.l 0 = none) (hroom : s.l.length + 1 ≤ s.limit) :
    SLeft w r S ⟨s.limit, s.l ++ [(k, v)]⟩ w5 := by
  obtain ⟨hne, hnk⟩ := hs.ne
  have hlr := H.lt r sr
  have hlm := H.lt bm sm
  have hs1 := hb1.size
  have hs6 := hg6.size
  simp only [World.size_alloc] at hs6
  have hs7 : (w6.setCell ⟨r, 1, none⟩ (.slice (some ⟨g, 0, none⟩) (s.l.length + 1) cp)).heap.size = w6.heap.size := by simp [World.setCell]
  have hs5 := u5.size
  have hgr : g ≠ r ∧ g ≠ bm := by
    rcases hat6 with h | h
    · exact hnk g h
    · omega
  have hroot6 : w6.heap[r]? = some (.cells #[.int .i64 s.limit, kv, .map (some bm)] 56 (0, 0)) :=
    (hg6.block r (by simp; omega) (fun e => (hnk r e.symm).1 rfl)).trans (old_at hs.root)
  have hroot7 := heap_setCell_at (o := 1) hroot6 (.slice (some ⟨g, 0, none⟩) (s.l.length + 1) cp)
  have hrow7 := ownsRow_upd' (S := One r) (w' := w6.setCell ⟨r, 1, none⟩ (.slice (some ⟨g, 0, none⟩) (s.l.length + 1) cp)) hown6 ⟨rfl, rfl, rfl, by rw [hs7]; exact Nat.le_refl _, fun k _ hk => Below.heap_setCell _ _ _ _ hk⟩ (fun k hk e => by simp [Value.ownBlock] at hk; unfold One at e; omega)
  have hrow5 := ownsRow_upd' hrow7 u5 (fun k hk e => by simp [Value.ownBlock] at hk; unfold One at e; omega)
  refine ⟨fun b => S b ∨ b = g, ⟨bm, .slice (some ⟨g, 0, none⟩) (s.l.length + 1) cp, ⟨?_, ?_, m5, ?_, ?_⟩, .inl sr, .inl sm, fun k hk => by simp [Value.ownBlock] at hk; exact .inr hk.symm, ?_⟩, ⟨?_, ?_, ?_, by omega, ?_⟩, ?_⟩
  · have := u5.heap hroot7 hne
    simpa using this
  · simpa [keysV, keyV] using hrow5
  · rw [List.map_append]
    refine List.nodup_append.2 ⟨hs.nodup, by simp, ?_⟩
    intro x hx y hy
    have hy' : y = k := by simpa using hy
    rw [hy']
    obtain ⟨p, hp, rfl⟩ := List.mem_map.1 hx
    exact (findL_none k s.l 0).1 hn p hp
  · have := hs.room; simp; omega
  · intro b hb
    rcases hb with hb | rfl
    · have := H.lt b hb; omega
    · omega
  · exact u5.os.trans (hg6.os.trans hb1.os)
  · exact u5.tape.trans (hg6.tape.trans hb1.tape)
  · exact u5.output.trans (hg6.output.trans hb1.output)
  · intro j hj hS
    have k1 : j ≠ r := fun e => hS (e ▸ sr)
    have k2 : j ≠ bm := fun e => hS (e ▸ sm)
    rw [u5.block j (by omega) k2, Below.heap_setCell _ _ _ _ (by show j ≠ r; exact k1), hg6.block j (by simp; omega) (fun e => hS (sk j e.symm)), heap_alloc_get, if_neg (by omega)]
    exact hb1.block j hj
  · intro b hb
    rcases hb with hb | rfl
    · exact .inl hb
    · rcases hat6 with h | h
      · exact .inl (sk _ h)
      · right; omega
set_option maxHeartbeats 3200000 in
set_option maxRecDepth 100000 in
theorem sPut_calls {S : Nat → Prop} {r : Nat} {s : St} {w : World} (h : IsStore w r s S) (k : Int) (v : Value) :
    Calls Try.prog 26 #[.pointer (some ⟨r, 0, none⟩), .int .i64 k, v] w (SPutPost s k v S r w) := by
  have H := Lib.hid h
  obtain ⟨bm, kv, hs, sr, sm, sk, slt⟩ := h
  obtain ⟨c0, c1, c2⟩ := hs.cells
  obtain ⟨hne, hnk⟩ := hs.ne
  obtain ⟨iE, hE, hz, -, -⟩ := info_parts (show (Try.prog.info? 3).map (fun i => (i.zero, i.size, i.bytes)) = some (some sZero, 1, 8) by kernel_rfl)
  have hlk := lookup_ok keyOk Try.underlying54 hE hz hs.map k
  unfold keyV at hlk
  clear hE hz
  have fr := fun o => frozen_of_heap (o := o) hs.root
  have Hs := Lib.hid hs
  clear hs
  cases hf : (findL k s.l 0).isSome with
  | true =>
    have Hp := Lib.hid (show putS s k v = (⟨s.limit, setL k v s.l⟩, 0) by simp [putS, hasS, hf])
    have Hset := Lib.hid (setL_keys k v s.l hf)
    rw [hf] at hlk
    generalize ((findL k s.l 0).map (·.2)).getD sZero = z at *
    go_enter Try.func26, Try.ntmps26
    go_wp2_with fail
    go_quiet (fail)
    have uq : Upd S w (w.drewN nq) := (Upd.refl _ _).drewN _
    obtain ⟨w5, r5, m5, u5, s5, d5⟩ := update_ok (w := w.drewN nq) keyOk Try.underlying54 (Hs.out.map.upd ((Upd.refl None _).drewN _) (fun h => h)) k v
    unfold keyV at r5
    clear s5 d5
    go_wp2_with fail
    go_ret
    exact ⟨by rw [Hp.out]; rfl, by rw [Hp.out]; exact store_upd H.out Hs.out sr sm sk uq u5 m5 Hset.out⟩
  | false =>
    rw [hf] at hlk
    generalize ((findL k s.l 0).map (·.2)).getD sZero = z at *
    have hn : findL k s.l 0 = none := by simpa using hf
    by_cases hfull : s.limit ≤ s.l.length
    · have Hp := Lib.hid (show putS s k v = (s, 3) by simp [putS, hasS, hf, hfull])
      have hd : decide ((s.limit : Int) ≤ (s.l.length : Int)) = true := decide_eq_true (by omega)
      have hd2 : decide (s.limit ≤ s.l.length) = true := decide_eq_true hfull
      obtain ⟨A, cap, rfl⟩ := row_form Hs.out.row
      clear hfull
      go_enter Try.func26, Try.ntmps26
      go_wp2_with fail
      go_quiet (fail)
      go_wp2_with fail
      go_ret
      exact ⟨by rw [Hp.out]; rfl, by rw [Hp.out]; exact SLeft.of_below H.out (Upd.below (S := None) ((Upd.refl _ _).drewN _) (Nat.le_refl _) (fun _ _ h => h))⟩
    · have hroom : s.l.length + 1 ≤ s.limit := by omega
      have Hp := Lib.hid (show putS s k v = (⟨s.limit, s.l ++ [(k, v)]⟩, 0) by simp [putS, hasS, hfull, setL, hn])
      have hd : decide ((s.limit : Int) ≤ (s.l.length : Int)) = false := decide_eq_false (by omega)
      have hd2 : decide (s.limit ≤ s.l.length) = false := decide_eq_false hfull
      obtain ⟨A, cap, rfl⟩ := row_form Hs.out.row
      clear hfull
      go_enter Try.func26, Try.ntmps26
      go_wp2_with fail
      go_quiet (fail)
      obtain ⟨w1, hw1⟩ : ∃ w1 : World, w1 = w.drewN nq := ⟨_, rfl⟩
      rw [← hw1]
      have hb1 : Below w.heap.size w w1 := by rw [hw1]; exact Upd.below (S := None) ((Upd.refl _ _).drewN _) (Nat.le_refl _) (fun _ _ h => h)
      have hh1 : w1.heap = w.heap := by rw [hw1]; rfl
      have Hs1 := Lib.hid (Hs.out.keep (Upd.of_below (S := None) hb1) (fun h => h) (fun h => h) (fun _ _ h => h))
      clear hw1 c0 c1 c2 fr hlk hd hd2
      obtain ⟨c0, c1, c2⟩ := Hs1.out.cells
      have lr := lt_of_heap Hs1.out.root
      have hx0 : (w1.alloc (.cells #[.int .i64 k] 3)).heap.size = w1.heap.size + 1 := by simp
      have hlim := Hs1.out.room
      have Hh1 := Lib.hid hh1
      clear hh1
      go_wp2_with (at_builtin; go_loud (refine wpList_app1L rfl (.tmp 38) (.tmp 40) 29 rfl 3 (.int .i64 0) 8 Try.underlying29 einfo_int rfl _ s.l.length (keysV s.l) rfl Hs1.out.row w1.heap.size (.int .i64 k) rfl rfl rfl (by unfold maxLen; omega) (by omega) ?_))
      intro g cp w6 hown6 hg6 hat6 hlt6
      have hroot6 : w6.heap[r]? = some (.cells #[.int .i64 s.limit, .slice A s.l.length cap, .map (some bm)] 56 (0, 0)) :=
        (hg6.block r (by simp; omega) (fun e => (hnk r e.symm).1 rfl)).trans (old_at Hs1.out.root)
      have fr6 := fun o => frozen_of_heap (o := o) hroot6
      have l6 := lt_of_heap hroot6
      have hroot7 := heap_setCell_at (o := 1) hroot6 (.slice (some ⟨g, 0, none⟩) (s.l.length + 1) cp)
      have c7 := cell_of_heap (o := 2) hroot7
      have l7 := lt_of_heap hroot7
      have hm7 : MapIs keyV (w6.setCell ⟨r, 1, none⟩ (.slice (some ⟨g, 0, none⟩) (s.l.length + 1) cp)) bm s.l := by
        obtain ⟨es, cl, q1, q2⟩ := Hs1.out.map
        refine ⟨es, cl, ?_, q2⟩
        rw [Below.heap_setCell _ _ _ _ (by show bm ≠ r; exact Ne.symm hne)]
        exact (hg6.block bm (by have := lt_of_heap q1; simp; omega) (fun e => (hnk bm e.symm).2 rfl)).trans (old_at q1)
      obtain ⟨w5, r5, m5, u5, s5, d5⟩ := update_ok keyOk Try.underlying54 hm7 k v
      unfold keyV at r5
      clear c0 c1 c2 s5 d5
      have c0 := cell_of_heap (o := 0) hroot6
      have c1 := cell_of_heap (o := 1) hroot6
      have c2 := cell_of_heap (o := 2) hroot6
      go_wp2_with fail
      go_ret
      exact ⟨by rw [Hp.out]; rfl, by rw [Hp.out]; exact put_end H.out hb1 Hs1.out sr sm sk hg6 hown6 hat6 hlt6 u5 (by have := m5; rw [setL, hn] at this; exact this) hn (by omega)⟩
/-- Add: the store behind it, the error. -/
def addS (s : St) (k : Int) (v : Value) : St × Int := if hasS s k then (s, 4) else putS s k v
def SAddPost (s : St) (k : Int) (v : Value) (S : Nat → Prop) (r : Nat) (w : World) (e : Ending) (w' : World) : Prop :=
  e = .returned (.int .i64 (addS s k v).2) ∧ SLeft w r S (addS s k v).1 w'
set_option maxHeartbeats 1600000 in
theorem sAdd_calls {S : Nat → Prop} {r : Nat} {s : St} {w : World} (h : IsStore w r s S) (k : Int) (v : Value) :
    Calls Try.prog 18 #[.pointer (some ⟨r, 0, none⟩), .int .i64 k, v] w (SAddPost s k v S r w) := by
  have H := Lib.hid h
  obtain ⟨bm, kv, hs, -⟩ := h
  obtain ⟨c0, c1, c2⟩ := hs.cells
  obtain ⟨iE, hE, hz, -, -⟩ := info_parts (show (Try.prog.info? 3).map (fun i => (i.zero, i.size, i.bytes)) = some (some sZero, 1, 8) by kernel_rfl)
  have hlk := lookup_ok keyOk Try.underlying54 hE hz hs.map k
  unfold keyV at hlk
  clear hE hz hs
  generalize ((findL k s.l 0).map (·.2)).getD sZero = z at *
  cases hf : (findL k s.l 0).isSome with
  | true =>
    have Hp := Lib.hid (show addS s k v = (s, 4) by simp [addS, hasS, hf])
    rw [hf] at hlk
    go_enter Try.func18, Try.ntmps18
    go_wp2_with fail
    go_ret
    exact ⟨by rw [Hp.out]; rfl, by rw [Hp.out]; exact SLeft.refl H.out⟩
  | false =>
    have Hp := Lib.hid (show addS s k v = putS s k v by simp [addS, hasS, hf])
    rw [hf] at hlk
    go_enter Try.func18, Try.ntmps18
    go_wp2_with fail
    refine (sPut_calls H.out k v).mono ?_
    rintro e w1 ⟨rfl, h1⟩
    go_wp2_with fail
    go_ret
    exact ⟨by rw [Hp.out]; rfl, by rw [Hp.out]; exact h1⟩
end Go.Proofs.Ytlpcjngclgncmaa
