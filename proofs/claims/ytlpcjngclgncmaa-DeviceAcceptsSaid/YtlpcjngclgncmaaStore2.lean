/- Drop of a store. -/
import Derived.Test.YtlpcjngclgncmaaStore
import Derived.Test.YtlpcjngclgncmaaShelf
namespace Go.Proofs.Ytlpcjngclgncmaa
open Go.RowKit

theorem makeFunc_run (fn : Fn) (first cap : Array Value) (w : World) : (Instr.makeFunc fn first cap).run Try.prog w = .ok (.func fn first cap) w := rfl
theorem enters_drop1 : ∀ args w, (callFunc 28 args).run Try.prog w = .ok (.enter 28 args) w := enters_of Try.func28 (by kernel_rfl) rfl
theorem drop1_gives (k x : Int) (B : Nat) (W : World) (hc : W.cell? ⟨B, 0, none⟩ = some (.int .i64 k)) : FnGives Try.prog 28 #[.pointer (some ⟨B, 0, none⟩)] #[.int .i64 x] (.bool (x == k)) W := by
  show Calls Try.prog 28 #[.int .i64 x, .pointer (some ⟨B, 0, none⟩)] W _
  go_enter Try.func28, Try.ntmps28
  go_wp2
  all_goals (go_ret; exact ⟨rfl, 0, rfl⟩)
theorem drop1_pred (k : Int) (B : Nat) (w : World) (hB : B < w.heap.size) (hc : w.cell? ⟨B, 0, none⟩ = some (.int .i64 k)) : PredAt Try.prog 28 #[.pointer (some ⟨B, 0, none⟩)] (Value.int .i64) (fun x => x == k) w :=
  fun W x hb => drop1_gives k x B W ((hb.cell (p := ⟨B, 0, none⟩) hB).trans hc)
open Go.Sort in
theorem drop1_over (k : Int) (B blk off size : Nat) (w : World) (hB : B < w.heap.size) (hne : B ≠ blk) (hc : w.cell? ⟨B, 0, none⟩ = some (.int .i64 k)) : PredOver Try.prog 28 #[.pointer (some ⟨B, 0, none⟩)] (Value.int .i64) (fun x => x == k) blk off size w :=
  fun n os dk x _ => drop1_gives k x B _ (by
    unfold sortWorld
    rw [cell?_grow _ _ _ (by show B < (putRow _ _ _ _ _).heap.size; rw [size_putRow]; exact hB), cell?_putRow_other _ _ blk off _ _ (Or.inl hne)]
    exact hc)
open Go.Sort in
theorem putRow_upd {α : Type} [Inhabited α] (enc : α → Value) (W : World) (g q : Nat) (d : Array α) : Upd (One g) W (putRow enc (Sort.ahead W q) g 0 d) := by
  refine ⟨rfl, rfl, rfl, ?_, fun k _ hk => ?_⟩
  · simp [putRow, mapBlock, Sort.ahead]
  · simp only [putRow, mapBlock, Sort.ahead]
    rw [Array.getElem?_modify, if_neg (fun e => hk e.symm)]
open Go.Sort in
theorem putRow_owns {α : Type} [Inhabited α] (enc : α → Value) (W : World) (g q cap m : Nat) (d : Array α) {cur : Array Value} {e : TypeId} (hg : W.heap[g]? = some (.cells cur e (0, 0))) (hc : cur.size = cap) (hm : m ≤ d.size) (hd : d.size ≤ cap) (hmax : cap ≤ maxLen) :
    (putRow enc (Sort.ahead W q) g 0 d).ownsRow 0 e 1 (.slice (some ⟨g, 0, none⟩) m cap) m ((d.toList.take m).map enc) := by
  refine ⟨by simp; omega, .inr ⟨g, cap, putCells enc 0 d cur, rfl, Nat.zero_le _, ?_, by omega, hmax, by simp [putCells, hc], ?_⟩⟩
  · simp only [putRow, mapBlock, Sort.ahead]
    rw [Array.getElem?_modify, if_pos rfl, hg]
    rfl
  · apply List.ext_getElem?
    intro k
    simp only [Nat.mul_one]
    rw [List.getElem?_take, List.getElem?_map, List.getElem?_take]
    by_cases hk : k < m
    · rw [if_pos hk, if_pos hk, Array.getElem?_toList, Array.getElem?_toList]
      simp only [putCells, Array.getElem?_mapIdx]
      rw [Array.getElem?_eq_getElem (by omega : k < cur.size), Array.getElem?_eq_getElem (by omega : k < d.size)]
      simp only [Option.map_some]
      rw [if_pos ⟨Nat.zero_le _, by omega⟩]
      simp only [Nat.sub_zero]
      rw [getElem!_pos d k (by omega)]
    · rw [if_neg hk, if_neg hk]; rfl
theorem findL_shift {α : Type} [DecidableEq α] (a : α) : ∀ (l : List (α × Value)) (i : Nat), findL a l (i + 1) = (findL a l i).map fun q => (q.1 + 1, q.2)
  | [], i => rfl
  | p :: l, i => by
    unfold findL
    split
    · rfl
    · exact findL_shift a l (i + 1)
theorem dropL_cons {α : Type} [DecidableEq α] (a : α) (p : α × Value) (l : List (α × Value)) : dropL a (p :: l) = if a = p.1 then l else p :: dropL a l := by
  unfold dropL
  rw [findL]
  by_cases h : a = p.1
  · simp [h]
  · rw [if_neg h, if_neg h, findL_shift]
    cases findL a l 0 with
    | none => rfl
    | some q => rfl
theorem dropL_keys {α : Type} [DecidableEq α] (a : α) : ∀ (l : List (α × Value)), (l.map (·.1)).Nodup → (dropL a l).map (·.1) = (l.map (·.1)).filter fun x => !(x == a)
  | [], _ => rfl
  | p :: l, h => by
    rw [List.map_cons, List.nodup_cons] at h
    rw [dropL_cons]
    by_cases he : a = p.1
    · rw [if_pos he]
      have : ∀ x ∈ l.map (·.1), (!(x == a)) = true := fun x hx => by simp; rintro rfl; exact h.1 (he ▸ hx)
      rw [List.map_cons, List.filter_cons, if_neg (by simp [he]), List.filter_eq_self.2 this]
    · rw [if_neg he, List.map_cons, List.map_cons, List.filter_cons, if_pos (by simp; exact fun e => he e.symm), dropL_keys a l h.2]
/-- Drop: the store behind it, the error. -/
def dropS (s : St) (k : Int) : St × Int := if hasS s k then (⟨s.limit, dropL k s.l⟩, 0) else (s, 4)
def SDropPost (s : St) (k : Int) (S : Nat → Prop) (r : Nat) (w : World) (e : Ending) (w' : World) : Prop :=
  e = .returned (.int .i64 (dropS s k).2) ∧ SLeft w r S (dropS s k).1 w'
set_option maxHeartbeats 3200000 in
set_option maxRecDepth 100000 in
theorem sDrop_calls {S : Nat → Prop} {r : Nat} {s : St} {w : World} (h : IsStore w r s S) (k : Int) :
    Calls Try.prog 19 #[.pointer (some ⟨r, 0, none⟩), .int .i64 k] w (SDropPost s k S r w) := by
  have H := Lib.hid h
  have hb1 : Below w.heap.size w (w.alloc (.cells #[.int .i64 k] 3)) := (Below.refl _ _).alloc (Nat.le_refl _) _
  obtain ⟨bm, kv, hs, sr, sm, sk, slt⟩ := h.below hb1
  obtain ⟨c0, c1, c2⟩ := hs.cells
  obtain ⟨hne, hnk⟩ := hs.ne
  obtain ⟨iE, hE, hz, -, -⟩ := info_parts (show (Try.prog.info? 3).map (fun i => (i.zero, i.size, i.bytes)) = some (some sZero, 1, 8) by kernel_rfl)
  have hlk := fun n => lookup_ok (w := (w.alloc (.cells #[.int .i64 k] 3)).drewN n) keyOk Try.underlying54 hE hz (hs.map.upd ((Upd.refl None _).drewN _) (fun h => h)) k
  unfold keyV at hlk
  generalize ((findL k s.l 0).map (·.2)).getD sZero = z at *
  clear hE hz
  have Hs := Lib.hid hs
  clear hs
  cases hf : (findL k s.l 0).isSome with
  | false =>
    have Hp := Lib.hid (show dropS s k = (s, 4) by simp [dropS, hasS, hf])
    rw [hf] at hlk
    go_enter Try.func19, Try.ntmps19
    go_wp2_with fail
    go_quiet (fail)
    go_wp2_with fail
    go_ret
    exact ⟨by rw [Hp.out]; rfl, by rw [Hp.out]; exact SLeft.of_below H.out (hb1.trans (Upd.below (S := None) ((Upd.refl _ _).drewN _) (by simp) (fun _ _ h => h)))⟩
  | true =>
    have Hp := Lib.hid (show dropS s k = (⟨s.limit, dropL k s.l⟩, 0) by simp [dropS, hasS, hf])
    rw [hf] at hlk
    go_enter Try.func19, Try.ntmps19
    go_wp2_with fail
    go_quiet (fail)
    go_wp2_with fail
    obtain ⟨w1, hw1⟩ : ∃ w1 : World, w1 = (w.alloc (.cells #[.int .i64 k] 3)).drewN nq := ⟨_, rfl⟩
    rw [← hw1]
    have hbw : Below w.heap.size w w1 := by rw [hw1]; exact hb1.trans (Upd.below (S := None) ((Upd.refl _ _).drewN _) (by simp) (fun _ _ h => h))
    have Hs1 := Lib.hid (show StoreAt w1 r bm kv s by rw [hw1]; exact Hs.out.keep (S := None) ((Upd.refl _ _).drewN _) (fun h => h) (fun h => h) (fun _ _ h => h))
    have hbox : w1.heap[w.heap.size]? = some (.cells #[.int .i64 k] 3 (0, 0)) := by rw [hw1]; exact new_at rfl
    clear hw1 c0 c1 c2 Hs hlk
    obtain ⟨c0, c1, c2⟩ := Hs1.out.cells
    have fr := fun o => frozen_of_heap (o := o) Hs1.out.root
    have cb := cell_of_heap (o := 0) hbox
    have lb := lt_of_heap hbox
    simp only [List.getElem?_toArray, List.getElem?_cons_zero] at cb
    obtain ⟨w2, r2, m2, u2, s2, d2⟩ := delete_ok (w := w1.drew) keyOk Try.underlying54 (Hs1.out.map.upd ((Upd.refl None _).drew) (fun h => h)) k 3 0
    unfold keyV at r2
    have hnb : w.heap.size ≠ bm := fun e => by
      obtain ⟨es, cl, q1, _⟩ := Hs1.out.map
      rw [← e, hbox] at q1; cases q1
    have u2' : Upd (One bm) w1 w2 := (Upd.refl _ _).drew.trans u2
    have e2 := u2'.cell' c2 hne
    have eb := u2'.cell' cb hnb
    go_region_held3 (fun w' => w'.cell? ⟨r, 2, none⟩ = some (.map (some bm)) ∧ w'.cell? ⟨w.heap.size, 0, none⟩ = some (.int .i64 k))
      (first | go_keep)
      ((fail))
    clear c0 c1 c2 cb e2 eb r2 s2 d2
    have hroot2 := u2'.heap Hs1.out.root hne
    have hbox2 := u2'.heap hbox hnb
    have c1 := cell_of_heap (o := 1) hroot2
    have f1 := fun o => frozen_of_heap (o := o) hroot2
    have l2 := lt_of_heap hroot2
    simp only [List.getElem?_toArray, List.getElem?_cons_zero, List.getElem?_cons_succ] at c1
    have hmf := makeFunc_run
    have hn0 : s.l ≠ [] := fun e => by rw [e] at hf; cases hf
    obtain ⟨hlen, hrow⟩ := ownsRow_upd' Hs1.out.row u2' (fun j hj e => (hnk j hj).2 e)
    rcases hrow with ⟨_, h0⟩ | ⟨g, cap, cur, rfl, _, hg, hnc, hmax, hcs, hcur⟩
    · exact absurd (List.eq_nil_of_length_eq_zero h0) hn0
    have hgr := hnk g rfl
    have hgb : w.heap.size ≠ g := fun e => by have := H.out.lt g (sk g rfl); omega
    obtain ⟨d, hd⟩ : ∃ d : Array Int, d = (s.l.map (·.1)).toArray := ⟨_, rfl⟩
    have hds : d.size = s.l.length := by rw [hd]; simp
    have hH : Go.Sort.Holds (Value.int .i64) w2 g 0 d := fun j hj => by
      rw [hds] at hj
      refine ⟨?_, frozen_of_heap hg⟩
      rw [Nat.zero_add, cell_of_heap hg]
      have : cur[j]? = (keysV s.l)[j]? := by
        rw [← hcur, List.getElem?_take, if_pos (by omega), Array.getElem?_toList]
      rw [this]
      simp only [keysV, keyV, List.getElem?_map, List.getElem?_eq_getElem hj, Option.map_some, hd]
      rw [getElem!_pos _ j (by simpa using hj)]
      simp
    have cbx := cell_of_heap (o := 0) hbox2
    simp only [List.getElem?_toArray, List.getElem?_cons_zero] at cbx
    have hcon := Sh.slices_DeleteFunc (Value.int .i64) (fun _ => rfl) (fun x => x == k) 28 #[.pointer (some ⟨w.heap.size, 0, none⟩)] enters_drop1 0 Try.zeroValue3 g 0 cap d w2
      (drop1_pred k w.heap.size w2 (lt_of_heap hbox2) cbx) (drop1_over k w.heap.size g 0 d.size w2 (lt_of_heap hbox2) hgb cbx) hH (by have := Hs1.out.room; omega) (by omega)
    rw [hds] at hcon
    go_wp2_with fail
    refine hcon.mono ?_
    rintro e w3 ⟨rfl, q, hw3⟩
    have hkeys : d.toList.filter (fun x => !(x == k)) = (dropL k s.l).map (·.1) := by
      rw [dropL_keys k s.l Hs1.out.nodup, hd]
    rw [hkeys] at hw3 ⊢
    have u3 : Upd (One g) w2 w3 := by rw [hw3]; exact putRow_upd _ _ _ _ _
    have hdl : (dropL k s.l).length ≤ s.l.length := by
      unfold dropL; split
      · exact List.length_eraseIdx_le ..
      · exact Nat.le_refl _
    have own3 : w3.ownsRow 0 3 1 (.slice (some ⟨g, 0, none⟩) (dropL k s.l).length cap) (dropL k s.l).length (keysV (dropL k s.l)) := by
      obtain ⟨ks, hks⟩ : ∃ ks : List Int, ks = (dropL k s.l).map (·.1) := ⟨_, rfl⟩
      have hkl : ks.length = (dropL k s.l).length := by rw [hks, List.length_map]
      rw [← hks] at hw3
      have := putRow_owns (Value.int .i64) w2 g q cap ks.length (ks ++ List.replicate (s.l.length - ks.length) 0).toArray hg (by omega) (by simp) (by simp; omega) hmax
      rw [← hw3, List.take_left' (by simp), hkl] at this
      have h2 : ks.map (Value.int .i64) = keysV (dropL k s.l) := by simp [keysV, keyV, hks]
      rwa [h2] at this
    clear hw3 hcon hH hkeys
    have hroot3 := u3.heap hroot2 (fun e => hgr.1 e.symm)
    have f3 := fun o => frozen_of_heap (o := o) hroot3
    have l3 := lt_of_heap hroot3
    have c3 := cell_of_heap (o := 1) hroot3
    simp only [List.getElem?_toArray, List.getElem?_cons_zero, List.getElem?_cons_succ] at c3
    clear c1 f1 l2
    rw [List.length_map]
    go_wp2_with fail
    go_ret
    refine ⟨by rw [Hp.out]; rfl, ?_⟩
    rw [Hp.out]
    have hroot4 := heap_setCell_at (o := 1) hroot3 (.slice (some ⟨g, 0, none⟩) (dropL k s.l).length cap)
    have u4 : Upd (One r) w3 (w3.setCell ⟨r, 1, none⟩ (.slice (some ⟨g, 0, none⟩) (dropL k s.l).length cap)) := (Upd.refl (One r) w3).setCell (fun _ => rfl) _
    refine ⟨S, ⟨bm, .slice (some ⟨g, 0, none⟩) (dropL k s.l).length cap, ⟨by rw [hroot4]; simp, ownsRow_upd' own3 u4 (fun j hj e => by simp [Value.ownBlock] at hj; unfold One at e; omega), (m2.upd u3 (fun e => hgr.2 e.symm)).upd u4 (fun e => hne e.symm), ?_, ?_⟩, sr, sm, sk, ?_⟩, ?_, fun b hb => .inl hb⟩
    · rw [dropL_keys k s.l Hs1.out.nodup]; exact Hs1.out.nodup.filter _
    · have := Hs1.out.room; simp only; omega
    · intro b hb
      have := H.out.lt b hb; have := hbw.size; have := u2'.size; have := u3.size; have := u4.size; omega
    · refine (Upd.of_below hbw).trans' ((u2'.mono (S' := fun b => b = bm ∨ b = g ∨ b = r) fun _ _ e => .inl e).trans ((u3.mono fun _ _ e => .inr (.inl e)).trans (u4.mono fun _ _ e => .inr (.inr e)))) (fun j _ e => ?_)
      rcases e with rfl | rfl | rfl
      · exact sm
      · exact sk _ rfl
      · exact sr
end Go.Proofs.Ytlpcjngclgncmaa
