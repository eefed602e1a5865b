/- A strings.Builder among the things that a law has made: what its calls do. -/
import Derived.Test.YtfelbecofbdeaaaGreatDoorMth
import Derived.Test.YtfelbecofbdeaaaGreatDoorShelf
import Derived.Shelf.Strings.Builder1
import Derived.Lib.Hide
namespace Go.Proofs.YtfelbecofbdeaaaGreatDoor
open Go.RowKit

theorem row_slice {w : World} {base : Nat} {e : TypeId} {v : Value} {n : Nat} {xs : List Value} {size : Nat} (h : w.ownsRow base e size v n xs) : ∃ A cap, v = .slice A n cap := by
  rcases h.2 with ⟨h2, h3⟩ | ⟨g, cp, cur, h2, _⟩
  · exact ⟨none, 0, by rw [h2, h3]⟩
  · exact ⟨_, _, h2⟩
/-- 'append(b, s...)' onto a row of its own: where the new row lies. -/
theorem run_append_str_at {P : Program} (w : World) (t u ty e : TypeId) (i : TypeInfo) (ht : P.underlying t = some (.slice e)) (hu : P.underlying u = some .string) (hi : P.info? e = some i) (hz : i.zero = some (.int .u8 0)) (hsize : i.size = 1) (hby : i.bytes = 1)
    (v : Value) (n : Nat) (xs : List Value) (hown : w.ownsRow 0 e 1 v n xs) (s : ByteArray) (h63 : n + s.size ≤ maxLen) (hbytes : n + s.size ≤ 140737488355328) :
    ∃ v' w', (Builtin.append_ #[t, u] ty #[v, .string s]).run P w = .ok v' w' ∧ w'.ownsRow 0 e 1 v' (n + s.size) (xs ++ Lib.strCells s) ∧ w.grownBy w' v.ownBlock ∧ ∀ k, v'.ownBlock = some k → v.ownBlock = some k ∨ w.heap.size ≤ k := by
  obtain ⟨v', w', h1, h2, h3, h4⟩ := Lib.run_append_own_string w 0 t u ty e i ht hu hi hz hsize hby v n xs hown s h63 hbytes (Nat.zero_le _)
  refine ⟨v', w', h1, h2, h3, fun k hk => ?_⟩
  rcases hown.2 with ⟨rfl, rfl⟩ | ⟨g, cap, cur, rfl, _, hg, hnc, hcm, hcs, htk⟩
  · have hn : xs = [] := List.eq_nil_of_length_eq_zero (by simpa using hown.1)
    subst hn
    obtain ⟨v2, w2, g1, g2, _, _⟩ := Lib.run_append_own_string w w.heap.size t u ty e i ht hu hi hz hsize hby (.slice none 0 0) 0 [] (World.ownsRow_nil _ _ _ _) s h63 hbytes (Nat.le_refl _)
    rw [h1] at g1
    cases g1
    exact .inr (g2.lt k hk).1
  · by_cases hr : n + s.size ≤ cap
    · have := Lib.run_append_room_string w t u ty e i ht hu hi hsize g n cap cur hg s hr (by omega)
      rw [h1] at this
      cases this
      simp only [Value.ownBlock, Option.some.injEq] at hk ⊢
      exact .inl hk
    · have hl : xs.length = n * i.size := by rw [hsize]; exact hown.1
      have := Lib.run_append_grow_string w t u ty e i (.int .u8 0) ht hu hi hz ⟨g, 0, none⟩ n cap xs hl (fun j v hj => hown.cells rfl j v hj) s (by omega) (by unfold maxLen at h63; omega) (growslice_fits (by omega) (by rw [hby]; omega))
      rw [h1] at this
      cases this
      simp only [Value.ownBlock, Option.some.injEq] at hk
      exact .inr (by omega)
theorem own_catStr {P : Program} {w0 w : World} {L : List Thing} (h : Own w0 w L) (t u ty e : TypeId) (ht : P.underlying t = some (.slice e)) (hu : P.underlying u = some .string)
    (hinfo : (P.info? e).map (fun i => (i.zero, i.size, i.bytes)) = some (some (.int .u8 0), 1, 1)) (v : Value) (n : Nat) (xs : List Value) (i : Nat) (hi : L[i]? = some (rowT e 1 v n xs)) (s : ByteArray) (h63 : n + s.size ≤ maxLen) (hbytes : n + s.size ≤ 140737488355328) :
    ∃ v' w', (Builtin.append_ #[t, u] ty #[v, .string s]).run P w = .ok v' w' ∧ Own w0 w' (L.set i (rowT e 1 v' (n + s.size) (xs ++ Lib.strCells s))) := by
  obtain ⟨i0, hi0, hz, hsize, hby⟩ := info_parts hinfo
  obtain ⟨v', w', hr, h2, h3, h5⟩ := run_append_str_at (P := P) w t u ty e i0 ht hu hi0 hz hsize hby v n xs (h.row hi) s h63 hbytes
  refine ⟨v', w', hr, ?_⟩
  obtain ⟨S, hp, hk⟩ := h.upd hi
  exact hk w' _ (fun k => v'.ownBlock = some k) ⟨h3.os, h3.tape, h3.output, h3.size, fun k hkl hnS => h3.block k hkl (fun e => hnS ((hp.2 k).2 e.symm))⟩ ⟨h2, fun _ => Iff.rfl⟩ (fun b hb => (h5 b hb).imp (hp.2 b).2 id)
theorem wpList_ocatStr {P : Program} {w0 w : World} {L : List Thing} {ops : Array Oper} {rest : List Oper} {o : Oper} {a : Act} {Q : Exit → Act → World → Prop} (hO : Own w0 w L) (hgd : o.guard = none) (s x : Operand) (t u : TypeId)
    (ho : o.op = .call { callee := .builtin .append, args := #[s, x], argTypes := #[t, u] })
    (e : TypeId) (ht : P.underlying t = some (.slice e)) (hu : P.underlying u = some .string)
    (hinfo : (P.info? e).map (fun i => (i.zero, i.size, i.bytes)) = some (some (.int .u8 0), 1, 1))
    (v : Value) (n : Nat) (xs : List Value) (hs : a.eval s = v) (i : Nat) (hi : L[i]? = some (rowT e 1 v n xs)) (str : ByteArray) (hx : a.eval x = .string str) (h63 : n + str.size ≤ maxLen) (hbytes : n + str.size ≤ 140737488355328)
    (h : ∀ v' w', Own w0 w' (L.set i (rowT e 1 v' (n + str.size) (xs ++ Lib.strCells str))) → wpList P ops Q rest (a.put o.dst v') w') : wpList P ops Q (o :: rest) a w :=
  wpList_plain hgd fun _ hK => by
    obtain ⟨v', w', hr, h2⟩ := own_catStr (P := P) hO t u o.type e ht hu hinfo v n xs i hi str h63 hbytes
    unfold Oper.wp execOp
    simp only [ho, resolve, invoke, builtin, Sem.run_bind, Sem.run_pure, Result.andThen_ok, List.map_toArray, List.map_cons, List.map_nil, hs, hx, hr]
    exact hK _ _ (h v' w' h2)
theorem binfo : (Tryz.prog.info? 106).map (fun i => i.size) = some 2 := by kernel_rfl
theorem einfo_u8 : (Tryz.prog.info? 5).map (fun i => (i.zero, i.size, i.bytes)) = some (some (.int .u8 0), 1, 1) := by kernel_rfl
set_option maxHeartbeats 1000000 in
set_option maxRecDepth 100000 in
theorem bCheck_used (b : Nat) (w : World) (h0 : w.cell? ⟨b, 0, none⟩ = some (.pointer (some ⟨b, 0, none⟩))) :
    Calls Tryz.prog 84 #[.pointer (some ⟨b, 0, none⟩)] w fun e w' => e = .returned (.tuple #[]) ∧ w' = w := by
  obtain ⟨j, hj, _⟩ := Option.map_eq_some_iff.1 binfo
  go_enter Tryz.func84, Tryz.ntmps84
  go_wp2_with fail
  rw [Lib.run_neq_ptr_same w _ Tryz.underlying103 hj]
  go_wp2_with fail
  go_end0
  exact ⟨rfl, rfl⟩
set_option maxHeartbeats 1000000 in
set_option maxRecDepth 100000 in
theorem bCheck_fresh (b : Nat) (w : World) (h0 : w.cell? ⟨b, 0, none⟩ = some (.pointer none)) (hsh : w.shape? b = some (106, 2)) (hfz : w.frozen? ⟨b, 0, none⟩ = false) :
    Calls Tryz.prog 84 #[.pointer (some ⟨b, 0, none⟩)] w fun e w' => e = .returned (.tuple #[]) ∧ w' = w.setCell ⟨b, 0, none⟩ (.pointer (some ⟨b, 0, none⟩)) := by
  obtain ⟨j, hj, hjs⟩ := Option.map_eq_some_iff.1 binfo
  go_enter Tryz.func84, Tryz.ntmps84
  go_wp2_with fail
  rw [Lib.run_to_unsafe w ⟨b, 0, none⟩ Tryz.underlying103 Tryz.underlying152 hj (by rw [hjs]; decide) hsh (Nat.zero_lt_succ 1)]
  simp only [Result.andThen]
  rw [Oper.upon_value]
  go_wp2_with fail
  rw [run_callFunc_extern Tryz.func109 (by kernel_rfl) (by kernel_rfl) (by kernel_rfl) (e := Extern.AbiNoEscape.same) (by kernel_rfl)]
  rw [Lib.run_noEscape]
  simp only [Result.andThen]
  rw [Oper.upon_value]
  go_wp2_with fail
  rw [Lib.run_from_unsafe w ⟨b, 0, none⟩ Tryz.underlying152 Tryz.underlying103 hj hsh (by kernel_rfl)]
  simp only [Result.andThen]
  rw [Oper.upon_value]
  go_wp2_with fail
  go_end0
  exact ⟨rfl, rfl⟩
def bldObj (p v : Value) : Obj := .cells #[p, v] 106 (0, 0)
theorem bCheck_own {w0 w : World} {L : List Thing} (h : Own w0 w L) (i : Nat) {b : Nat} {p v : Value} (hi : L[i]? = some (blk b (bldObj p v))) (hp : p = .pointer none ∨ p = .pointer (some ⟨b, 0, none⟩)) :
    Calls Tryz.prog 84 #[.pointer (some ⟨b, 0, none⟩)] w fun e w' => e = .returned (.tuple #[]) ∧ Own w0 w' (L.set i (blk b (bldObj (.pointer (some ⟨b, 0, none⟩)) v))) := by
  have hb := h.blk hi
  have hc := cell_of_heap (o := 0) hb
  simp only [List.getElem?_toArray, List.getElem?_cons_zero] at hc
  rcases hp with rfl | rfl
  · refine (bCheck_fresh b w hc (by simp [World.shape?, hb, bldObj]) (frozen_of_heap hb)).mono fun e w' ⟨he, hw⟩ => ⟨he, ?_⟩
    rw [hw]
    exact h.store hi ((Upd.refl (One b) w).setCell (fun _ => rfl) _) (by have := heap_setCell_at (o := 0) hb (.pointer (some ⟨b, 0, none⟩)); simpa [bldObj] using this)
  · refine (bCheck_used b w hc).mono fun e w' ⟨he, hw⟩ => ⟨he, ?_⟩
    rw [hw]
    have : L.set i (blk b (bldObj (.pointer (some ⟨b, 0, none⟩)) v)) = L := by
      apply List.ext_getElem?; intro k
      rw [List.getElem?_set]
      by_cases e : i = k
      · subst e; rw [if_pos rfl, if_pos (idx_lt hi), hi]
      · simp [e]
    rw [this]; exact h
def BWPost (w0 : World) (L : List Thing) (i j b n : Nat) (xs : List Value) (s : ByteArray) (e : Ending) (w' : World) : Prop :=
  ∃ v', e = .returned (.tuple #[.int .i64 s.size, .nilIface]) ∧ Own w0 w' ((L.set j (rowT 5 1 v' (n + s.size) (xs ++ Lib.strCells s))).set i (blk b (bldObj (.pointer (some ⟨b, 0, none⟩)) v')))
set_option maxHeartbeats 1000000 in
set_option maxRecDepth 100000 in
theorem bWrite_own {w0 w : World} {L : List Thing} (h : Own w0 w L) (i j : Nat) (hij : i ≠ j) {b n : Nat} {p v : Value} {xs : List Value} (hi : L[i]? = some (blk b (bldObj p v))) (hj : L[j]? = some (rowT 5 1 v n xs)) (hp : p = .pointer none ∨ p = .pointer (some ⟨b, 0, none⟩)) (s : ByteArray) (hn : n + s.size ≤ 140737488355328) :
    Calls Tryz.prog 56 #[.pointer (some ⟨b, 0, none⟩), .string s] w (BWPost w0 L i j b n xs s) := by
  have HI := Lib.hid hi
  have HJ := Lib.hid hj
  have Hij := Lib.hid hij
  have Hb := Lib.hid (bCheck_own h i hi hp)
  clear h hi hj hp hij
  go_enter Tryz.func56, Tryz.ntmps56
  go_wp2_with fail
  refine Hb.out.mono ?_
  rintro e w1 ⟨rfl, o1⟩
  have hi1 : (L.set i (blk b (bldObj (.pointer (some ⟨b, 0, none⟩)) v)))[i]? = some (blk b (bldObj (.pointer (some ⟨b, 0, none⟩)) v)) := by rw [List.getElem?_set_self (idx_lt HI.out)]
  have hj1 : (L.set i (blk b (bldObj (.pointer (some ⟨b, 0, none⟩)) v)))[j]? = some (rowT 5 1 v n xs) := by rw [List.getElem?_set_ne Hij.out]; exact HJ.out
  have hb1 := o1.blk hi1
  have c0 := cell_of_heap (o := 0) hb1
  have c1 := cell_of_heap (o := 1) hb1
  simp only [List.getElem?_toArray, List.getElem?_cons_zero, List.getElem?_cons_succ] at c0 c1
  have HJ1 := Lib.hid hj1
  have HI1 := Lib.hid hi1
  clear hb1 hi1 hj1
  go_wp2_with (at_builtin; go_loud (refine wpList_ocatStr o1 rfl (.tmp 12) (.tmp 13) 104 9 rfl 5 Tryz.underlying104 Tryz.underlying9 einfo_u8 v n xs rfl j HJ1.out s rfl (by unfold maxLen; omega) hn ?_))
  intro v' w2 o2
  obtain ⟨A2, c2, rfl⟩ := row_slice (o2.row (i := j) (by rw [List.getElem?_set_self (idx_lt HJ1.out)]))
  have hi2 : ((L.set i (blk b (bldObj (.pointer (some ⟨b, 0, none⟩)) v))).set j (rowT 5 1 (.slice A2 (n + s.size) c2) (n + s.size) (xs ++ Lib.strCells s)))[i]? = some (blk b (bldObj (.pointer (some ⟨b, 0, none⟩)) v)) := by rw [List.getElem?_set_ne (Ne.symm Hij.out)]; exact HI1.out
  have hb2 := o2.blk hi2
  have d0 := cell_of_heap (o := 0) hb2
  have d1 := cell_of_heap (o := 1) hb2
  have f2 := fun o => frozen_of_heap (o := o) hb2
  have l2 := lt_of_heap hb2
  simp only [List.getElem?_toArray, List.getElem?_cons_zero, List.getElem?_cons_succ] at d0 d1
  have O2 := Lib.hid o2
  have HI2 := Lib.hid hi2
  have HB2 := Lib.hid hb2
  clear o1 o2 c0 c1 hi2 hb2
  go_wp2_with fail
  go_ret2
  refine ⟨.slice A2 (n + s.size) c2, rfl, ?_⟩
  have := O2.out.store HI2.out (o' := bldObj (.pointer (some ⟨b, 0, none⟩)) (.slice A2 (n + s.size) c2)) ((Upd.refl (One b) w2).setCell (fun _ => rfl) (.slice A2 (n + s.size) c2)) (by have := heap_setCell_at (o := 1) HB2.out (.slice A2 (n + s.size) c2); simpa [bldObj] using this)
  rw [List.set_comm _ _ Hij.out, List.set_set] at this
  exact this
end Go.Proofs.YtfelbecofbdeaaaGreatDoor
