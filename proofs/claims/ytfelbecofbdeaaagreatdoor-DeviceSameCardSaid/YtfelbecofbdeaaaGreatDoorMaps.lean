/- Maps as the list of their entries: what look-up, update and delete do. Any program, any kind of key whose comparison is known. -/
import Derived.Test.YtfelbecofbdeaaaGreatDoorLib
namespace Go.Proofs.YtfelbecofbdeaaaGreatDoor
open Go.RowKit

/-- The first entry with such a key: its place and its value. -/
def findL {α : Type} [DecidableEq α] (a : α) : List (α × Value) → Nat → Option (Nat × Value)
  | [], _ => none
  | p :: l, i => if a = p.1 then some (i, p.2) else findL a l (i + 1)

/-- How keys of a type are compared. -/
structure KeyOk (P : Program) (K : TypeId) {α : Type} [DecidableEq α] (enc : α → Value) : Prop where
  check : ∀ (b : Bool) (a : α) (w : World), (Instr.checkKey b 10000 K (enc a)).run P w = .ok () w
  find : ∀ (a : α) (es : List MapEntry) (l : List (α × Value)) (w : World), es.map (fun e => (e.key, e.val)) = l.map (fun p => (enc p.1, p.2)) → (Instr.findKey K (enc a) es).run P w = .ok (findL a l 0) w
  same : ∀ a, Instr.sameBits 10000 (enc a) (enc a) = true

section
variable {P : Program}
theorem findNow_of {α : Type} [DecidableEq α] {enc : α → Value} {D : TypeDesc} (h : ∀ a b, Instr.sameNow D (enc a) (enc b) = some (decide (a = b))) (a : α) : ∀ (es : List MapEntry) (l : List (α × Value)) (i : Nat), es.map (fun e => (e.key, e.val)) = l.map (fun p => (enc p.1, p.2)) → Instr.findNow D (enc a) es i = some (findL a l i)
  | [], [], i, _ => rfl
  | [], p :: l, i, h' => by simp at h'
  | e :: es, [], i, h' => by simp at h'
  | e :: es, p :: l, i, h' => by
    simp only [List.map_cons, List.cons.injEq, Prod.mk.injEq] at h'
    obtain ⟨⟨hk, hv⟩, hr⟩ := h'
    unfold Instr.findNow findL
    rw [hk, h a p.1]
    by_cases he : a = p.1
    · simp [he, hv]
    · simp [he, findNow_of h a es l (i + 1) hr]

theorem keyOk_int {K : TypeId} {k : IntKind} (hu : P.underlying K = some (.int k)) : KeyOk P K (fun n : Int => Value.int k n) where
  check b a w := by
    have h : ∀ n : Nat, (Instr.checkKey b (n + 1) K (Value.int k a)).run P w = .ok () w := fun n => by simp [Instr.checkKey, run_underlying hu]
    exact h 9999
  find a es l w h := by
    have := findNow_of (D := .int k) (enc := fun n : Int => Value.int k n) (fun a b => by simp [Instr.sameNow]; rfl) a es l 0 h
    simp [Instr.findKey, run_underlying hu, this]
  same a := by simp [Instr.sameBits]
theorem bytes_beq (a b : ByteArray) : (a == b) = decide (a = b) := by
  obtain ⟨a⟩ := a
  obtain ⟨b⟩ := b
  show (a == b) = _
  rw [Bool.eq_iff_iff, decide_eq_true_iff, beq_iff_eq]
  exact ⟨fun h => by rw [h], fun h => by injection h⟩
theorem keyOk_string {K : TypeId} (hu : P.underlying K = some .string) : KeyOk P K Value.string where
  check b a w := by
    have h : ∀ n : Nat, (Instr.checkKey b (n + 1) K (Value.string a)).run P w = .ok () w := fun n => by simp [Instr.checkKey, run_underlying hu]
    exact h 9999
  find a es l w h := by
    have := findNow_of (D := .string) (enc := Value.string) (fun a b => by simp only [Instr.sameNow, bytes_beq]) a es l 0 h
    simp [Instr.findKey, run_underlying hu, this]
  same a := by simp only [Instr.sameBits, bytes_beq]; simp
theorem keyOk_bool {K : TypeId} (hu : P.underlying K = some .bool) : KeyOk P K Value.bool where
  check b a w := by
    have h : ∀ n : Nat, (Instr.checkKey b (n + 1) K (Value.bool a)).run P w = .ok () w := fun n => by simp [Instr.checkKey, run_underlying hu]
    exact h 9999
  find a es l w h := by
    have := findNow_of (D := .bool) (enc := Value.bool) (fun a b => by simp only [Instr.sameNow]; cases a <;> cases b <;> rfl) a es l 0 h
    simp [Instr.findKey, run_underlying hu, this]
  same a := by simp [Instr.sameBits]

theorem findAsking_of {P : Program} {K : TypeId} {α : Type} [DecidableEq α] {enc : α → Value} (h : ∀ a b w, (Op.equal K (enc a) (enc b)).run P w = .ok (decide (a = b)) w) (a : α) (w : World) : ∀ (es : List MapEntry) (l : List (α × Value)) (i : Nat), es.map (fun e => (e.key, e.val)) = l.map (fun p => (enc p.1, p.2)) → (Instr.findAsking K (enc a) es i).run P w = .ok (findL a l i) w
  | [], [], i, _ => rfl
  | [], p :: l, i, h' => by simp at h'
  | e :: es, [], i, h' => by simp at h'
  | e :: es, p :: l, i, h' => by
    simp only [List.map_cons, List.cons.injEq, Prod.mk.injEq] at h'
    obtain ⟨⟨hk, hv⟩, hr⟩ := h'
    unfold Instr.findAsking findL
    simp only [Sem.run_bind, hk, h a p.1, Result.andThen_ok]
    by_cases he : a = p.1
    · simp [he, hv]
    · simp [he, findAsking_of h a w es l (i + 1) hr]
/-- Keys that are structs. -/
theorem keyOk_struct {P : Program} {K : TypeId} {fs : Array Field} (hu : P.underlying K = some (.struct fs)) {α : Type} [DecidableEq α] {enc : α → Value} (hc : ∀ (b : Bool) (a : α) (w : World), (Instr.checkKey b 10000 K (enc a)).run P w = .ok () w)
    (h : ∀ a b w, (Op.equal K (enc a) (enc b)).run P w = .ok (decide (a = b)) w) (hs : ∀ a, Instr.sameBits 10000 (enc a) (enc a) = true) : KeyOk P K enc where
  check := hc
  find a es l w h' := by
    have h2 := findAsking_of h a w es l 0 h'
    have hn : Instr.findNow (.struct fs) (enc a) es 0 = none ∨ es = [] := by
      cases es with
      | nil => exact .inr rfl
      | cons e es => left; simp [Instr.findNow, Instr.sameNow]
    rcases hn with hn | rfl
    · simp [Instr.findKey, run_underlying hu, hn, h2]
    · cases l with
      | nil => simp [Instr.findKey, run_underlying hu, Instr.findNow, findL]
      | cons p l => simp at h'
  same := hs

/-- Block bm is a map with these entries. -/
def MapIs {α : Type} (enc : α → Value) (w : World) (bm : Nat) (l : List (α × Value)) : Prop :=
  ∃ es clock, w.heap[bm]? = some (.map es clock) ∧ es.toList.map (fun e => (e.key, e.val)) = l.map (fun p => (enc p.1, p.2))

theorem MapIs.upd {α : Type} {enc : α → Value} {w w' : World} {bm : Nat} {l : List (α × Value)} {S : Nat → Prop} (h : MapIs enc w bm l) (u : Upd S w w') (hs : ¬ S bm) : MapIs enc w' bm l := by
  obtain ⟨es, clock, h1, h2⟩ := h
  exact ⟨es, clock, u.heap h1 hs, h2⟩
theorem MapIs.drew {α : Type} {enc : α → Value} {w : World} {bm : Nat} {l : List (α × Value)} (h : MapIs enc w bm l) : MapIs enc w.drew bm l := h
theorem MapIs.lt {α : Type} {enc : α → Value} {w : World} {bm : Nat} {l : List (α × Value)} (h : MapIs enc w bm l) : bm < w.heap.size := by
  obtain ⟨es, clock, h1, h2⟩ := h; exact lt_of_heap h1

theorem run_getObj_map {w : World} {bm : Nat} {es : Array MapEntry} {clock : Nat} (h : w.heap[bm]? = some (.map es clock)) : (getObj bm).run P w = .ok (.map es clock) w := by
  simp [getObj, Sem.run, h]

section
variable {α : Type} [DecidableEq α] {enc : α → Value} {K E T : TypeId}
/-- 'v, ok := m[k]'. -/
theorem lookup_ok (hk : KeyOk P K enc) (hT : P.underlying T = some (.map K E)) {z : Value} {i : TypeInfo} (hE : P.info? E = some i) (hz : i.zero = some z) {w : World} {bm : Nat} {l : List (α × Value)} (h : MapIs enc w bm l) (a : α) :
    (Instr.lookup T (.map (some bm)) (enc a) true).run P w = .ok (.tuple #[((findL a l 0).map (·.2)).getD z, .bool (findL a l 0).isSome]) w := by
  obtain ⟨es, clock, h1, h2⟩ := h
  have hf := hk.find a es.toList l w h2
  have hg := run_getObj_map (P := P) h1
  simp only [Instr.lookup]
  simp [run_underlying hT, hg, hk.check, hf]
  cases hl : findL a l 0 with
  | none => simp [zeroValue, typeInfo, hE, hz]
  | some p => simp
theorem lookup_plain (hk : KeyOk P K enc) (hT : P.underlying T = some (.map K E)) {z : Value} {i : TypeInfo} (hE : P.info? E = some i) (hz : i.zero = some z) {w : World} {bm : Nat} {l : List (α × Value)} (h : MapIs enc w bm l) (a : α) :
    (Instr.lookup T (.map (some bm)) (enc a) false).run P w = .ok (((findL a l 0).map (·.2)).getD z) w := by
  obtain ⟨es, clock, h1, h2⟩ := h
  have hf := hk.find a es.toList l w h2
  have hg := run_getObj_map (P := P) h1
  simp only [Instr.lookup]
  simp [run_underlying hT, hg, hk.check, hf]
  cases hl : findL a l 0 with
  | none => simp [zeroValue, typeInfo, hE, hz]
  | some p => simp

/-- What 'm[k] = v' makes of the entries. -/
def setL (a : α) (v : Value) (l : List (α × Value)) : List (α × Value) :=
  match findL a l 0 with
  | some (i, _) => l.set i (a, v)
  | none => l ++ [(a, v)]

theorem findL_spec (a : α) : ∀ (l : List (α × Value)) (i j : Nat) (v : Value), findL a l i = some (j, v) → i ≤ j ∧ l[j - i]? = some (a, v)
  | [], i, j, v, h => by simp [findL] at h
  | p :: l, i, j, v, h => by
    unfold findL at h
    split at h
    · rename_i he
      simp only [Option.some.injEq, Prod.mk.injEq] at h
      obtain ⟨rfl, rfl⟩ := h
      exact ⟨Nat.le_refl _, by simp [he]⟩
    · have := findL_spec a l (i + 1) j v h
      refine ⟨by omega, ?_⟩
      rw [show j - i = (j - (i + 1)) + 1 by omega, List.getElem?_cons_succ]
      exact this.2
theorem findL_none (a : α) : ∀ (l : List (α × Value)) (i : Nat), findL a l i = none ↔ ∀ p ∈ l, p.1 ≠ a
  | [], i => by simp [findL]
  | p :: l, i => by
    unfold findL
    split
    · rename_i h; simp [h]
    · rename_i h
      rw [findL_none a l (i + 1)]
      simp only [List.mem_cons, forall_eq_or_imp]
      exact ⟨fun hh => ⟨fun e => h e.symm, hh⟩, fun hh => hh.2⟩

/-- 'm[k] = v': the map alone changes. -/
theorem update_ok (hk : KeyOk P K enc) (hT : P.underlying T = some (.map K E)) {w : World} {bm : Nat} {l : List (α × Value)} (h : MapIs enc w bm l) (a : α) (v : Value) :
    ∃ w', (Instr.mapUpdate T (.map (some bm)) (enc a) v).run P w = .ok () w' ∧ MapIs enc w' bm (setL a v l) ∧ Upd (One bm) w w' ∧ w'.heap.size = w.heap.size ∧ w'.drawn = w.drawn := by
  obtain ⟨es, clock, h1, h2⟩ := h
  have hf := hk.find a es.toList l w h2
  have hg := run_getObj_map (P := P) h1
  have hlt := lt_of_heap h1
  have hset : ∀ o, (setObj bm o).run P w = .ok () { w with heap := w.heap.setIfInBounds bm o } := fun o => by simp [setObj, Sem.run, h1]
  have hupd : ∀ o, Upd (One bm) w { w with heap := w.heap.setIfInBounds bm o } := fun o => ⟨rfl, rfl, rfl, by simp, fun k _ hs => by
    show (w.heap.setIfInBounds bm o)[k]? = _
    rw [Array.getElem?_setIfInBounds_ne (fun e => hs e.symm)]⟩
  have hhp : ∀ o, ({ w with heap := w.heap.setIfInBounds bm o } : World).heap[bm]? = some o := fun o => by
    show (w.heap.setIfInBounds bm o)[bm]? = _
    simp [hlt]
  cases hl : findL a l 0 with
  | none =>
    refine ⟨_, ?_, ⟨_, _, hhp (.map (es.push ⟨enc a, v, clock⟩) (clock + 1)), ?_⟩, hupd _, by simp, rfl⟩
    · simp only [Instr.mapUpdate]
      simp [run_underlying hT, hg, hk.check, hf, hl, hset]
    · simp [setL, hl, h2]
  | some p =>
    obtain ⟨j, u⟩ := p
    have hs := (findL_spec a l 0 j u hl).2
    simp only [Nat.sub_zero] at hs
    have hj : es.toList[j]?.map (fun e => (e.key, e.val)) = some (enc a, u) := by
      rw [← List.getElem?_map, h2, List.getElem?_map, hs]; rfl
    have hj' : (es[j]?.map (·.key)).getD (enc a) = enc a := by
      rw [← Array.getElem?_toList]
      cases he : es.toList[j]? with
      | none => rfl
      | some e => rw [he] at hj; simp at hj; simp [hj.1]
    refine ⟨_, ?_, ⟨_, _, hhp (.map (es.modify j fun e => { e with key := enc a, val := v }) clock), ?_⟩, hupd _, by simp, rfl⟩
    · simp only [Instr.mapUpdate]
      simp [run_underlying hT, hg, hk.check, hf, hl, hset, hj', Instr.keyThatStays, hk.same]
    · simp only [setL, hl]
      rw [Array.toList_modify]
      apply List.ext_getElem?
      intro k
      have h2k := congrArg (fun l => l[k]?) h2
      simp only [List.getElem?_map] at h2k
      simp only [List.getElem?_map, List.getElem?_modify, List.getElem?_set]
      by_cases hkj : j = k
      · subst hkj
        have hjl : j < l.length := (List.getElem?_eq_some_iff.1 hs).1
        cases he : es.toList[j]? with
        | none => rw [he, hs] at h2k; simp at h2k
        | some e => simp [hjl]
      · simp [hkj]; simpa using h2k

theorem map_eraseIdx {α β : Type} (f : α → β) : ∀ (l : List α) (i : Nat), (l.eraseIdx i).map f = (l.map f).eraseIdx i
  | [], i => by simp
  | x :: l, 0 => by simp
  | x :: l, i + 1 => by simp [map_eraseIdx f l i]
/-- What 'delete(m, k)' makes of the entries. -/
def dropL (a : α) (l : List (α × Value)) : List (α × Value) :=
  match findL a l 0 with
  | some (i, _) => l.eraseIdx i
  | none => l
/-- 'delete(m, k)': the map alone changes. -/
theorem delete_ok (hk : KeyOk P K enc) (hT : P.underlying T = some (.map K E)) {w : World} {bm : Nat} {l : List (α × Value)} (h : MapIs enc w bm l) (a : α) (k' ty : TypeId) :
    ∃ w', (Builtin.delete_ #[T, k'] ty #[.map (some bm), enc a]).run P w = .ok (.tuple #[]) w' ∧ MapIs enc w' bm (dropL a l) ∧ Upd (One bm) w w' ∧ w'.heap.size = w.heap.size ∧ w'.drawn = w.drawn := by
  obtain ⟨es, clock, h1, h2⟩ := h
  have hf := hk.find a es.toList l w h2
  have hg := run_getObj_map (P := P) h1
  have hlt := lt_of_heap h1
  have hset : ∀ o, (setObj bm o).run P w = .ok () { w with heap := w.heap.setIfInBounds bm o } := fun o => by simp [setObj, Sem.run, h1]
  have hupd : ∀ o, Upd (One bm) w { w with heap := w.heap.setIfInBounds bm o } := fun o => ⟨rfl, rfl, rfl, by simp, fun k _ hs => by
    show (w.heap.setIfInBounds bm o)[k]? = _
    rw [Array.getElem?_setIfInBounds_ne (fun e => hs e.symm)]⟩
  have hhp : ∀ o, ({ w with heap := w.heap.setIfInBounds bm o } : World).heap[bm]? = some o := fun o => by
    show (w.heap.setIfInBounds bm o)[bm]? = _
    simp [hlt]
  cases hl : findL a l 0 with
  | none =>
    refine ⟨_, ?_, ⟨_, _, hhp (.map es clock), ?_⟩, hupd _, by simp, rfl⟩
    · simp only [Builtin.delete_]
      simp [run_underlying hT, hg, hk.check, hf, hl, hset]
    · simp [dropL, hl, h2]
  | some p =>
    obtain ⟨j, u⟩ := p
    refine ⟨_, ?_, ⟨_, _, hhp (.map (es.eraseIdxIfInBounds j) clock), ?_⟩, hupd _, by simp, rfl⟩
    · simp only [Builtin.delete_]
      simp [run_underlying hT, hg, hk.check, hf, hl, hset]
    · have he : (es.eraseIdxIfInBounds j).toList = es.toList.eraseIdx j := by
        unfold Array.eraseIdxIfInBounds
        split
        · simp
        · rename_i hj
          rw [List.eraseIdx_of_length_le (by simpa using hj)]
      simp only [dropL, hl]
      rw [he, map_eraseIdx, h2, map_eraseIdx]

/-- 'm[k] = v' at a step of a region that draws its order. -/
theorem step_mapUpdate {ops : Array Oper} {o : Oper} {a : Act} {w : World} {Kn : Act → World → Prop} {Q : Exit → Act → World → Prop} {Ex : Prop} (hk : KeyOk P K enc) (hT : P.underlying T = some (.map K E)) (hgd : o.guard = none) (m k x : Operand) (ho : o.op = .mapUpdate T m k x) (hdst : o.dst = none)
    {bm : Nat} {l : List (α × Value)} (key : α) (v : Value) (hm : a.eval m = .map (some bm)) (hke : a.eval k = enc key) (hv : a.eval x = v) (hmap : MapIs enc w bm l)
    (h : ∀ w', MapIs enc w' bm (setL key v l) → Upd (One bm) w w' → w'.heap.size = w.heap.size → Kn a w') : if Region.wanted o (yielded ops a.tmps) = true then Oper.wp P o a w Kn Q else Ex := by
  have hw : Region.wanted o (yielded ops a.tmps) = true := by simp [Region.wanted, hgd]
  rw [if_pos hw]
  obtain ⟨w', hr, h1, h2, h3, _⟩ := update_ok hk hT hmap key v
  unfold Oper.wp execOp
  simp only [ho, hm, hke, hv, Sem.run_bind, hr, Result.andThen_ok, Sem.run_pure]
  show Kn (a.put o.dst undef) w'
  rw [hdst]
  exact h w' h1 h2 h3
/-- The same in a region without a draw. -/
theorem wpList_mapUpdate {ops : Array Oper} {rest : List Oper} {o : Oper} {a : Act} {w : World} {Q : Exit → Act → World → Prop} (hk : KeyOk P K enc) (hT : P.underlying T = some (.map K E)) (hgd : o.guard = none) (m k x : Operand) (ho : o.op = .mapUpdate T m k x) (hdst : o.dst = none)
    {bm : Nat} {l : List (α × Value)} (key : α) (v : Value) (hm : a.eval m = .map (some bm)) (hke : a.eval k = enc key) (hv : a.eval x = v) (hmap : MapIs enc w bm l)
    (h : ∀ w', MapIs enc w' bm (setL key v l) → Upd (One bm) w w' → w'.heap.size = w.heap.size → wpList P ops Q rest a w') : wpList P ops Q (o :: rest) a w :=
  wpList_plain hgd fun Kn hK => by
    have := step_mapUpdate (P := P) (ops := ops) (Kn := Kn) (Q := Q) (Ex := True) hk hT hgd m k x ho hdst key v hm hke hv hmap (fun w' h1 h2 h3 => hK _ _ (h w' h1 h2 h3))
    rw [if_pos (by simp [Region.wanted, hgd])] at this
    exact this
end
end
end Go.Proofs.YtfelbecofbdeaaaGreatDoor
