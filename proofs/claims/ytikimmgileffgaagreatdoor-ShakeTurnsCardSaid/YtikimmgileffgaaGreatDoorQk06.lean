/- Packed by packn.py: ParL, Tok9, Tok10, Bas1. -/
import Derived.Test.YtikimmgileffgaaGreatDoorQk05
import Derived.Lib.SlicesS
import Derived.Lib.IndexMore
import Derived.Lib.CountLaws
import Derived.Deep.RegionHeld3
import Derived.Deep.DeepCutAuto
import Derived.Deep.AppendLies
import Derived.Lib.SmallJoins
/- What Parse's parts tell of what Print has written (layer 5). No program in sight. -/
section
namespace Go.Proofs.YtikimmgileffgaaGreatDoor
open Go.RowKit

/-- Where a separator stands first: behind a text that does not hold its first byte. -/
theorem index_after (c : UInt8) (ds : List UInt8) (rest : List UInt8) : ∀ x : List UInt8, c ∉ x → Lib.index (x ++ (c :: ds) ++ rest) (c :: ds) = x.length
  | [], _ => by
    show Lib.index (c :: (ds ++ rest)) (c :: ds) = _
    unfold Lib.index
    rw [if_pos (by rw [List.isPrefixOf_iff_prefix, List.cons_prefix_cons]; exact ⟨rfl, List.prefix_append _ _⟩)]
    rfl
  | b :: x, h => by
    have hb : b ≠ c := fun e => h (by rw [e]; exact List.mem_cons_self)
    have ih := index_after c ds rest x (fun e => h (List.mem_cons_of_mem _ e))
    show Lib.index (b :: (x ++ (c :: ds) ++ rest)) (c :: ds) = _
    rw [Lib.index, if_neg (by rw [List.isPrefixOf_iff_prefix, List.cons_prefix_cons]; exact fun e => hb e.1.symm), ih, if_neg (by rw [beq_iff_eq]; omega)]
    simp
theorem index_none (c : UInt8) (ds : List UInt8) : ∀ x : List UInt8, c ∉ x → Lib.index x (c :: ds) = -1
  | [], _ => rfl
  | b :: x, h => by
    have hb : b ≠ c := fun e => h (by rw [e]; exact List.mem_cons_self)
    rw [Lib.index, if_neg (by rw [List.isPrefixOf_iff_prefix, List.cons_prefix_cons]; exact fun e => hb e.1.symm), index_none c ds x (fun e => h (List.mem_cons_of_mem _ e))]
    rfl
theorem split_none (c : UInt8) (ds x : List UInt8) (h : c ∉ x) : Lib.split x (c :: ds) = [x] := by
  unfold Lib.split
  rw [Lib.count_miss (index_none c ds x h)]; rfl
theorem split_after (c : UInt8) (ds x rest : List UInt8) (h : c ∉ x) : Lib.split (x ++ (c :: ds) ++ rest) (c :: ds) = x :: Lib.split rest (c :: ds) := by
  have hi := index_after c ds rest x h
  have hd : (x ++ (c :: ds) ++ rest).drop (x.length + (c :: ds).length) = rest := by
    rw [show x.length + (c :: ds).length = (x ++ (c :: ds)).length by rw [List.length_append], List.drop_left]
  unfold Lib.split
  rw [Lib.count_hit (by simp) hi, hd, Nat.add_comm 1, Lib.splitK, hi, if_neg (by rw [beq_iff_eq]; omega)]
  have e : ((x.length : Int)).toNat = x.length := by omega
  rw [e, hd, Nat.add_zero, List.append_assoc, List.take_left]
theorem split_joined (c : UInt8) (ds : List UInt8) : ∀ (xs : List (List UInt8)), xs ≠ [] → (∀ x ∈ xs, c ∉ x) → Lib.split (Lib.join xs (c :: ds)) (c :: ds) = xs
  | [], h, _ => absurd rfl h
  | [x], _, hc => by rw [Lib.join_one]; exact split_none c ds x (hc x (by simp))
  | x :: y :: r, _, hc => by
    have e : Lib.join (x :: y :: r) (c :: ds) = x ++ (c :: ds) ++ Lib.join (y :: r) (c :: ds) := by
      rw [Lib.join_cons, Lib.join_cons]; simp [Lib.joinTail, List.append_assoc]
    rw [e, split_after c ds x _ (hc x (by simp)), split_joined c ds (y :: r) (by simp) (fun z hz => hc z (List.mem_cons_of_mem _ hz))]
/-- What Parse reads of an arrow, of a token's name. -/
def arrowI (a : List UInt8) : Int := if a = [45, 62] then 0 else if a = [60, 45] then 1 else -1
def tokI (s : List UInt8) : Int := if s = [63] then 0 else if s = [101] then 1 else if s = [115] then 2 else if s = [101, 101] then 3 else if s = [101, 115] then 4 else if s = [115, 101] then 5 else if s = [115, 115] then 6 else if s = [112, 115, 107] then 7 else -1
theorem strO_iff (a b : List UInt8) : strO b = strO a ↔ a = b := ⟨fun h => (strO_inj h).symm, fun h => by rw [h]⟩
theorem arrowI_eq (a : List UInt8) : Lib.idxOfS [strO [45, 62], strO [60, 45]] (strO a) = arrowI a := by
  simp only [Lib.idxOfS, Lib.idxFromS, strO_iff]; rfl
theorem tokI_eq (a : List UInt8) : Lib.idxOfS [strO [63], strO [101], strO [115], strO [101, 101], strO [101, 115], strO [115, 101], strO [115, 115], strO [112, 115, 107]] (strO a) = tokI a := by
  simp only [Lib.idxOfS, Lib.idxFromS, strO_iff]; rfl
theorem tok_round {t : Int} (h1 : 1 ≤ t) (h7 : t ≤ 7) : tokI (tokName t) = t := by
  have : t = 1 ∨ t = 2 ∨ t = 3 ∨ t = 4 ∨ t = 5 ∨ t = 6 ∨ t = 7 := by omega
  rcases this with rfl | rfl | rfl | rfl | rfl | rfl | rfl <;> decide
theorem arrow_round {who : Nat} (h : who ≤ 1) : arrowI (arrowT who) = who := by
  have : who = 0 ∨ who = 1 := by omega
  rcases this with rfl | rfl <;> decide
theorem tokName_no (c : UInt8) (h : c ≠ 101 ∧ c ≠ 115 ∧ c ≠ 112 ∧ c ≠ 107 ∧ c ≠ 63) (t : Int) : c ∉ tokName t := by
  obtain ⟨h1, h2, h3, h4, h5⟩ := h
  unfold tokName
  (repeat' split) <;> simp [h1, h2, h3, h4, h5]
theorem arrowT_no (c : UInt8) (h : c ≠ 45 ∧ c ≠ 62 ∧ c ≠ 60) (n : Nat) : c ∉ arrowT n := by
  obtain ⟨h1, h2, h3⟩ := h
  unfold arrowT; split <;> simp [h1, h2, h3]
theorem joinT_no (c : UInt8) (h : c ≠ 101 ∧ c ≠ 115 ∧ c ≠ 112 ∧ c ≠ 107 ∧ c ≠ 63) (hc : c ≠ 44 ∧ c ≠ 32) (t : List Int) : c ∉ joinT t := by
  unfold joinT
  cases t with
  | nil => simp [Lib.join_nil]
  | cons x t =>
    rw [List.map_cons, Lib.join_cons]
    intro hm
    rcases List.mem_append.1 hm with hm | hm
    · exact tokName_no c h x hm
    · unfold Lib.joinTail at hm
      rw [List.mem_flatten] at hm
      obtain ⟨l, hl, hm⟩ := hm
      rw [List.map_map] at hl
      obtain ⟨y, _, rfl⟩ := List.mem_map.1 hl
      rcases List.mem_append.1 hm with hm | hm
      · simp [hc.1, hc.2] at hm
      · exact tokName_no c h y hm
/-- A line without its end. -/
def bareT (who : Nat) (t : List Int) : List UInt8 := arrowT who ++ [32] ++ joinT t
theorem lineT_eq (who : Nat) (t : List Int) : lineT who t = bareT who t ++ [10] := rfl
def rowM (s : List UInt8) : Msg := ⟨arrowI (Lib.cut s [32]).1, (Lib.split (Lib.cut s [32]).2.1 [44, 32]).map tokI⟩
def rowB (m : Msg) : Bool := decide (0 ≤ m.frm) && !m.t.any fun t => decide (t < 1)
theorem row_bare {who : Nat} {t : List Int} (hw : who ≤ 1) (h1 : t ≠ []) (ht : ∀ x ∈ t, 1 ≤ x ∧ x ≤ 7) : rowM (bareT who t) = ⟨who, t⟩ := by
  have hi := index_after 32 [] (joinT t) (arrowT who) (arrowT_no 32 (by decide) who)
  have hc : Lib.cut (bareT who t) [32] = (arrowT who, joinT t, true) := by
    unfold Lib.cut bareT
    rw [hi, if_pos (by omega)]
    have e : ((arrowT who).length : Int).toNat = (arrowT who).length := by omega
    rw [e]
    refine Prod.ext ?_ (Prod.ext ?_ rfl)
    · rw [List.append_assoc]; exact List.take_left
    · show List.drop ((arrowT who).length + [32].length) _ = _
      rw [← List.length_append]; exact List.drop_left
  unfold rowM
  rw [hc]
  dsimp only
  unfold joinT
  rw [split_joined 44 [32] _ (by simpa using h1) (fun x hx => by obtain ⟨y, _, rfl⟩ := List.mem_map.1 hx; exact tokName_no 44 (by decide) y), List.map_map, arrow_round hw]
  congr 1
  conv => rhs; rw [← List.map_id t]
  exact List.map_congr_left fun x hx => tok_round (ht x hx).1 (ht x hx).2
theorem rowB_bare {who : Nat} {t : List Int} (ht : ∀ x ∈ t, 1 ≤ x ∧ x ≤ 7) : rowB ⟨who, t⟩ = true := by
  unfold rowB
  have : (t.any fun t => decide (t < 1)) = false := by
    rw [List.any_eq_false]; intro x hx; have := (ht x hx).1; simp; omega
  rw [this]; simp
theorem row_empty : rowB (rowM []) = false := by decide +kernel
theorem splitL_after (c : UInt8) : ∀ (x rest : List UInt8), c ∉ x → splitL c (x ++ c :: rest) = x :: splitL c rest
  | [], rest, _ => splitL_here c rest
  | b :: x, rest, h => by
    have hb : b ≠ c := fun e => h (by rw [e]; exact List.mem_cons_self)
    exact splitL_other hb (splitL_after c x rest (fun e => h (List.mem_cons_of_mem _ e)))
theorem bareT_no (who : Nat) (t : List Int) : (10 : UInt8) ∉ bareT who t := by
  unfold bareT
  intro h
  rcases List.mem_append.1 h with h | h
  · rcases List.mem_append.1 h with h | h
    · exact arrowT_no 10 (by decide) who h
    · simp at h
  · exact joinT_no 10 (by decide) (by decide) t h
theorem okB_no {s : List UInt8} (h : s.all okB = true) (c : UInt8) (hc : okB c = false) : c ∉ s := fun hm => by
  rw [List.all_eq_true] at h
  have := h c hm
  rw [hc] at this; cases this
/-- The rows of a printed pattern. -/
def toldR (p : Pat) : List (List UInt8) := (if p.pre0 = [] then [] else [bareT 0 p.pre0]) ++ (if p.pre1 = [] then [] else [bareT 1 p.pre1])
def rowsP (p : Pat) : List (List UInt8) := (toldR p ++ if toldR p = [] then [] else [[46, 46, 46]]) ++ p.msgs.map fun m => bareT m.frm.toNat m.t
theorem lines_split : ∀ (rs : List (List UInt8)), (∀ r ∈ rs, (10 : UInt8) ∉ r) → splitL 10 (rs.flatMap fun r => r ++ [10]) = rs ++ [[]]
  | [], _ => rfl
  | r :: rs, h => by
    have e : (r :: rs).flatMap (fun r => r ++ [10]) = r ++ 10 :: rs.flatMap (fun r => r ++ [10]) := by rw [List.flatMap_cons, List.append_assoc]; rfl
    rw [e, splitL_after 10 r _ (h r List.mem_cons_self), lines_split rs (fun x hx => h x (List.mem_cons_of_mem _ hx))]
    rfl
theorem toldT_lines (p : Pat) : toldT p = (toldR p ++ if toldR p = [] then [] else [[46, 46, 46]]).flatMap fun r => r ++ [10] := by
  have e0 : preK p 0 = p.pre0 := rfl
  have e1 : preK p 1 = p.pre1 := rfl
  unfold toldT toldR
  simp only [preT, e0, e1]
  by_cases h0 : p.pre0 = [] <;> by_cases h1 : p.pre1 = [] <;> simp [h0, h1, lineT_eq]
theorem msgs_lines (l : List Msg) : l.flatMap msgT = (l.map fun m => bareT m.frm.toNat m.t).flatMap fun r => r ++ [10] := by
  rw [List.flatMap_map]; rfl
theorem printT_split {p : Pat} (h : p.name.all okB = true) : splitL 10 (printT p) = (p.name ++ [58]) :: (rowsP p ++ [[]]) := by
  have e : printT p = (p.name ++ [58]) ++ 10 :: ((rowsP p).flatMap fun r => r ++ [10]) := by
    unfold printT headT rowsP
    rw [toldT_lines, msgs_lines, List.flatMap_append]
    simp
  rw [e, splitL_after 10 _ _ (by
    intro hm
    rcases List.mem_append.1 hm with hm | hm
    · exact okB_no h 10 (by decide) hm
    · simp at hm), lines_split]
  intro r hr
  unfold rowsP at hr
  rcases List.mem_append.1 hr with hr | hr
  · rcases List.mem_append.1 hr with hr | hr
    · unfold toldR at hr
      rcases List.mem_append.1 hr with hr | hr
      · by_cases h0 : p.pre0 = []
        · rw [if_pos h0] at hr; cases hr
        · rw [if_neg h0] at hr; obtain rfl := List.mem_singleton.1 hr; exact bareT_no _ _
      · by_cases h0 : p.pre1 = []
        · rw [if_pos h0] at hr; cases hr
        · rw [if_neg h0] at hr; obtain rfl := List.mem_singleton.1 hr; exact bareT_no _ _
    · by_cases h0 : toldR p = []
      · rw [if_pos h0] at hr; cases hr
      · rw [if_neg h0] at hr; obtain rfl := List.mem_singleton.1 hr; decide
  · obtain ⟨m, _, rfl⟩ := List.mem_map.1 hr; exact bareT_no _ _
end Go.Proofs.YtikimmgileffgaaGreatDoor
end
/- A row of a text read (layer 5): the library's calls, and row. -/
section
namespace Go.Proofs.YtikimmgileffgaaGreatDoor
open Go.RowKit

/-- What the strings' library reads of package-level variables. -/
structure EnvS (w : World) : Prop where
  mlen : ∃ m, w.cell? ⟨2, 0, none⟩ = some (.int .i64 m)
theorem EnvS.below {w w' : World} (h : EnvS w) (hb : Below w.heap.size w w') : EnvS w' := by
  obtain ⟨m, hm⟩ := h.mlen
  exact ⟨m, (hb.cell (World.block_lt_of_cell? w _ hm)).trans hm⟩
theorem splitK_len (sep : List UInt8) (hsep : sep ≠ []) : ∀ (n : Nat) (s : List UInt8), Lib.count s sep = n → (Lib.splitK sep 0 n s).length = n + 1
  | 0, s, _ => rfl
  | n + 1, s, h => by
    rcases Lib.index_spec s sep with ⟨hm, _⟩ | ⟨i, hi, _⟩
    · rw [Lib.count_miss hm] at h; cases h
    · rw [Lib.count_hit hsep hi] at h
      rw [Lib.splitK, hi, if_neg (by rw [beq_iff_eq]; omega)]
      have e : ((i : Int)).toNat = i := by omega
      rw [e, List.length_cons, splitK_len sep hsep n _ (by omega)]
theorem split_len (s sep : List UInt8) (hsep : sep ≠ []) : (Lib.split s sep).length = Lib.count s sep + 1 := splitK_len sep hsep _ s rfl
theorem splitB_strs (s sep : List UInt8) : Lib.splitB (strO sep) 0 (Lib.countB (strO s) (strO sep)) (strO s) = (Lib.split s sep).map strO := by
  have h := Lib.splitB_data (strO sep) 0 (Lib.countB (strO s) (strO sep)) (strO s)
  rw [strO_data, strO_data] at h
  have e : Lib.countB (strO s) (strO sep) = Lib.count s sep := by unfold Lib.countB; rw [strO_data, strO_data]
  rw [e] at h ⊢
  have h2 := congrArg (List.map strO) h
  rw [List.map_map] at h2
  have hid : (strO ∘ fun x : ByteArray => x.data.toList) = id := by funext x; exact strO_toList x
  rw [hid, List.map_id] at h2
  exact h2
def SplitPost (s sep : List UInt8) (w : World) (e : Ending) (w' : World) : Prop :=
  e = .returned (.slice (some ⟨w.heap.size, 0, none⟩) (Lib.split s sep).length (Lib.split s sep).length) ∧ w' = w.alloc (.cells (strsV (Lib.split s sep)).toArray 9)
theorem split5_calls (s sep : List UInt8) (w : World) (he : EnvS w) (hs : s.length < 4294967281) (h1 : sep ≠ []) : Calls Tryz.prog 57 #[.string (strO s), .string (strO sep)] w (SplitPost s sep w) := by
  obtain ⟨m, hm⟩ := he.mlen
  have h2 : 1 ≤ (strO sep).size := by rw [size_str]; exact List.length_pos_iff.2 h1
  refine (Sh.strings_Split (strO s) (strO sep) m w (by rw [size_str]; exact hs) hm h2).mono fun e w' ⟨h3, h4⟩ => ?_
  have e1 : Lib.countB (strO s) (strO sep) + 1 = (Lib.split s sep).length := by rw [split_len _ _ h1]; unfold Lib.countB; rw [strO_data, strO_data]
  rw [splitB_strs] at h4
  rw [e1] at h3
  exact ⟨h3, by rw [h4, List.map_map]; rfl⟩
def CutPost (s sep : List UInt8) (w : World) (e : Ending) (w' : World) : Prop :=
  e = .returned (.tuple #[.string (strO (Lib.cut s sep).1), .string (strO (Lib.cut s sep).2.1), .bool (Lib.cut s sep).2.2]) ∧ Below w.heap.size w w'
theorem cut5_calls (s sep : List UInt8) (w : World) (he : EnvS w) (hs : s.length < 4294967281) : Calls Tryz.prog 172 #[.string (strO s), .string (strO sep)] w (CutPost s sep w) := by
  obtain ⟨m, hm⟩ := he.mlen
  refine (Sh.strings_Cut (strO s) (strO sep) m w (by rw [size_str]; exact hs) hm).mono fun e w' ⟨h3, n, h4⟩ => ⟨?_, ?_⟩
  · rw [h3, strO_data, strO_data]; rfl
  · rw [h4]; exact Upd.below (S := None) ((Upd.refl _ _).drewN _) (Nat.le_refl _) (fun _ _ h => h)
theorem index5_calls (xs : List (List UInt8)) (x : List UInt8) (b o c : Nat) (w : World) (hn : xs.length ≤ 9223372036854775807) (hc : ∀ j s, xs[j]? = some s → w.cell? ⟨b, o + j, none⟩ = some (.string (strO s))) :
    Calls Tryz.prog 53 #[.slice (some ⟨b, o, none⟩) xs.length c, .string (strO x)] w fun e w' => e = .returned (.int .i64 (Lib.idxOfS (xs.map strO) (strO x))) ∧ w' = w := by
  have h := Sh.slices_Index_string b o xs.length c (xs.map strO) (strO x) w (by rw [List.length_map]; exact Nat.le_refl _) hn (fun j hj => by
    rw [List.length_map] at hj
    rw [List.getD_eq_getElem?_getD, List.getElem?_map, List.getElem?_eq_getElem hj]
    exact hc j _ (List.getElem?_eq_getElem hj))
  rwa [show (xs.map strO).take xs.length = xs.map strO by rw [← List.length_map (f := strO), List.take_length]] at h
theorem enters_row1 : ∀ args w, (callFunc 173 args).run Tryz.prog w = .ok (.enter 173 args) w := enters_of Tryz.func173 (by kernel_rfl) rfl
theorem row1_calls (t : Int) (w : World) : Calls Tryz.prog 173 #[.int .i64 t] w fun e w' => e = .returned (.bool (decide (t < 1))) ∧ w = w' := by
  go_enter Tryz.func173, Tryz.ntmps173
  go_wp2_with fail
  go_ret
  exact ⟨rfl, rfl⟩
theorem row1_pred (w : World) : PredAt Tryz.prog 173 #[] (Value.int .i64) (fun t => decide (t < 1)) w := fun W x _ => by
  show Calls Tryz.prog 173 #[.int .i64 x] W _
  exact (row1_calls x W).mono fun e w' ⟨h1, h2⟩ => ⟨h1, 0, by rw [← h2]; rfl⟩
theorem anyBad_calls {w : World} {A : Option Addr} {l : List Int} (c : Nat) (h : Holds w A (intsV l)) (hl : l.length ≤ 9223372036854775807) :
    Calls Tryz.prog 114 #[.slice A l.length c, .func (.func 173) #[] #[]] w fun e w' => e = .returned (.bool (l.any fun t => decide (t < 1))) ∧ Below w.heap.size w w' := by
  rcases h with h | ⟨b, o, rfl, h⟩
  · have h0 : l = [] := by simpa [intsV] using h
    subst h0
    exact (Sh.slices_ContainsFunc_empty (α := Int) A c _ w).mono fun e w' ⟨h1, h2⟩ => ⟨h1, by rw [h2]; exact Below.refl _ _⟩
  · refine (Sh.slices_ContainsFunc (Value.int .i64) (fun t => decide (t < 1)) 173 #[] enters_row1 b o l.length c l w (row1_pred w) (Nat.le_refl _) hl (fun j hj => h j _ (by simp [intsV, hj]))).mono fun e w' ⟨h1, q, h2⟩ => ⟨?_, ?_⟩
    · rw [h1, List.take_length]
    · rw [h2]; exact Upd.below (S := None) ((Upd.refl _ _).drewN _) (Nat.le_refl _) (fun _ _ h => h)
end Go.Proofs.YtikimmgileffgaaGreatDoor
end
/- A row of a text read (layer 5): row. -/
section
namespace Go.Proofs.YtikimmgileffgaaGreatDoor
open Go.RowKit

theorem einfo_int5 : (Tryz.prog.info? 3).map (fun i => (i.zero, i.size, i.bytes)) = some (some (.int .i64 0), 1, 8) := by kernel_rfl
theorem Upd.setOne5 {a w : World} {b o : Nat} {v : Value} (h : Upd (One b) a w) : Upd (One b) a (w.setCell ⟨b, o, none⟩ v) := h.setCell (fun _ => rfl) v
theorem Upd.of_below5 {S : Nat → Prop} {a w : World} (h : Below a.heap.size a w) : Upd S a w := ⟨h.os, h.tape, h.output, h.size, fun k hk _ => h.block k hk⟩
theorem heap_two {w : World} {b : Nat} {a0 a1 v0 v1 : Value} {e : TypeId} {f : Nat × Nat} (h : w.heap[b]? = some (.cells #[a0, a1] e f)) :
    ((w.setCell ⟨b, 0, none⟩ v0).setCell ⟨b, 1, none⟩ v1).heap[b]? = some (.cells #[v0, v1] e f) := by
  have := heap_setCell_at (o := 1) (heap_setCell_at (o := 0) h v0) v1
  simpa using this
theorem Own.setTwo {w0 w : World} {L : List Thing} {i b : Nat} {a0 a1 : Value} {e : TypeId} (h : Own w0 w L) (hi : L[i]? = some (Go.Proofs.YtikimmgileffgaaGreatDoor.blk b (.cells #[a0, a1] e (0, 0)))) (v0 v1 : Value) :
    Own w0 ((w.setCell ⟨b, 0, none⟩ v0).setCell ⟨b, 1, none⟩ v1) (L.set i (Go.Proofs.YtikimmgileffgaaGreatDoor.blk b (.cells #[v0, v1] e (0, 0)))) :=
  h.store hi (((Upd.refl (One b) w).setCell (fun _ => rfl) _).setCell (fun _ => rfl) _) (heap_two (h.blk hi))
theorem row_form5 {w : World} {base : Nat} {e : TypeId} {v : Value} {n : Nat} {xs : List Value} {size : Nat} (h : w.ownsRow base e size v n xs) : ∃ A cap, v = .slice A n cap := by
  rcases h.2 with ⟨rfl, rfl⟩ | ⟨g, cap, _, rfl, _⟩
  · exact ⟨_, _, rfl⟩
  · exact ⟨_, _, rfl⟩
def namesL : List (List UInt8) := [[63], [101], [115], [101, 101], [101, 115], [115, 101], [115, 115], [112, 115, 107]]
def namesO : Obj := .cells #[.string ⟨#[63]⟩, .string ⟨#[101]⟩, .string ⟨#[115]⟩, .string ⟨#[101, 101]⟩, .string ⟨#[101, 115]⟩, .string ⟨#[115, 101]⟩, .string ⟨#[115, 115]⟩, .string ⟨#[112, 115, 107]⟩] 262 (0, 0)
theorem names_index {w : World} {b : Nat} (h : w.heap[b]? = some namesO) (x : List UInt8) :
    Calls Tryz.prog 53 #[.slice (some ⟨b, 0, none⟩) 8 8, .string (strO x)] w fun e w' => e = .returned (.int .i64 (tokI x)) ∧ w' = w := by
  have := index5_calls namesL x b 0 8 w (by decide) (fun j s hj => by
    have hc : ∀ o, w.cell? ⟨b, o, none⟩ = _ := fun o => cell_of_heap (o := o) h
    rw [Nat.zero_add, hc]
    match j, hj with
    | 0, hj => cases hj; rfl
    | 1, hj => cases hj; rfl
    | 2, hj => cases hj; rfl
    | 3, hj => cases hj; rfl
    | 4, hj => cases hj; rfl
    | 5, hj => cases hj; rfl
    | 6, hj => cases hj; rfl
    | 7, hj => cases hj; rfl)
  rw [show namesL.map strO = [strO [63], strO [101], strO [115], strO [101, 101], strO [101, 115], strO [115, 101], strO [115, 115], strO [112, 115, 107]] from rfl, tokI_eq] at this
  exact this
theorem arrow_index {w : World} {b : Nat} (h : w.heap[b]? = some (.cells #[.string ⟨#[45, 62]⟩, .string ⟨#[60, 45]⟩] 9 (0, 0))) (x : List UInt8) :
    Calls Tryz.prog 53 #[.slice (some ⟨b, 0, none⟩) 2 2, .string (strO x)] w fun e w' => e = .returned (.int .i64 (arrowI x)) ∧ w' = w := by
  have := index5_calls [[45, 62], [60, 45]] x b 0 2 w (by decide) (fun j s hj => by
    have hc : ∀ o, w.cell? ⟨b, o, none⟩ = _ := fun o => cell_of_heap (o := o) h
    rw [Nat.zero_add, hc]
    match j, hj with
    | 0, hj => cases hj; rfl
    | 1, hj => cases hj; rfl)
  rw [show [[45, 62], [60, 45]].map strO = [strO [45, 62], strO [60, 45]] from rfl, arrowI_eq] at this
  exact this
def RowPost (s : List UInt8) (w : World) (e : Ending) (w' : World) : Prop :=
  ∃ v, e = .returned (.tuple #[.agg #[.int .i64 (rowM s).frm, v], .bool (rowB (rowM s))]) ∧ Own w w' [rowT 3 1 v (rowM s).t.length (intsV (rowM s).t)]
set_option warningAsError false in
set_option maxHeartbeats 3200000 in
set_option maxRecDepth 100000 in
theorem row_calls (s : List UInt8) (w : World) (he : EnvS w) (hs : s.length ≤ 100000) : Calls Tryz.prog 120 #[.string (strO s)] w (RowPost s w) := by
  have HE := Lib.hid he
  have hcl : (Lib.cut s [32]).2.1.length ≤ s.length := by
    unfold Lib.cut; split
    · simp
    · simp
  have HC := Lib.hid (fun (w' : World) (b : Below w.heap.size w w') => cut5_calls s [32] w' (HE.out.below b) (by omega))
  have HSp := Lib.hid (fun (w' : World) (L : List Thing) (h : Own w w' L) => split5_calls (Lib.cut s [32]).2.1 [44, 32] w' (HE.out.below h.below) (by omega) (by decide))
  have HM := Lib.hid (show rowM s = ⟨arrowI (Lib.cut s [32]).1, (Lib.split (Lib.cut s [32]).2.1 [44, 32]).map tokI⟩ from rfl)
  have Hsl := Lib.hid (show (Lib.split (Lib.cut s [32]).2.1 [44, 32]).length ≤ 100001 by
    rw [split_len _ _ (by decide)]
    have : ∀ (n : Nat) (l : List UInt8), l.length ≤ n → Lib.count l [44, 32] ≤ l.length := by
      intro n
      induction n with
      | zero => intro l hl; have := List.eq_nil_of_length_eq_zero (Nat.le_zero.1 hl); subst this; decide
      | succ n ih =>
        intro l hl
        rcases Lib.index_spec l [44, 32] with ⟨hm, _⟩ | ⟨i, hi, hle, hocc, _⟩
        · rw [Lib.count_miss hm]; omega
        · rw [Lib.count_hit (by decide) hi]
          have hp : [44, 32] <+: l.drop i := by rw [← List.isPrefixOf_iff_prefix]; exact hocc
          have h2 := hp.length_le
          rw [List.length_drop] at h2
          have h3 := ih (l.drop (i + [44, 32].length)) (by rw [List.length_drop]; simp at h2 ⊢; omega)
          rw [List.length_drop] at h3
          simp at h2 h3 ⊢; omega
    have := this _ (Lib.cut s [32]).2.1 (Nat.le_refl _)
    omega)
  unfold CutPost at HC
  unfold SplitPost at HSp
  unfold RowPost
  rw [HM.out]
  clear he hcl hs HM HE
  generalize (Lib.cut s [32]).1 = ca at *
  generalize (Lib.cut s [32]).2.1 = cr at *
  generalize (Lib.cut s [32]).2.2 = cb at *
  generalize Lib.split cr [44, 32] = sp at *
  generalize strO s = s0 at *
  have z1 : strO [32] = ⟨#[32]⟩ := rfl
  have z2 : strO [44, 32] = ⟨#[44, 32]⟩ := rfl
  rw [z1] at HC
  rw [z2] at HSp
  clear z1 z2
  go_enter Tryz.func120, Tryz.ntmps120
  go_wp2_with fail
  refine (HC.out _ ((Below.refl _ _).alloc (Nat.le_refl _) _)).mono ?_
  rintro e w1 ⟨rfl, b1⟩
  have O1 := Lib.hid (((Own.start w).alloc (.cells #[.int .i64 0, .slice none 0 0] 61)).call b1)
  clear b1 HC
  have HA := Lib.hid (fun (w' : World) (b : Nat) (h : w'.heap[b]? = some (.cells #[.string ⟨#[45, 62]⟩, .string ⟨#[60, 45]⟩] 9 (0, 0))) => arrow_index h ca)
  generalize w.heap.size = X at *
  generalize strO ca = ca' at *
  generalize strO cr = cr' at *
  go_wp2_with fail
  refine (HA.out _ _ (new_at rfl)).mono ?_
  rintro e w2 ⟨rfl, rfl⟩
  have O2 := Lib.hid (O1.out.alloc (.cells #[.string ⟨#[45, 62]⟩, .string ⟨#[60, 45]⟩] 9))
  generalize w1.alloc (.cells #[.string ⟨#[45, 62]⟩, .string ⟨#[60, 45]⟩] 9) = W2 at *
  clear HA O1
  go_wp2_with fail
  have O3 := Lib.hid (O2.out.alloc (.cells #[.int .i64 (arrowI ca), .slice none 0 0] 61))
  refine (HSp.out _ _ O3.out).mono ?_
  rintro e w2 ⟨rfl, rfl⟩
  have O4 := Lib.hid ((O3.out.alloc (.cells (strsV sp).toArray 9)).nilRow 3 1)
  clear O2 O3 HSp
  generalize W2.heap.size = Y at *
  generalize W2.alloc (.cells #[.int .i64 (arrowI ca), .slice none 0 0] 61) = W3 at *
  generalize W3.heap.size = Z at *
  generalize W3.alloc (.cells (strsV sp).toArray 9) = W4 at *
  go_wp2_with fail
  go_loopw [24] (fun i wr => ∃ (k : Nat) (v : Value) (M : List Thing), k ≤ sp.length ∧ i = .int .i64 k ∧ Own w wr (rowT 3 1 v k (intsV ((sp.take k).map tokI)) :: blk Z (.cells (strsV sp).toArray 9) :: blk Y (.cells #[.int .i64 (arrowI ca), v] 61) :: blk X (.cells #[.int .i64 0, .slice none 0 0] 61) :: M))
    (fun i _ => sp.length - (intOf i).toNat)
  case atStart => exact ⟨0, .slice none 0 0, [], by omega, rfl, O4.out.pick [0, 1, 2, 4] (by rfl)⟩
  case round =>
    clear O4
    obtain ⟨k, v, M, hk, rfl, ok⟩ := hrel
    have Ok := Lib.hid ok
    clear ok
    by_cases hlt : k < sp.length
    · obtain ⟨x, hx⟩ : ∃ x, sp[k]? = some x := ⟨_, List.getElem?_eq_getElem hlt⟩
      have hik : (k : Int) < sp.length := by omega
      have hc : wr.cell? ⟨Z, k, none⟩ = some (.string (strO x)) := by
        rw [cell_of_heap (Ok.out.blk (i := 1) rfl)]; simp [strsV, hx]
      have Htk := Lib.hid (show intsV ((sp.take (k + 1)).map tokI) = intsV ((sp.take k).map tokI) ++ [.int .i64 (tokI x)] by rw [List.take_add_one, hx]; simp [intsV])
      have Hlt := Lib.hid hlt
      have hk6 : k ≤ 100001 := by have := Hsl.out; omega
      have HN := Lib.hid (fun (w' : World) (b : Nat) (h : w'.heap[b]? = some namesO) => names_index h x)
      clear hx hlt hk
      generalize intsV ((sp.take k).map tokI) = L at *
      generalize strO x = sx at *
      generalize tokI x = tx at *
      go_wp2_with fail
      refine (names_calls wr).mono ?_
      rintro e w5 ⟨rfl, b5⟩
      have O5 := Lib.hid ((Ok.out.call b5).alloc namesO)
      clear b5 Ok hc
      unfold namesV
      go_upto_region 7 with fail
      unfold namesO at O5 HN
      generalize w5.heap.size = B at *
      generalize w5.alloc (.cells #[.string ⟨#[63]⟩, .string ⟨#[101]⟩, .string ⟨#[115]⟩, .string ⟨#[101, 101]⟩, .string ⟨#[101, 115]⟩, .string ⟨#[115, 101]⟩, .string ⟨#[115, 115]⟩, .string ⟨#[112, 115, 107]⟩] 262) = W at *
      have y0 := cell_of_heap (o := 0) (O5.out.blk (i := 3) rfl)
      have y1 := cell_of_heap (o := 1) (O5.out.blk (i := 3) rfl)
      simp only [List.getElem?_toArray, List.getElem?_cons_zero, List.getElem?_cons_succ] at y0 y1
      have hbb : Below W.heap.size W W := Below.refl _ _
      have KS := Lib.hid (show ∀ w', Below W.heap.size W w' → (w'.cell? ⟨Y, 1, none⟩ = some v) from fun w' h => (h.cell (World.block_lt_of_cell? W _ y1)).trans y1)
      have HNN := Lib.hid (show ∀ w', Below W.heap.size W w' → Calls Tryz.prog 53 #[.slice (some ⟨B, 0, none⟩) 8 8, .string sx] w' (fun e w'' => e = .returned (.int .i64 tx) ∧ w'' = w') from fun w' h => HN.out w' B ((O5.out.call h).blk (i := 0) rfl))
      have oo := O5.out
      have y1a : (W.alloc (.cells #[.int .i64 tx] 3)).cell? ⟨Y, 1, none⟩ = some v := KS.out _ (belowAlloc hbb _)
      have y1b : (W.alloc (.cells #[.int .i64 tx] 3)).drew.cell? ⟨Y, 1, none⟩ = some v := y1a
      have lY := World.block_lt_of_cell? W _ y1
      go_region_law (first
        | (go_simp; go_at_call 53; with_reducible refine (HNN.out _ (by repeat (first | with_reducible assumption | with_reducible refine Below.drew ?_ | with_reducible refine belowAlloc ?_ _))).mono ?_; rintro e wa ⟨rfl, rfl⟩)
        | (have oc := (oo.alloc (.cells #[.int .i64 tx] 3)).drew
           refine step_ocat oc _ _ 29 rfl rfl 3 (.int .i64 0) 1 8 Tryz.underlying29 einfo_int5 rfl (by decide) v k L rfl 2 rfl (some ⟨_, 0, none⟩) 1 1 [.int .i64 tx] rfl (News.block (cs := [.int .i64 tx]) (oc.blk (i := 0) rfl) rfl) (by simp [Value.oneCell']) (by unfold maxLen; omega) (by omega) ?_
           intro v6 w6 o7
           obtain ⟨A6, c6, rfl⟩ := row_form5 (o7.row (i := 2) rfl)
           have z0 := cell_of_heap (o := 0) (o7.blk (i := 4) rfl)
           have z1 := cell_of_heap (o := 1) (o7.blk (i := 4) rfl)
           have f4 := fun o => frozen_of_heap (o := o) (o7.blk (i := 4) rfl)
           have l4 := lt_of_heap (o7.blk (i := 4) rfl)
           simp only [List.getElem?_toArray, List.getElem?_cons_zero, List.getElem?_cons_succ] at z0 z1)
        | (go_simp))
      all_goals
        have o8 := o7.store (i := 4) rfl ((Upd.refl (One Y) w6).setCell (fun _ => rfl) (.slice A6 (k + 1) c6)) (heap_setCell_at (o := 1) (o7.blk (i := 4) rfl) _)
        have O9 := Lib.hid o8
        clear o7 o8 oo y0 y1 hbb KS HNN O5 HN oc
        go_wp2_with fail
        go_roundw
      all_goals first
        | (have := Hlt.out; exact ⟨k + 1, _, M, by omega, by go_num, by rw [Htk.out]; exact O9.out.tail.tail⟩)
        | (have := Hlt.out; simp only [intOf]; omega)
    · obtain rfl : k = sp.length := by omega
      have ok := Ok.out
      rw [List.take_length] at ok
      obtain ⟨A, c, rfl⟩ := row_form5 (ok.row (i := 0) rfl)
      have hh : Holds wr A (intsV (sp.map tokI)) := by
        obtain ⟨A', c', e1, e2, -⟩ := holds_of_owns (ok.row (i := 0) rfl)
        cases e1; exact e2
      have nXY : Y ≠ X := ok.ne (i := 2) (j := 3) rfl rfl (by decide)
      have y0 := cell_of_heap (o := 0) (ok.blk (i := 2) rfl)
      have y1 := cell_of_heap (o := 1) (ok.blk (i := 2) rfl)
      simp only [List.getElem?_toArray, List.getElem?_cons_zero, List.getElem?_cons_succ] at y0 y1
      have hbw : Below wr.heap.size wr wr := Below.refl _ _
      have hub : Upd (One X) wr wr := Upd.refl _ _
      have KS := Lib.hid (show ∀ w', Upd (One X) wr w' → (w'.cell? ⟨Y, 0, none⟩ = some (.int .i64 (arrowI ca)) ∧ w'.cell? ⟨Y, 1, none⟩ = some (.slice A sp.length c)) from fun w' h => ⟨h.cell' y0 nXY, h.cell' y1 nXY⟩)
      have OK := Lib.hid ok
      have KZ := Lib.hid (show ∀ w', Below wr.heap.size wr w' → (w'.cell? ⟨X, 0, none⟩ = some (.int .i64 0) ∧ w'.cell? ⟨X, 1, none⟩ = some (.slice none 0 0) ∧ (∀ o, w'.frozen? ⟨X, o, none⟩ = false) ∧ X < w'.heap.size) from fun w' h => by
        have hz := (OK.out.call h).blk (i := 3) rfl
        exact ⟨cell_of_heap hz, cell_of_heap hz, fun o => frozen_of_heap hz, lt_of_heap hz⟩)
      have Hany := Lib.hid (show ∀ w', Below wr.heap.size wr w' → Calls Tryz.prog 114 #[.slice A sp.length c, .func (.func 173) #[] #[]] w' (fun e w'' => e = .returned (.bool ((sp.map tokI).any fun t => decide (t < 1))) ∧ Below w'.heap.size w' w'') from fun w' b => by
        have := anyBad_calls (l := sp.map tokI) c (hh.below b) (by rw [List.length_map]; have := Hsl.out; omega)
        rwa [List.length_map] at this)
      have Hrb := Lib.hid (show rowB ⟨arrowI ca, sp.map tokI⟩ = (decide (0 ≤ arrowI ca) && !(sp.map tokI).any fun t => decide (t < 1)) from rfl)
      have hsl : sp.length ≤ 100001 := Hsl.out
      clear hk hlt Ok ok hh y0 y1
      generalize ((sp.map tokI).any fun t => decide (t < 1)) = bad at *
      generalize hfr : arrowI ca = fr at *
      have Hfr := Lib.hid hfr
      clear hfr
      by_cases hf : 0 ≤ fr
      · have d0 : decide (0 ≤ fr) = true := decide_eq_true hf
        have Hr2 := Lib.hid (show rowB ⟨fr, sp.map tokI⟩ = !bad by rw [Hrb.out, d0]; rfl)
        clear hf
        obtain ⟨x0, x1, f0, l0⟩ := KZ.out _ hbw
        obtain ⟨y0, y1⟩ := KS.out _ hub
        go_upto_region 9 with fail
        go_region_held3 (fun w' => w'.cell? ⟨Y, 0, none⟩ = some (.int .i64 fr) ∧ w'.cell? ⟨Y, 1, none⟩ = some (.slice A sp.length c))
          (first | exact KS.out _ (by repeat (first | with_reducible assumption | with_reducible refine Upd.drew ?_ | with_reducible refine Upd.alloc ?_ _ | with_reducible refine Upd.setOne5 ?_)))
          (first
            | (go_at_call 114; with_reducible refine (Hany.out _ (by repeat (first | with_reducible assumption | with_reducible refine Below.drew ?_ | with_reducible refine belowAlloc ?_ _))).mono ?_; rintro e wa ⟨rfl, hba⟩
               have hxa : Below wr.heap.size wr wa := below_call (by repeat (first | with_reducible assumption | with_reducible refine Below.drew ?_ | with_reducible refine belowAlloc ?_ _)) hba
               have hxu : Upd (One X) wr wa := Upd.of_below5 hxa
               obtain ⟨z0, z1, f4, l4⟩ := KZ.out _ hxa))
        all_goals go_wp2_with fail
        all_goals
          have o8 := (OK.out.call hxa).setTwo (i := 3) rfl (.int .i64 fr) (.slice A sp.length c)
          have hfin := o8.blk (i := 3) rfl
          have hx := (OK.out.call hxa).blk (i := 3) rfl
          refine bodyPost_ret (v := .tuple #[.agg #[.int .i64 fr, .slice A sp.length c], .bool (!bad)]) (by simp [results, Tryz.results120, go_sem, cell_of_heap hfin]) rfl ?_
          refine ⟨.slice A sp.length c, by rw [Hfr.out, Hr2.out], ?_⟩
          rw [List.length_map]
          first | exact o8.pick [0] (by rfl) | exact o8.drew.pick [0] (by rfl)
      · have d0 : decide (0 ≤ fr) = false := decide_eq_false hf
        have Hr2 := Lib.hid (show rowB ⟨fr, sp.map tokI⟩ = false by rw [Hrb.out, d0]; rfl)
        clear hf
        obtain ⟨x0, x1, f0, l0⟩ := KZ.out _ hbw
        obtain ⟨y0, y1⟩ := KS.out _ hub
        go_upto_region 9 with fail
        first
          | (go_region_held3 (fun w' => w'.cell? ⟨Y, 0, none⟩ = some (.int .i64 fr) ∧ w'.cell? ⟨Y, 1, none⟩ = some (.slice A sp.length c))
          (first | exact KS.out _ (by repeat (first | with_reducible assumption | with_reducible refine Upd.drew ?_ | with_reducible refine Upd.alloc ?_ _ | with_reducible refine Upd.setOne5 ?_)))
          (first | (go_at_call 114; with_reducible refine (Hany.out _ (by repeat (first | with_reducible assumption | with_reducible refine Below.drew ?_ | with_reducible refine belowAlloc ?_ _))).mono ?_; rintro e wa ⟨rfl, hba⟩)))
          | fail
        all_goals go_wp2_with fail
        all_goals
          have o8 := OK.out.setTwo (i := 3) rfl (.int .i64 fr) (.slice A sp.length c)
          have hfin := o8.blk (i := 3) rfl
          have hx := OK.out.blk (i := 3) rfl
          refine bodyPost_ret (v := .tuple #[.agg #[.int .i64 fr, .slice A sp.length c], .bool false]) (by simp [results, Tryz.results120, go_sem, cell_of_heap hfin]) rfl ?_
          refine ⟨.slice A sp.length c, by rw [Hfr.out, Hr2.out], ?_⟩
          rw [List.length_map]
          first | exact o8.pick [0] (by rfl) | exact o8.drew.pick [0] (by rfl)
end Go.Proofs.YtikimmgileffgaaGreatDoor
end
/- The base patterns (layer 6): a text's tokens. -/
section
namespace Go.Proofs.YtikimmgileffgaaGreatDoor
open Go.RowKit

/-- What Fields reads of package-level variables. -/
structure EnvB (w : World) : Prop where
  str : EnvS w
  tab : Lib.TabIs Tryz.prog w "strings.asciiSpace" .u8 Lib.asciiSpaceTab
theorem gSp : ∃ g, Tryz.prog.globalNamed "strings.asciiSpace" = some g := by
  cases h : Tryz.prog.globalNamed "strings.asciiSpace" with
  | none => exact absurd h (by decide +kernel)
  | some g => exact ⟨g, rfl⟩
theorem EnvB.below {w w' : World} (h : EnvB w) (hb : Below w.heap.size w w') : EnvB w' := by
  obtain ⟨g1, h1⟩ := gSp
  exact ⟨h.str.below hb, Joins.tab_stays h1 h.tab hb (Nat.le_refl _)⟩
/-- The tokens up to j that a word names. -/
def hits (x : List UInt8) : Nat → List Int
  | 0 => []
  | j + 1 => hits x j ++ (if tokName (j + 1 : Nat) = x then [((j + 1 : Nat) : Int)] else [])
def toksB (s : List UInt8) : List Int := (Lib.fields s).flatMap fun x => hits x 7
theorem hits_len (x : List UInt8) (j : Nat) : (hits x j).length ≤ j := by
  induction j with
  | zero => simp [hits]
  | succ j ih => simp only [hits, List.length_append]; split <;> simp <;> omega
theorem toks_len (l : List (List UInt8)) : (l.flatMap fun x => hits x 7).length ≤ 7 * l.length := by
  induction l with
  | nil => simp
  | cons x l ih => have := hits_len x 7; rw [List.flatMap_cons, List.length_append, List.length_cons]; omega
def TokPost (s : List UInt8) (w : World) (e : Ending) (w' : World) : Prop := ∃ v, e = .returned v ∧ Own w w' [rowT 3 1 v (toksB s).length (intsV (toksB s))]
set_option maxHeartbeats 3200000 in
set_option maxRecDepth 100000 in
theorem tokens_calls (s : List UInt8) (w : World) (he : EnvB w) (hs : s.length ≤ 100000) (ha : ∀ b ∈ s, b.toNat < 128) (hf : (Lib.fields s).length ≤ 100000) : Calls Tryz.prog 56 #[.string (strO s)] w (TokPost s w) := by
  have HF := Lib.hid (Sh.strings_Fields (strO s) w (by rw [size_str]; omega) (fun j b hb => ha b (by rw [strO_data] at hb; exact List.mem_of_getElem? hb)) he.tab)
  rw [strO_data] at HF
  have Hto := Lib.hid (show toksB s = (Lib.fields s).flatMap fun x => hits x 7 from rfl)
  unfold TokPost
  rw [Hto.out]
  clear he hs ha Hto
  generalize Lib.fields s = F at *
  go_enter Tryz.func56, Tryz.ntmps56
  go_wp2_with fail
  refine HF.out.mono ?_
  rintro e w1 ⟨rfl, rfl⟩
  have O1 : Hid (Own w (w.alloc (.cells (F.map fun l => Value.string ⟨l.toArray⟩).toArray 9)) [rowT 3 1 (.slice none 0 0) 0 [], blk w.heap.size (.cells (strsV F).toArray 9 (0, 0))]) := Lib.hid (((Own.start w).alloc (.cells (F.map fun l => Value.string ⟨l.toArray⟩).toArray 9)).nilRow 3 1)
  clear HF
  generalize w.heap.size = Z at *
  generalize w.alloc (.cells (F.map fun l => Value.string ⟨l.toArray⟩).toArray 9) = W at *
  go_wp2_with fail
  go_loopw [3, 10] (fun v i wr => ∃ k : Nat, k ≤ F.length ∧ i = .int .i64 k ∧ Own w wr [rowT 3 1 v ((F.take k).flatMap fun x => hits x 7).length (intsV ((F.take k).flatMap fun x => hits x 7)), blk Z (.cells (strsV F).toArray 9 (0, 0))])
    (fun _ i _ => F.length - (intOf i).toNat)
  case atStart => exact ⟨0, by omega, rfl, O1.out⟩
  case round =>
    clear O1
    obtain ⟨k, hk, rfl, ok⟩ := hrel
    have Ok := Lib.hid ok
    clear ok
    by_cases hlt : k < F.length
    · obtain ⟨x, hx⟩ : ∃ x, F[k]? = some x := ⟨_, List.getElem?_eq_getElem hlt⟩
      have hik : (k : Int) < F.length := by omega
      have hc : wr.cell? ⟨Z, k, none⟩ = some (.string (strO x)) := by
        rw [cell_of_heap (Ok.out.blk (i := 1) rfl)]
        simp only [strsV, List.getElem?_toArray, List.getElem?_map, hx]; rfl
      have Htk := Lib.hid (show ((F.take (k + 1)).flatMap fun x => hits x 7) = ((F.take k).flatMap fun x => hits x 7) ++ hits x 7 by rw [List.take_add_one, hx, List.flatMap_append]; simp)
      have hl7 : ((F.take k).flatMap fun x => hits x 7).length ≤ 700000 := by have := toks_len (F.take k); rw [List.length_take] at this; omega
      have Hlt := Lib.hid hlt
      clear hx hlt hk
      generalize ((F.take k).flatMap fun x => hits x 7) = T at *
      go_wp2_with fail
      go_loopw [3, 6] (fun v i wr => ∃ j : Nat, j ≤ 7 ∧ i = .int .i64 ((j : Int) + 1) ∧ Own w wr [rowT 3 1 v (T ++ hits x j).length (intsV (T ++ hits x j)), blk Z (.cells (strsV F).toArray 9 (0, 0))])
        (fun _ i _ => 8 - (intOf i).toNat)
      case atStart => exact ⟨0, by omega, rfl, by simp only [hits, List.append_nil]; exact Ok.out⟩
      case round =>
        clear Ok hc
        obtain ⟨j, hj, rfl, oj⟩ := hrel
        have Oj := Lib.hid oj
        clear oj
        by_cases hj7 : j < 7
        · have d1 : decide ((j : Int) + 1 ≤ 7) = true := decide_eq_true (by omega)
          have hjl := hits_len x j
          have Hj := Lib.hid hj7
          have Hh := Lib.hid (show hits x (j + 1) = hits x j ++ (if tokName (j + 1 : Nat) = x then [((j + 1 : Nat) : Int)] else []) from rfl)
          have hj8 : (j : Int) + 1 ≤ 8 := by omega
          have HN := Lib.hid (name_calls ((j : Int) + 1) wr)
          have hbt : ((strO (tokName ((j : Int) + 1))).toList == (strO x).toList) = decide (tokName ((j + 1 : Nat) : Int) = x) := by rw [← beq_toListBytes, strO_eq]; rfl
          clear hj hj7
          go_wp2_with fail
          refine HN.out.mono ?_
          rintro e w4 ⟨rfl, b4⟩
          have O4 := Lib.hid (Oj.out.call b4)
          clear Oj HN b4
          by_cases ht : tokName ((j + 1 : Nat) : Int) = x
          · rw [decide_eq_true ht] at hbt
            have Hh2 := Lib.hid (show intsV (T ++ hits x (j + 1)) = intsV (T ++ hits x j) ++ [.int .i64 ((j : Int) + 1)] by rw [Hh.out, if_pos ht]; simp [intsV])
            have Hh3 := Lib.hid (show (T ++ hits x (j + 1)).length = (T ++ hits x j).length + 1 by rw [Hh.out, if_pos ht]; simp; omega)
            have hll : (T ++ hits x j).length ≤ 800000 := by rw [List.length_append]; omega
            have o5 := O4.out.alloc (.cells #[.int .i64 ((j : Int) + 1)] 3)
            clear ht Hh
            generalize intsV (T ++ hits x j) = LL at *
            generalize (T ++ hits x j).length = nn at *
            go_wp2_with (at_builtin; go_loud (refine wpList_ocat o5 rfl (.tmp 22) (.tmp 24) 29 rfl 3 (.int .i64 0) 1 8 Tryz.underlying29 einfo_int5 rfl (by decide) u3 nn LL rfl 1 rfl (some ⟨w4.heap.size, 0, none⟩) 1 1 [.int .i64 ((j : Int) + 1)] rfl (News.block (cs := [.int .i64 ((j : Int) + 1)]) (new_at rfl) rfl) (by simp [Value.oneCell']) (by unfold maxLen; omega) (by omega) ?_))
            intro v6 w6 o7
            have O7 := Lib.hid o7.tail
            clear o5 o7 O4
            go_wp2_with fail
            go_roundw
            case rel => have := Hj.out; exact ⟨j + 1, by omega, by go_num, by rw [Hh2.out, Hh3.out]; exact O7.out⟩
            case measure => have := Hj.out; simp only [intOf]; omega
          · rw [decide_eq_false ht] at hbt
            have Hh2 := Lib.hid (show hits x (j + 1) = hits x j by rw [Hh.out, if_neg ht, List.append_nil])
            clear ht Hh
            go_wp2_with fail
            go_roundw
            case rel => have := Hj.out; exact ⟨j + 1, by omega, by go_num, by rw [Hh2.out]; exact O4.out⟩
            case measure => have := Hj.out; simp only [intOf]; omega
        · obtain rfl : j = 7 := by omega
          clear hj hj7
          go_wp2_with fail
          go_roundw
          case rel => have := Hlt.out; exact ⟨k + 1, by omega, by go_num, by rw [Htk.out]; exact Oj.out⟩
          case measure => have := Hlt.out; simp only [intOf]; omega
    · obtain rfl : k = F.length := by omega
      have ok := Ok.out
      rw [List.take_length] at ok
      have OK := Lib.hid ok
      clear hk hlt Ok ok
      go_wp2_with fail
      go_ret
      exact ⟨_, rfl, OK.out.pick [0] (by rfl)⟩
end Go.Proofs.YtikimmgileffgaaGreatDoor
end
