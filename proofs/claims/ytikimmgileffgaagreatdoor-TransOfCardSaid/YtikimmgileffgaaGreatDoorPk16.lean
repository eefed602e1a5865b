/- Packed for this claim by packm.py: ValC, ParL2, PatO. -/
import Derived.Test.YtikimmgileffgaaGreatDoorPk15
import Derived.Test.YtikimmgileffgaaGreatDoorPk05
import Derived.Test.YtikimmgileffgaaGreatDoorPk04
/- The rules of patterns (layer 7): Check. Printed by s_valid5.py. -/
section
namespace Go.Proofs.YtikimmgileffgaaGreatDoor
open Go.RowKit
set_option warningAsError false in
set_option maxRecDepth 100000 in
set_option maxHeartbeats 4000000 in
theorem checkE {w : World} {A0 A1 A : Option Addr} {c0 c1 c : Nat} {p : Pat} {r k e : Int} (hp : PatIn w (Old w) (pvx A0 c0 A1 c1 A c p) p) (hp0 : Holds w A0 (intsV p.pre0)) (hp1 : Holds w A1 (intsV p.pre1)) (hfit : PatFits p) (hf : checkV p = (r, k, e)) :
    Calls Tryz.prog 94 #[.agg #[.string (strO p.name), .slice A0 p.pre0.length c0, .slice A1 p.pre1.length c1, .slice A p.msgs.length c]] w fun e' w' => e' = .returned (.tuple #[.int .i64 r, .int .i64 k, .int .i64 e]) ∧ Below w.heap.size w w' := by
 have O0 := Own.start w
 replace O0 : Own w w (List.map Ent.t []) := O0
 refine gent O0 Tryz.func94 ?_
 refine sg1 [.n [], .p 3, .a (.r 0)] O0 fun b1 w2 O3 => ?_
 obtain ⟨is4, hm5⟩ : ∃ b, rightP p = b := ⟨_, rfl⟩
 refine gU (args := #[.agg #[.string (strO p.name), .slice A0 p.pre0.length c0, .slice A1 p.pre1.length c1, .slice A p.msgs.length c]]) (rightE O3 hp hfit hm5) fun w6 O7 => ?_
 rcases Bool.eq_false_or_eq_true (is4) with h9 | h9
 · have hr : rightP p = true := hm5.trans h9
   obtain ⟨hnm, htold0, htold1, hma, hmz, hms⟩ := right_facts hr
   have hne : p.msgs ≠ [] := fun h => by rw [h] at hma; simp at hma
   refine sg0 [.a (bN h9), .p 1, .a (.r 0)] O7 fun w10 O11 => ?_
   refine gB O11 (args := #[.agg #[.string (strO p.name), .slice A0 p.pre0.length c0, .slice A1 p.pre1.length c1, .slice A p.msgs.length c]]) (beginVE (hp.below O11.below) (hp0.below O11.below) (hp1.below O11.below) hr) fun w12 O13 => ?_
   refine sg1 [.n [], .s 0 [], .p 1, .a (.r 1), .p 2] O13 fun b15 w16 O17 => ?_
   refine gl (fun (zz : Nat × Int × (Nat → Bool)) => match zz with | (k, last, f2) => [(1, .pointer (some ⟨b1, 0, none⟩)), (2, .int .i64 0), (3, .int .i64 0), (4, .int .i64 0), (5, .pointer (some ⟨b15, 0, none⟩)), (16, .slice A p.msgs.length c), (17, .int .i64 (p.msgs.length : Int)), (18, .int .i64 (k : Int))]) (fun (zz : Nat × Int × (Nat → Bool)) => match zz with | (k, last, f2) => [.blk b15 (.cells #[.bool (f2 0), .bool (f2 1), .bool (f2 2), .bool (f2 3), .bool (f2 4), .bool (f2 5), .bool (f2 6), .bool (f2 7), .bool (f2 8), .bool (f2 9), .bool (f2 10), .bool (f2 11), .bool (f2 12), .bool (f2 13), .bool (f2 14), .bool (f2 15)] 256), .blk b1 (.cells #[.string (strO p.name), .slice A0 p.pre0.length c0, .slice A1 p.pre1.length c1, .slice A p.msgs.length c] 33)]) (fun (zz : Nat × Int × (Nat → Bool)) w => match zz with | (k, last, f2) => k ≤ p.msgs.length ∧ roundsV k last (p.msgs.drop k) f2 = roundsV 0 0 p.msgs (beginV p) ∧ (∀ m', 0 < k → p.msgs[k - 1]? = some m' → m'.frm = last)) (fun (zz : Nat × Int × (Nat → Bool)) => match zz with | (k, last, f2) => p.msgs.length - k) (0, 0, beginV p) (O17.as 0) ⟨(Nat.zero_le _), rfl, (fun _ h => absurd h (by decide))⟩ ?_
   rintro M20 ⟨k, last, f2⟩ w18 hM21 O19 ⟨hk, hq, hlast⟩
   rcases Bool.eq_false_or_eq_true (decide ((k : Int) < (p.msgs.length : Int))) with h22 | h22
   · have h22p : ((k : Int) < (p.msgs.length : Int)) := by simpa only [decide_eq_true_eq, decide_eq_false_iff_not] using h22
     have hk : k + 1 ≤ p.msgs.length := by have := h22p; omega
     obtain ⟨m, hm⟩ : ∃ m, p.msgs[k]? = some m := ⟨_, List.getElem?_eq_getElem hk⟩
     obtain ⟨mb, mq, B, d, hA, hB, hcell⟩ := msg_at hp.msgs hm
     have hmf := hms m (List.mem_of_getElem? hm)
     have hdrop := drop_at hm
     refine sg0 [.a (bT h22), .p 2, .a (.i _ mb mq p.msgs.length k hA hk)] O19 fun w23 O24 => ?_
     refine gx [.cell mb (mq + k * 2) (.int .i64 m.frm), .cell mb (mq + k * 2 + 1) (.slice B m.t.length d)] O24 ⟨(hcell _ O24.below).1, (hcell _ O24.below).2, trivial⟩ fun O25 => ?_
     refine sg1 [.a (.l [0, 1]), .n [], .p 1, .s 0 []] O25 fun b26 w27 O28 => ?_
     rcases Bool.eq_false_or_eq_true (decide ((k : Int) > 0)) with h29 | h29
     · have h29p : (0 < (k : Int)) := by simpa only [decide_eq_true_eq, decide_eq_false_iff_not] using h29
       have h29k : 0 < k := by omega
       obtain ⟨ml, hml⟩ : ∃ m, p.msgs[k - 1]? = some m := ⟨_, List.getElem?_eq_getElem (by omega)⟩
       obtain ⟨lb, lq, LB, ld, hlA, hlB, hlcell⟩ := msg_at hp.msgs hml
       have hlf := hlast ml h29k hml
       refine gx [.cell lb (lq + (k - 1) * 2) (.int .i64 ml.frm), .cell lb (lq + (k - 1) * 2) (.int .i64 ml.frm)] O28 ⟨(hlcell _ O28.below).1, (hlcell _ O28.below).1, trivial⟩ fun O30 => ?_
       refine sg0 [.d [0, 2], .qs [0], .q 1 (bT h29), .qs [2, 3], .q 4 (.r 1), .qs [5], .q 6 (.v (.int .i64 (IntKind.i64.wrap ((k : Int) - 1))) (.int .i64 ((k - 1 : Nat) : Int)) (congrArg (Value.int .i64) (by rw [i64_id (by omega) (by omega)]; omega))), .q 7 (.i _ lb lq p.msgs.length (k - 1) hlA (by omega)), .qs [8], .q 9 (.r 2), .qs [10], .q 11 (.r 0)] O30 fun w31 O32 => ?_
       rcases Bool.eq_false_or_eq_true (ml.frm == m.frm) with h33 | h33
       · have h33p : ml.frm = m.frm := by simpa using h33
         refine sg0 [.q 12 (bT h33), .qs [13], .z, .p 5] O32 fun w34 O35 => ?_
         first | (exfalso; omega) | (simp [checkV, hm5, h9, h22p, ← hq, hdrop, roundsV, h29p, h29k, ← hlf, h33p] at hf; obtain ⟨rfl, rfl, rfl⟩ := hf; exact gret [] O35 ⟨rfl, O35.below⟩)
       · have h33p : ¬ ml.frm = m.frm := by simpa using h33
         refine sg0 [.q 12 (bT h33), .qs [13], .z, .p 1, .a (.r 2)] O32 fun w36 O37 => ?_
         obtain ⟨e38, f39, hm40⟩ : ∃ e38 f39, msgV m.frm.toNat m.t f2 = (e38, f39) := ⟨_, _, rfl⟩
         refine gSb (args := #[.pointer (some ⟨b15, 0, none⟩), .agg #[.int .i64 m.frm, .slice B m.t.length d]]) (messageE O37 1 (by kernel_rfl) hB hmf.1 hmf.2.2.2 (by have := hmf.2.2.1; omega) hm40) fun w41 O42 => ?_
         refine sg0 [.p 2] O42 fun w44 O45 => ?_
         rcases Bool.eq_false_or_eq_true (decide (e38 > 0)) with h46 | h46
         · have h46p : (0 < e38) := by simpa only [decide_eq_true_eq, decide_eq_false_iff_not] using h46
           refine sg0 [.a (bT h46), .p 6] O45 fun w47 O48 => ?_
           first | (exfalso; omega) | (simp [checkV, hm5, h9, h22p, ← hq, hdrop, roundsV, h29p, h29k, ← hlf, h33p, hm40, h46p] at hf; obtain ⟨rfl, rfl, rfl⟩ := hf; exact gret [] O48 ⟨rfl, O48.below⟩)
         · have h46p : ¬ (0 < e38) := by simpa only [decide_eq_true_eq, decide_eq_false_iff_not] using h46
           refine sg0 [.a (bT h46), .p 1, .a (iW ((k : Int) + 1)), .p 1] O45 fun w49 O50 => ?_
           exact gz _ fun a F => hM21 a _ (k + 1, m.frm, f39) F (O50.as 1) ⟨hk, (by rw [← hq, hdrop, ← hlf]; simp [roundsV, hm5, h9, h22p, h29p, h29k, h33p, hm40, h46p]), (fun m' _ hm' => by rw [Nat.add_sub_cancel, hm] at hm'; cases hm'; rfl)⟩ (show p.msgs.length - (k + 1) < p.msgs.length - k by omega)
     · have h29p : ¬ (0 < (k : Int)) := by simpa only [decide_eq_true_eq, decide_eq_false_iff_not] using h29
       have h29k : ¬ 0 < k := by omega
       refine sg0 [.d [0, 2], .qs [0], .q 1 (bT h29), .qs [2, 3, 4, 5, 6, 7, 8, 9, 10, 11, 12, 13], .z, .p 1, .a (.r 0)] O28 fun w51 O52 => ?_
       obtain ⟨e53, f54, hm55⟩ : ∃ e53 f54, msgV m.frm.toNat m.t f2 = (e53, f54) := ⟨_, _, rfl⟩
       refine gSb (args := #[.pointer (some ⟨b15, 0, none⟩), .agg #[.int .i64 m.frm, .slice B m.t.length d]]) (messageE O52 1 (by kernel_rfl) hB hmf.1 hmf.2.2.2 (by have := hmf.2.2.1; omega) hm55) fun w56 O57 => ?_
       refine sg0 [.p 2] O57 fun w59 O60 => ?_
       rcases Bool.eq_false_or_eq_true (decide (e53 > 0)) with h61 | h61
       · have h61p : (0 < e53) := by simpa only [decide_eq_true_eq, decide_eq_false_iff_not] using h61
         refine sg0 [.a (bT h61), .p 6] O60 fun w62 O63 => ?_
         first | (exfalso; omega) | (simp [checkV, hm5, h9, h22p, ← hq, hdrop, roundsV, h29p, h29k, hm55, h61p] at hf; obtain ⟨rfl, rfl, rfl⟩ := hf; exact gret [] O63 ⟨rfl, O63.below⟩)
       · have h61p : ¬ (0 < e53) := by simpa only [decide_eq_true_eq, decide_eq_false_iff_not] using h61
         refine sg0 [.a (bT h61), .p 1, .a (iW ((k : Int) + 1)), .p 1] O60 fun w64 O65 => ?_
         exact gz _ fun a F => hM21 a _ (k + 1, m.frm, f54) F (O65.as 1) ⟨hk, (by rw [← hq, hdrop]; simp [roundsV, hm5, h9, h22p, h29p, h29k, hm55, h61p]), (fun m' _ hm' => by rw [Nat.add_sub_cancel, hm] at hm'; cases hm'; rfl)⟩ (show p.msgs.length - (k + 1) < p.msgs.length - k by omega)
   · have h22p : ¬ ((k : Int) < (p.msgs.length : Int)) := by simpa only [decide_eq_true_eq, decide_eq_false_iff_not] using h22
     have hq2 : roundsV 0 0 p.msgs (beginV p) = (0, 0, f2) := by rw [← hq, List.drop_eq_nil_of_le (by have := h22p; omega)]; rfl
     refine sg0 [.a (bT h22), .p 1, .a (.r 1)] O19 fun w66 O67 => ?_
     refine gU (args := #[.pointer (some ⟨b15, 0, none⟩), .agg #[.string (strO p.name), .slice A0 p.pre0.length c0, .slice A1 p.pre1.length c1, .slice A p.msgs.length c]]) (endE (f := f2) O67 0 (by kernel_rfl) hp hne) fun w68 O69 => ?_
     refine sg0 [.p 2] O69 fun w71 O72 => ?_
     rcases Bool.eq_false_or_eq_true (decide ((endV p f2) > 0)) with h73 | h73
     · have h73p : (0 < (endV p f2)) := by simpa only [decide_eq_true_eq, decide_eq_false_iff_not] using h73
       refine sg0 [.a (bT h73), .p 1, .d [1], .qs [0, 1], .q 2 (.r 0), .qs [3, 4, 5, 6], .z] O72 fun w74 O75 => ?_
       first | (exfalso; omega) | (simp [checkV, hm5, h9, h22p, hq2, h73p] at hf; obtain ⟨rfl, rfl, rfl⟩ := hf; exact gret [] O75 ⟨rfl, O75.below⟩)
     · have h73p : ¬ (0 < (endV p f2)) := by simpa only [decide_eq_true_eq, decide_eq_false_iff_not] using h73
       refine sg0 [.a (bT h73), .p 4] O72 fun w76 O77 => ?_
       first | (exfalso; omega) | (simp [checkV, hm5, h9, h22p, hq2, h73p] at hf; obtain ⟨rfl, rfl, rfl⟩ := hf; exact gret [] O77 ⟨rfl, O77.below⟩)
 · refine sg0 [.a (bN h9), .p 4] O7 fun w78 O79 => ?_
   first | (exfalso; omega) | (simp [checkV, hm5, h9] at hf; obtain ⟨rfl, rfl, rfl⟩ := hf; exact gret [] O79 ⟨rfl, O79.below⟩)
end Go.Proofs.YtikimmgileffgaaGreatDoor
end
/- What Parse makes of what Print has written: the pattern itself (layer 5). No program in sight. -/
section
namespace Go.Proofs.YtikimmgileffgaaGreatDoor
open Go.RowKit

structure PS where
  behind : Bool
  pre0 : List Int
  pre1 : List Int
  msgs : List Msg
def stepP (s : PS) (r : List UInt8) : PS :=
  if r = [46, 46, 46] then { s with behind := true }
  else if rowB (rowM r) = false then s
  else if s.behind = true then { s with msgs := s.msgs ++ [rowM r] }
  else if (rowM r).frm = 0 then { s with pre0 := (rowM r).t } else { s with pre1 := (rowM r).t }
theorem bareT_ne (who : Nat) (t : List Int) : bareT who t ≠ [46, 46, 46] := by
  unfold bareT arrowT; intro h; split at h <;> simp at h
theorem step_bare {s : PS} {who : Nat} {t : List Int} (hw : who ≤ 1) (h1 : t ≠ []) (ht : ∀ x ∈ t, 1 ≤ x ∧ x ≤ 7) :
    stepP s (bareT who t) = if s.behind = true then { s with msgs := s.msgs ++ [⟨who, t⟩] } else if who = 0 then { s with pre0 := t } else { s with pre1 := t } := by
  unfold stepP
  rw [if_neg (bareT_ne who t), row_bare hw h1 ht, rowB_bare ht, if_neg (by simp)]
  have : ((who : Int) = 0) ↔ who = 0 := by omega
  simp only [this]
theorem step_dots (s : PS) : stepP s [46, 46, 46] = { s with behind := true } := by unfold stepP; rw [if_pos rfl]
theorem step_end (s : PS) : stepP s [] = s := by unfold stepP; rw [if_neg (by simp), if_pos row_empty]
theorem told_tok {l : List Int} (h : toldB l = true) : ∀ x ∈ l, 1 ≤ x ∧ x ≤ 7 := by
  simp only [toldB, Bool.or_eq_true, decide_eq_true_eq] at h
  rcases h with ((h | h) | h) | h <;> subst h <;> simp
theorem fold_msgs : ∀ (l : List Msg) (a b : List Int) (ms : List Msg), (∀ m ∈ l, 0 ≤ m.frm ∧ m.frm ≤ 1) → (∀ m ∈ l, m.t ≠ []) → (∀ m ∈ l, ∀ t ∈ m.t, 1 ≤ t ∧ t ≤ 7) →
    (l.map fun m => bareT m.frm.toNat m.t).foldl stepP ⟨true, a, b, ms⟩ = ⟨true, a, b, ms ++ l⟩
  | [], _, _, ms, _, _, _ => by simp
  | m :: l, a, b, ms, h1, h2, h3 => by
    have hf := h1 m List.mem_cons_self
    have e : ((m.frm.toNat : Nat) : Int) = m.frm := by omega
    rw [List.map_cons, List.foldl_cons, step_bare (by omega) (h2 m List.mem_cons_self) (h3 m List.mem_cons_self), if_pos rfl]
    have em : (⟨(m.frm.toNat : Int), m.t⟩ : Msg) = m := by rw [e]
    dsimp only
    rw [em, fold_msgs l a b (ms ++ [m]) (fun x hx => h1 x (List.mem_cons_of_mem _ hx)) (fun x hx => h2 x (List.mem_cons_of_mem _ hx)) (fun x hx => h3 x (List.mem_cons_of_mem _ hx))]
    simp
theorem fold_told {p : Pat} (h : RightP p) (hn : toldR p ≠ []) : (toldR p).foldl stepP ⟨false, [], [], []⟩ = ⟨false, p.pre0, p.pre1, []⟩ := by
  unfold toldR
  by_cases h0 : p.pre0 = []
  · by_cases h1 : p.pre1 = []
    · exact absurd (by unfold toldR; rw [if_pos h0, if_pos h1]; rfl) hn
    · rw [if_pos h0, if_neg h1, List.nil_append, List.foldl_cons, step_bare (by decide) h1 (told_tok h.pre1), h0]
      simp
  · by_cases h1 : p.pre1 = []
    · rw [if_neg h0, if_pos h1, List.append_nil, List.foldl_cons, step_bare (by decide) h0 (told_tok h.pre0), h1]
      simp
    · rw [if_neg h0, if_neg h1]
      simp only [List.cons_append, List.nil_append, List.foldl_cons, List.foldl_nil]
      rw [step_bare (by decide) h0 (told_tok h.pre0), step_bare (by decide) h1 (told_tok h.pre1)]
      simp
theorem told_nil {p : Pat} (hn : toldR p = []) : p.pre0 = [] ∧ p.pre1 = [] := by
  unfold toldR at hn
  rw [List.append_eq_nil_iff] at hn
  refine ⟨Classical.byContradiction fun hc => ?_, Classical.byContradiction fun hc => ?_⟩
  · have := hn.1; rw [if_neg hc] at this; cases this
  · have := hn.2; rw [if_neg hc] at this; cases this
theorem fold_rows {p : Pat} (h : RightP p) : (rowsP p ++ [[]]).foldl stepP ⟨decide (toldR p = []), [], [], []⟩ = ⟨true, p.pre0, p.pre1, p.msgs⟩ := by
  have hm := fun a b => fold_msgs p.msgs a b [] h.frm (fun m hm e => by have := (h.t1 m hm).1; rw [e] at this; simp at this) h.tok
  rw [List.foldl_append, List.foldl_cons, List.foldl_nil, step_end]
  unfold rowsP
  rw [List.foldl_append, List.foldl_append]
  by_cases hn : toldR p = []
  · obtain ⟨h0, h1⟩ := told_nil hn
    rw [hn, if_pos rfl, h0, h1]
    simp only [List.foldl_nil, decide_true]
    rw [hm]; rfl
  · rw [if_neg hn, decide_eq_false hn, fold_told h hn, List.foldl_cons, List.foldl_nil, step_dots]
    rw [hm]; rfl
/-- Whether a text has the row of dots. -/
theorem dots_in {p : Pat} (h : p.name.all okB = true) : ([46, 46, 46] : List UInt8) ∈ ((p.name ++ [58]) :: (rowsP p ++ [[]])) ↔ toldR p ≠ [] := by
  constructor
  · intro hm hn
    rcases List.mem_cons.1 hm with e | hm
    · have h46 : (46 : UInt8) ∈ p.name ++ [58] := by rw [← e]; simp
      rcases List.mem_append.1 h46 with h46 | h46
      · exact okB_no h 46 (by decide) h46
      · simp at h46
    · rcases List.mem_append.1 hm with hm | hm
      · unfold rowsP at hm
        rw [hn, if_pos rfl] at hm
        obtain ⟨m, _, e⟩ := List.mem_map.1 hm
        exact bareT_ne _ _ e
      · simp at hm
  · intro hn
    refine List.mem_cons_of_mem _ (List.mem_append_left _ ?_)
    unfold rowsP
    rw [if_neg hn]
    simp
end Go.Proofs.YtikimmgileffgaaGreatDoor
end
/- Rows of ints, and a pattern, among the things that a call has made (layer 5). No program in sight but the types' numbers. -/
section
namespace Go.Proofs.YtikimmgileffgaaGreatDoor
open Go.RowKit

theorem Own.merge {w0 w : World} {P Q R : Thing} {M : List Thing} (h : Own w0 w (P :: Q :: M)) (hm : ∀ S T, P.P w S → Q.P w T → R.P w (fun b => S b ∨ T b)) : Own w0 w (R :: M) := by
  obtain ⟨hb, f, h1, h2, h3⟩ := h
  let g : Nat → Nat → Prop := fun i => match i with | 0 => fun b => f 0 b ∨ f 1 b | i + 1 => f (i + 2)
  refine ⟨hb, g, ?_, ?_, ?_⟩
  · intro i X hi
    match i, hi with
    | 0, hi => cases hi; exact hm _ _ (h1 0 P rfl) (h1 1 Q rfl)
    | i + 1, hi => exact h1 (i + 2) X hi
  · intro i j b hi hj hfi hfj
    simp only [List.length_cons] at hi hj h2
    match i, j, hi, hj, hfi, hfj with
    | 0, 0, _, _, _, _ => rfl
    | 0, j + 1, _, hj, hfi, hfj =>
      rcases hfi with hfi | hfi
      · have := h2 0 (j + 2) b (by omega) (by omega) hfi hfj; omega
      · have := h2 1 (j + 2) b (by omega) (by omega) hfi hfj; omega
    | i + 1, 0, hi, _, hfi, hfj =>
      rcases hfj with hfj | hfj
      · have := h2 (i + 2) 0 b (by omega) (by omega) hfi hfj; omega
      · have := h2 (i + 2) 1 b (by omega) (by omega) hfi hfj; omega
    | i + 1, j + 1, hi, hj, hfi, hfj => have := h2 (i + 2) (j + 2) b (by omega) (by omega) hfi hfj; omega
  · intro i b hi hfi
    simp only [List.length_cons] at hi h3
    match i, hi, hfi with
    | 0, _, hfi =>
      rcases hfi with hfi | hfi
      · exact h3 0 b (by omega) hfi
      · exact h3 1 b (by omega) hfi
    | i + 1, hi, hfi => exact h3 (i + 2) b (by omega) hfi
/-- Rows of ints, that nobody writes any more. -/
def slicesT (vs : List (Value × List Int)) : Thing where
  P w S := (∀ x, x ∈ vs → IntsIn w S x.1 x.2) ∧ ∀ b, S b → b < w.heap.size
  lt _ _ h := h.2
  keep _ _ _ _ h u hd := ⟨fun x hx => (h.1 x hx).keep u hd, fun b hb => Nat.lt_of_lt_of_le (h.2 b hb) u.size⟩
theorem intsIn_row {w : World} {S : Nat → Prop} {v : Value} {t : List Int} (h : (rowT 3 1 v t.length (intsV t)).P w S) : IntsIn w S v t := by
  obtain ⟨h1, h2⟩ := h
  obtain ⟨A, c, e1, e2, -⟩ := holds_of_owns h1
  refine ⟨A, c, e1, e2, fun _ a ha => ?_⟩
  rw [h2, e1, ha]; rfl
theorem IntsIn.or {w : World} {S T : Nat → Prop} {v : Value} {l : List Int} (h : IntsIn w S v l) : IntsIn w (fun b => S b ∨ T b) v l := h.mono fun _ hb => .inl hb
theorem IntsIn.or' {w : World} {S T : Nat → Prop} {v : Value} {l : List Int} (h : IntsIn w T v l) : IntsIn w (fun b => S b ∨ T b) v l := h.mono fun _ hb => .inr hb
theorem intsIn_nil (w : World) (S : Nat → Prop) : IntsIn w S (.slice none 0 0) [] := ⟨none, 0, rfl, .inl rfl, fun h => absurd rfl h⟩
theorem Own.newSlices {w0 w : World} {M : List Thing} (h : Own w0 w M) : Own w0 w (slicesT [(.slice none 0 0, [])] :: M) :=
  h.new (Below.refl _ _) (Q := slicesT [(.slice none 0 0, [])]) (S := fun _ => False) ⟨fun x hx => by obtain rfl := List.mem_singleton.1 hx; exact intsIn_nil w _, fun b hb => hb.elim⟩ (fun b hb => hb.elim)
/-- A row put beside the others. -/
theorem Own.slice {w0 w : World} {v : Value} {t : List Int} {vs : List (Value × List Int)} {M : List Thing} (h : Own w0 w (rowT 3 1 v t.length (intsV t) :: slicesT vs :: M)) : Own w0 w (slicesT ((v, t) :: vs) :: M) :=
  h.merge fun S T hS hT => ⟨fun x hx => by
    rcases List.mem_cons.1 hx with rfl | hx
    · exact (intsIn_row hS).or
    · exact (hT.1 x hx).or', fun b hb => hb.elim ((rowT 3 1 v t.length (intsV t)).lt _ _ hS b) (hT.2 b)⟩
/-- The cells of a row of messages. -/
def msgCells (mv : List (Msg × Value)) : List Value := mv.flatMap fun x => [.int .i64 x.1.frm, x.2]
theorem msgCells_at : ∀ (mv : List (Msg × Value)) (i : Nat) (x : Msg × Value), mv[i]? = some x → (msgCells mv)[i * 2]? = some (.int .i64 x.1.frm) ∧ (msgCells mv)[i * 2 + 1]? = some x.2
  | [], i, x, h => by cases h
  | y :: mv, 0, x, h => by cases h; exact ⟨rfl, rfl⟩
  | y :: mv, i + 1, x, h => by
    have h1 := msgCells_at mv i x h
    have e : msgCells (y :: mv) = .int .i64 y.1.frm :: y.2 :: msgCells mv := rfl
    rw [e, show (i + 1) * 2 = i * 2 + 1 + 1 by omega]
    exact h1
theorem row_holds {w : World} {e : TypeId} {size n : Nat} {A : Option Addr} {c : Nat} {xs : List Value} (h : w.ownsRow 0 e size (.slice A n c) n xs) (hx : xs ≠ []) : ∃ g, A = some ⟨g, 0, none⟩ ∧ ∀ i v, xs[i]? = some v → w.cell? ⟨g, i, none⟩ = some v := by
  rcases h.2 with ⟨h2, h3⟩ | ⟨g, cap, cur, h2, _, hg, hnc, _, hcs, ht⟩
  · have := h.1; rw [h3] at this; exact absurd (List.eq_nil_of_length_eq_zero (by simpa using this)) hx
  · cases h2
    refine ⟨g, rfl, fun i v hi => ?_⟩
    rw [cell_of_heap hg]
    rw [← ht, List.getElem?_take] at hi
    split at hi
    · rw [← Array.getElem?_toList]; exact hi
    · cases hi
/-- A pattern's parts are a pattern. -/
theorem Own.pattern {w0 w : World} {p : Pat} {v0 v1 : Value} {A : Option Addr} {c : Nat} {mv : List (Msg × Value)} {vs : List (Value × List Int)} {M : List Thing}
    (h : Own w0 w (rowT 61 2 (.slice A mv.length c) mv.length (msgCells mv) :: slicesT vs :: M)) (h0 : (v0, p.pre0) ∈ vs) (h1 : (v1, p.pre1) ∈ vs) (hm : mv.map (·.1) = p.msgs) (hv : ∀ x ∈ mv, (x.2, x.1.t) ∈ vs) :
    Own w0 w (patT ⟨v0, v1, A, c⟩ p :: M) := by
  refine h.merge fun S T hS hT => ⟨⟨(hT.1 _ h0).or', (hT.1 _ h1).or', ?_⟩, fun b hb => hb.elim ((rowT 61 2 (.slice A mv.length c) mv.length (msgCells mv)).lt _ _ hS b) (hT.2 b)⟩
  by_cases hn : mv = []
  · left; rw [← hm, hn]; rfl
  · obtain ⟨y, hy⟩ : ∃ y, mv[0]? = some y := ⟨_, List.getElem?_eq_getElem (List.length_pos_iff.2 hn)⟩
    obtain ⟨g, hA, hc⟩ := row_holds hS.1 (fun e => by have := (msgCells_at mv 0 y hy).1; rw [e] at this; cases this)
    subst hA
    refine .inr ⟨g, 0, rfl, .inl ((hS.2 g).2 rfl), fun i m hi => ?_⟩
    rw [← hm, List.getElem?_map] at hi
    cases hx : mv[i]? with
    | none => rw [hx] at hi; cases hi
    | some x =>
      rw [hx] at hi; cases hi
      have h2 := msgCells_at mv i x hx
      rw [Nat.zero_add]
      exact ⟨hc _ _ h2.1, x.2, hc _ _ h2.2, (hT.1 _ (hv x (List.mem_of_getElem? hx))).or'⟩
theorem Own.pat {w0 w : World} {L : List Thing} {i : Nat} {x : PatV} {p : Pat} (h : Own w0 w L) (hi : L[i]? = some (patT x p)) : PatIn w (Old w) x p := by
  obtain ⟨S, h1, _⟩ := h.at hi
  exact h1.1.mono h1.2
end Go.Proofs.YtikimmgileffgaaGreatDoor
end
