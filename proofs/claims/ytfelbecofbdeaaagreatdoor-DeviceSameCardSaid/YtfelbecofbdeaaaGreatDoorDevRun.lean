/- A device and the law's row of peers go together: each call tells the same. No program in sight. -/
import Derived.Test.YtfelbecofbdeaaaGreatDoorDev
import Derived.Test.YtfelbecofbdeaaaGreatDoorPeers
import Derived.Test.YtfelbecofbdeaaaGreatDoorOpen
import Derived.OwnWalk
namespace Go.Proofs.YtfelbecofbdeaaaGreatDoor
open Go.RowKit

def prs (l : List Pr) : List (Int × Int) := l.map fun p => (p.id, p.key)
theorem atP_cons (p : Pr → Bool) (x : Pr) (l : List Pr) : atP p (x :: l) = if p x = true then 0 else if atP p l = -1 then -1 else atP p l + 1 := by
  unfold atP
  rw [List.findIdx?_cons]
  cases hx : p x with
  | true => simp
  | false =>
    cases List.findIdx? p l with
    | none => simp
    | some i =>
      simp only [Option.map_some, Bool.false_eq_true, if_false]
      rw [if_neg (show ¬ ((i : Int) = -1) by omega)]
      omega
theorem atP_ge (p : Pr → Bool) (l : List Pr) : -1 ≤ atP p l := by
  rcases atP_cases p l with h | ⟨i, x, h, _⟩ <;> omega
theorem lk_prs (id : Int) : ∀ l : List Pr, (lk id (prs l)).isSome = decide (0 ≤ atP (fun p => p.id == id) l)
  | [] => by simp [prs, lk, atP]
  | p :: l => by
    have ih := lk_prs id l
    have hg := atP_ge (fun p => p.id == id) l
    unfold prs at ih ⊢
    simp only [List.map_cons, lk, atP_cons]
    by_cases h : p.id = id
    · simp [h]
    · rw [if_neg (fun e => h e.symm), ih]
      simp only [beq_iff_eq, h, if_false]
      split
      · rename_i h2; rw [h2]
      · rename_i h2; rw [decide_eq_true (by omega : 0 ≤ atP (fun p => p.id == id) l), decide_eq_true (by omega)]
theorem wh_prs (key : Int) : ∀ l : List Pr, (0 ≤ atP (fun p => p.key == key) l ∧ ∃ x, l[(atP (fun p => p.key == key) l).toNat]? = some x ∧ wh key (prs l) = some x.id) ∨ (atP (fun p => p.key == key) l = -1 ∧ wh key (prs l) = none)
  | [] => .inr ⟨rfl, rfl⟩
  | p :: l => by
    have ih := wh_prs key l
    unfold prs at ih ⊢
    simp only [List.map_cons, wh]
    by_cases h : p.key = key
    · rw [if_pos h]
      have : atP (fun p => p.key == key) (p :: l) = 0 := by rw [atP_cons]; simp [h]
      exact .inl ⟨by omega, p, by rw [this]; rfl, rfl⟩
    · rw [if_neg h]
      have hq : atP (fun p => p.key == key) (p :: l) = if atP (fun p => p.key == key) l = -1 then -1 else atP (fun p => p.key == key) l + 1 := by
        rw [atP_cons]; simp [h]
      rcases ih with ⟨h0, x, h1, h2⟩ | ⟨h1, h2⟩
      · rw [hq, if_neg (by omega)]
        refine .inl ⟨by omega, x, ?_, h2⟩
        rw [show (atP (fun p => p.key == key) l + 1).toNat = (atP (fun p => p.key == key) l).toNat + 1 by omega, List.getElem?_cons_succ]
        exact h1
      · rw [hq, if_pos h1]; exact .inr ⟨rfl, h2⟩
theorem wh_prs_some (key : Int) (l : List Pr) : (wh key (prs l)).isSome = decide (0 ≤ atP (fun p => p.key == key) l) := by
  rcases wh_prs key l with ⟨h0, x, _, h2⟩ | ⟨h1, h2⟩
  · rw [h2]; simp [h0]
  · rw [h2, h1]; rfl
theorem drop_prs (id : Int) : ∀ (l : List Pr) (n : Nat), atP (fun p => p.id == id) l = n → dropI id (prs l) = prs (l.take n ++ l.drop (n + 1))
  | [], n, h => by
    rw [show atP (fun p => p.id == id) [] = -1 from rfl] at h; omega
  | p :: l, n, h => by
    have hg := atP_ge (fun p => p.id == id) l
    rw [atP_cons] at h
    unfold prs
    simp only [List.map_cons, dropI]
    by_cases e : p.id = id
    · simp only [e, beq_self_eq_true, if_true] at h
      have : n = 0 := by omega
      subst this
      simp [e]
    · rw [if_neg (fun x => e x.symm)]
      simp only [beq_iff_eq, e, if_false] at h
      split at h
      · omega
      · have hn : n = (n - 1) + 1 := by omega
        have := drop_prs id l (n - 1) (by omega)
        unfold prs at this
        rw [this, hn]
        simp
def devP (D : Dv) (k id ref : Int) : Dv × Int :=
  if k = 0 then (⟨D.id, D.secret, D.policy, (addD D id ref).1, D.psks⟩, (addD D id ref).2)
  else if k = 1 then (⟨D.id, D.secret, D.policy, (dropD D id).1, (dropD D id).2.1⟩, (dropD D id).2.2)
  else (⟨D.id, D.secret, D.policy, D.peers, (pskD D id ref).1⟩, (pskD D id ref).2)
structure RunInv (D : Dv) (l : List Pr) : Prop where
  peers : D.peers = prs l
  nodup : (l.map (·.id)).Nodup
  pnodup : (D.psks.map (·.1)).Nodup
  sub : ∀ i ∈ D.psks.map (·.1), i ∈ l.map (·.id)
  len : l.length ≤ 8
theorem atP_mem {id : Int} {l : List Pr} : 0 ≤ atP (fun p => p.id == id) l ↔ id ∈ l.map (·.id) := by
  induction l with
  | nil => rw [show atP (fun p => p.id == id) [] = -1 from rfl]; simp
  | cons p l ih =>
    have hg := atP_ge (fun p => p.id == id) l
    rw [atP_cons, List.map_cons, List.mem_cons]
    by_cases e : p.id = id
    · simp [e]
    · simp only [beq_iff_eq, e, if_false]
      rw [← ih]
      split
      · rename_i h2; rw [h2]; simp; exact fun x => e x.symm
      · exact ⟨fun _ => .inr (by omega), fun _ => by omega⟩
theorem lk_isSome_mem {k : Int} : ∀ {l : List (Int × Int)}, (lk k l).isSome = true ↔ k ∈ l.map (·.1)
  | [] => by simp [lk]
  | p :: l => by
    unfold lk
    by_cases h : k = p.1
    · simp [h]
    · rw [if_neg h, lk_isSome_mem]; simp [h]
theorem dropI_keys {k : Int} : ∀ {l : List (Int × Int)}, (l.map (·.1)).Nodup → ((dropI k l).map (·.1)).Nodup ∧ ∀ i ∈ (dropI k l).map (·.1), i ∈ l.map (·.1) ∧ i ≠ k
  | [], _ => by simp [dropI]
  | p :: l, h => by
    rw [List.map_cons, List.nodup_cons] at h
    obtain ⟨h1, h2⟩ := dropI_keys (k := k) h.2
    unfold dropI
    by_cases e : k = p.1
    · rw [if_pos e]
      exact ⟨h.2, fun i hi => ⟨List.mem_cons_of_mem _ hi, fun e2 => h.1 (by rw [← e, ← e2]; exact hi)⟩⟩
    · rw [if_neg e, List.map_cons, List.nodup_cons]
      refine ⟨⟨fun hm => h.1 (h2 _ hm).1, h1⟩, fun i hi => ?_⟩
      rcases List.mem_cons.1 hi with rfl | hi
      · exact ⟨List.mem_cons_self .., fun e2 => e e2.symm⟩
      · exact ⟨List.mem_cons_of_mem _ (h2 i hi).1, (h2 i hi).2⟩
theorem setI_keys {k v : Int} : ∀ {l : List (Int × Int)}, (l.map (·.1)).Nodup → ((setI k v l).map (·.1)).Nodup ∧ ∀ i ∈ (setI k v l).map (·.1), i = k ∨ i ∈ l.map (·.1)
  | [], _ => by simp [setI]
  | p :: l, h => by
    rw [List.map_cons, List.nodup_cons] at h
    obtain ⟨h1, h2⟩ := setI_keys (k := k) (v := v) h.2
    unfold setI
    by_cases e : k = p.1
    · rw [if_pos e, List.map_cons, List.nodup_cons]
      refine ⟨⟨by rw [e]; exact h.1, h.2⟩, fun i hi => ?_⟩
      rcases List.mem_cons.1 hi with rfl | hi
      · exact .inl rfl
      · exact .inr (List.mem_cons_of_mem _ hi)
    · rw [if_neg e, List.map_cons, List.nodup_cons]
      refine ⟨⟨fun hm => ?_, h1⟩, fun i hi => ?_⟩
      · rcases h2 _ hm with e2 | e2
        · exact e e2.symm
        · exact h.1 e2
      · rcases List.mem_cons.1 hi with rfl | hi
        · exact .inr (List.mem_cons_self ..)
        · exact (h2 i hi).imp id (List.mem_cons_of_mem _)
theorem nodup_le : ∀ {a b : List Int}, a.Nodup → (∀ i ∈ a, i ∈ b) → a.length ≤ b.length
  | [], _, _, _ => Nat.zero_le _
  | x :: a, b, h, hs => by
    rw [List.nodup_cons] at h
    have hx := hs x (List.mem_cons_self ..)
    have := nodup_le (a := a) (b := b.erase x) h.2 (fun i hi => (List.mem_erase_of_ne (fun e => h.1 (by rw [← e]; exact hi))).2 (hs i (List.mem_cons_of_mem _ hi)))
    rw [List.length_erase_of_mem hx] at this
    have := List.length_pos_of_mem hx
    simp only [List.length_cons]
    omega
theorem nodup_lt {a b : List Int} (ha : a.Nodup) (hs : ∀ i ∈ a, i ∈ b) {x : Int} (hx : x ∈ b) (hn : x ∉ a) : a.length < b.length := by
  have := nodup_le (a := x :: a) (b := b) (List.nodup_cons.2 ⟨hn, ha⟩) (fun i hi => by
    rcases List.mem_cons.1 hi with rfl | hi
    · exact hx
    · exact hs i hi)
  simp only [List.length_cons] at this
  omega
theorem run_step {D : Dv} {l : List Pr} (h : RunInv D l) (k id ref : Int) : (devP D k id ref).2 = (doesP l k id ref).2 ∧ RunInv (devP D k id ref).1 (doesP l k id ref).1 ∧ (devP D k id ref).1.policy = D.policy := by
  have hlk := lk_prs id l
  have hwh := wh_prs_some ref l
  have hmem := atP_mem (id := id) (l := l)
  have hlen : (prs l).length = l.length := by simp [prs]
  unfold devP doesP doesQ
  by_cases h0 : k = 0
  · rw [if_pos h0, if_pos h0]
    unfold addD
    rw [h.peers, hlk, hwh, hlen]
    have hn : (namedP id = false ∨ ref < 1) ↔ (id < 0 ∨ 999 < id ∨ ref < 1) := by
      unfold namedP
      by_cases a : 0 ≤ id <;> by_cases b : id < 1000 <;> simp [a, b] <;> omega
    by_cases c1 : id < 0 ∨ 999 < id ∨ ref < 1
    · rw [if_pos (hn.2 c1), if_pos c1]
      exact ⟨rfl, ⟨rfl, h.nodup, h.pnodup, h.sub, h.len⟩, rfl⟩
    · rw [if_neg (fun e => c1 (hn.1 e)), if_neg c1]
      by_cases c2 : 0 ≤ atP (fun p => p.id == id) l ∨ 0 ≤ atP (fun p => p.key == ref) l
      · rw [if_pos c2, if_pos (by simpa using c2)]
        exact ⟨rfl, ⟨rfl, h.nodup, h.pnodup, h.sub, h.len⟩, rfl⟩
      · rw [if_neg c2, if_neg (by simpa using c2)]
        by_cases c3 : 8 ≤ l.length
        · rw [if_pos c3, if_pos c3]
          exact ⟨rfl, ⟨rfl, h.nodup, h.pnodup, h.sub, h.len⟩, rfl⟩
        · rw [if_neg c3, if_neg c3]
          have hnone : lk id (prs l) = none := by
            cases hq : lk id (prs l) with
            | none => rfl
            | some v => rw [hq] at hlk; exact absurd (by simpa using hlk.symm) (fun e => c2 (.inl e))
          refine ⟨rfl, ⟨?_, ?_, h.pnodup, fun i hi => ?_, ?_⟩, rfl⟩
          · simp only; rw [setI_new hnone]; simp [prs]
          · rw [List.map_append, List.nodup_append]
            refine ⟨h.nodup, by simp, fun a ha b hb e => ?_⟩
            simp at hb
            subst e hb
            exact c2 (.inl (hmem.2 ha))
          · rw [List.map_append]; exact List.mem_append_left _ (h.sub i hi)
          · simp; omega
  · rw [if_neg h0, if_neg h0]
    by_cases h1 : k = 1
    · rw [if_pos h1, if_pos h1]
      unfold dropD
      rw [h.peers, hlk]
      rcases atP_cases (fun p => p.id == id) l with hi | ⟨n, x, hi, hx, hp⟩
      · rw [if_neg (by rw [hi]; decide), if_pos (by omega)]
        exact ⟨rfl, ⟨rfl, h.nodup, h.pnodup, h.sub, h.len⟩, rfl⟩
      · have hnl : n < l.length := (List.getElem?_eq_some_iff.1 hx).1
        have hge : decide ((0 : Int) ≤ (n : Int)) = true := decide_eq_true (by omega)
        have hnl0 : ¬ ((n : Int) < 0) := by omega
        rw [hi]
        simp only [hge, if_true, hnl0, if_false]
        have hd := drop_prs id l n hi
        have hk := dropI_keys (k := id) (l := prs l) (by have := h.nodup; simpa [prs, Function.comp_def] using this)
        have hids : (l.take n ++ l.drop (n + 1)).map (·.id) = (dropI id (prs l)).map (·.1) := by rw [hd]; simp [prs, Function.comp_def]
        have hpk := dropI_keys (k := id) h.pnodup
        have hkeep : ∀ i ∈ l.map (·.id), i ≠ id → i ∈ (l.take n ++ l.drop (n + 1)).map (·.id) := fun i hi hne => by
          have hl : l = l.take n ++ x :: l.drop (n + 1) := by
            rw [← List.getElem?_eq_some_iff.1 hx |>.2, ← List.drop_eq_getElem_cons hnl]; simp
          rw [hl, List.map_append, List.map_cons] at hi
          rw [List.map_append]
          rcases List.mem_append.1 hi with hi | hi
          · exact List.mem_append_left _ hi
          · rcases List.mem_cons.1 hi with rfl | hi
            · exact absurd (by simpa using hp) hne
            · exact List.mem_append_right _ hi
        simp only [Int.toNat_natCast]
        refine ⟨trivial, ⟨hd, ?_, ?_, fun i hi => ?_, ?_⟩, trivial⟩
        · rw [hids]; exact hk.1
        · simp only; split
          · exact hpk.1
          · exact h.pnodup
        · simp only at hi
          split at hi
          · exact hkeep i (h.sub i (hpk.2 i hi).1) (hpk.2 i hi).2
          · rename_i hns
            exact hkeep i (h.sub i hi) (fun e => hns (lk_isSome_mem.2 (e ▸ hi)))
        · have := h.len
          simp; omega
    · rw [if_neg h1, if_neg h1]
      unfold pskD
      rw [h.peers, hlk]
      rcases atP_cases (fun p => p.id == id) l with hi | ⟨n, x, hi, hx, hp⟩
      · rw [if_pos (by rw [hi]; decide), if_pos (by omega)]
        exact ⟨rfl, ⟨rfl, h.nodup, h.pnodup, h.sub, h.len⟩, rfl⟩
      · have hnl : n < l.length := (List.getElem?_eq_some_iff.1 hx).1
        have hge : decide ((0 : Int) ≤ (n : Int)) = true := decide_eq_true (by omega)
        have hnl0 : ¬ ((n : Int) < 0) := by omega
        rw [hi]
        simp only [hge, Bool.true_eq_false, hnl0, if_false]
        by_cases hr : ref < 1
        · rw [if_pos hr, if_pos hr]
          exact ⟨rfl, ⟨rfl, h.nodup, h.pnodup, h.sub, h.len⟩, trivial⟩
        · rw [if_neg hr, if_neg hr]
          have hidm : id ∈ l.map (·.id) := hmem.1 (by rw [hi]; omega)
          have hlp : (D.psks.map (·.1)).length = D.psks.length := by simp
          have hll : (l.map (·.id)).length = l.length := by simp
          rw [if_neg (by
            rintro ⟨ha, hb⟩
            have hnm : id ∉ D.psks.map (·.1) := fun hm => by rw [lk_isSome_mem.2 hm] at ha; cases ha
            have := nodup_lt h.pnodup h.sub hidm hnm
            have := h.len
            omega)]
          have hk := setI_keys (k := id) (v := ref) h.pnodup
          have hget : l[n]! = x := by rw [getElem!_def, hx]
          have hset : ∀ {β : Type} (f : Pr → β), f ⟨x.id, x.key, ref⟩ = f x → (l.set n ⟨x.id, x.key, ref⟩).map f = l.map f := fun f hf => by
            rw [List.map_set, hf]
            apply List.ext_getElem?
            intro j
            rw [List.getElem?_set]
            by_cases e : n = j
            · subst e; simp [hnl, (List.getElem?_eq_some_iff.1 hx).2]
            · rw [if_neg e]
          have hids := hset (·.id) rfl
          simp only [Int.toNat_natCast, hget]
          refine ⟨trivial, ⟨?_, ?_, hk.1, fun i hi => ?_, ?_⟩, trivial⟩
          · exact (hset (fun p => (p.id, p.key)) rfl).symm
          · rw [hids]; exact h.nodup
          · rw [hids]
            rcases hk.2 i hi with rfl | hm
            · exact hidm
            · exact h.sub i hm
          · simpa using h.len
/-! Arguments opened: a slice of structs of three ints, as the cells that it holds. Any program. -/
open Go.ChangeShapes Go.WideShapes Go.ChangeAt Go.RowKit Go.Deep

section
variable {H : Type} {enc : TypeId × Value → H} {P : Program} {w : World} {base : Nat} {spare : Nat → Bool} {held : Bool}
/-- Three ints. -/
def three (o : Int × Int × Int) : List Value := [.int .i64 o.1, .int .i64 o.2.1, .int .i64 o.2.2]
theorem open_threes_holds {t e : TypeId} {f0 f1 f2 : Field} {r : Reach} {b0 : Nat} {v : Value} {d : DataW H} {p : List MemPlace} (ht : P.underlying t = some (.slice e)) (he : P.underlying e = some (.struct #[f0, f1, f2])) (h0 : P.underlying f0.type = some (.int .i64)) (h1 : P.underlying f1.type = some (.int .i64)) (h2 : P.underlying f2.type = some (.int .i64))
    (hone : oneCellFields P #[f0, f1, f2] = true) (hC : P.cellsOf e = 3) (hv : Value.okWide P w r b0 t v) (h : DataW.Trod enc P w base spare held t v d p) :
    ∃ (A : Option Addr) (c : Nat) (os : List (Int × Int × Int)), v = .slice A os.length c ∧ Holds w A (os.flatMap three) ∧ os.length ≤ maxLen := by
  obtain ⟨a0, len, cap, rfl⟩ := okWide_slice ht hv
  obtain ⟨fuel, hfu⟩ := h
  rcases open_slice_fields ht he hone hC hfu with ⟨hcs, _⟩ | ⟨x, l, c, m, D, Pl, hcs, _, hl, hm, hmm, _, hi⟩
  · simp [Value.cells] at hcs
    obtain ⟨rfl, rfl, rfl⟩ := hcs
    exact ⟨none, 0, [], rfl, .inl rfl, Nat.zero_le _⟩
  · simp [Value.cells] at hcs
    obtain ⟨rfl, rfl, rfl⟩ := hcs
    have hlm : len ≤ m := by rw [hmm]; split <;> omega
    obtain ⟨os, hrl, hr⟩ := list_of_index (n := len) (p := fun i (o : Int × Int × Int) => w.cell? (x.add (i * 3)) = some (.int .i64 o.1) ∧ w.cell? (x.add (i * 3 + 1)) = some (.int .i64 o.2.1) ∧ w.cell? (x.add (i * 3 + 2)) = some (.int .i64 o.2.2)) (fun i hil => by
      obtain ⟨ys, n, _, _, _, hf⟩ := hi i (by omega)
      obtain ⟨v0, y0, hc0, _, ht0⟩ := hf 0 f0 rfl
      obtain ⟨v1, y1, hc1, _, ht1⟩ := hf 1 f1 rfl
      obtain ⟨v2, y2, hc2, _, ht2⟩ := hf 2 f2 rfl
      obtain ⟨a, e0, _, _⟩ := DataW.trod_int h0 ht0
      obtain ⟨b, e1, _, _⟩ := DataW.trod_int h1 ht1
      obtain ⟨c, e2, _, _⟩ := DataW.trod_int h2 ht2
      simp only [List.cons.injEq, and_true] at e0 e1 e2
      subst e0 e1 e2
      exact ⟨(a, b, c), hc0, hc1, hc2⟩)
    refine ⟨some x, cap, os, by rw [hrl], holds_of_index fun i v hv => ?_, by omega⟩
    rw [flatMap_at three 3 (by decide) (fun _ => rfl)] at hv
    obtain ⟨o, ho, hv⟩ := Option.bind_eq_some_iff.1 hv
    obtain ⟨hc0, hc1, hc2⟩ := hr _ o ho
    have hm3 : i % 3 = 0 ∨ i % 3 = 1 ∨ i % 3 = 2 := by omega
    rcases hm3 with h | h | h
    · rw [h] at hv
      simp [three] at hv
      subst hv
      rw [← hc0]; congr 2; omega
    · rw [h] at hv
      simp [three] at hv
      subst hv
      rw [← hc1]; congr 2; omega
    · rw [h] at hv
      simp [three] at hv
      subst hv
      rw [← hc2]; congr 2; omega
/-- The cells of the k-th one. -/
theorem threeO_at {A : Option Addr} {os : List (Int × Int × Int)} (h : Holds w A (os.flatMap three)) {k : Nat} {o : Int × Int × Int} (hk : os[k]? = some o) :
    ∃ b f, A = some ⟨b, f, none⟩ ∧ w.cell? ⟨b, f + k * 3, none⟩ = some (.int .i64 o.1) ∧ w.cell? ⟨b, f + k * 3 + 1, none⟩ = some (.int .i64 o.2.1) ∧ w.cell? ⟨b, f + k * 3 + 2, none⟩ = some (.int .i64 o.2.2) := by
  have at_ : ∀ j u, (three o)[j]? = some u → (os.flatMap three)[k * 3 + j]? = some u := fun j u hj => by
    have hj5 : j < 3 := (List.getElem?_eq_some_iff.1 hj).1
    rw [flatMap_at three 3 (by decide) (fun _ => rfl), show (k * 3 + j) / 3 = k by omega, show (k * 3 + j) % 3 = j by omega, hk]
    exact hj
  rcases h with h | ⟨b, f, rfl, h⟩
  · have := at_ 0 _ rfl
    rw [h] at this; simp at this
  · exact ⟨b, f, rfl, h _ _ (at_ 0 _ rfl), h _ _ (at_ 1 _ rfl), h _ _ (at_ 2 _ rfl)⟩
end
/-! The device, and the row of peers, behind the law's calls of layer 15. -/
abbrev prT (v : Value) (l : List Pr) : Thing := rowT 44 3 v l.length (l.flatMap Pr.cells)
theorem Own.does {w0 w w' : World} {L : List Thing} {i : Nat} {v v' : Value} {l l' : List Pr} (h : Own w0 w L) (hi : L[i]? = some (prT v l)) (hb : Below w.heap.size w w') (hd : (v' = v ∧ l' = l) ∨ PeersAt w' w.heap.size v' l') : Own w0 w' (L.set i (prT v' l')) := by
  rcases hd with ⟨rfl, rfl⟩ | hd
  · rw [set_same hi]; exact h.call hb
  · obtain ⟨S, _, hk⟩ := h.upd hi
    exact hk w' (prT v' l') (fun k => v'.ownBlock = some k) (Upd.of_below hb) ⟨ownsRow_zero hd, fun _ => Iff.rfl⟩ (fun b hb => .inr (hd.lt b hb).1)
theorem devP0 (D : Dv) (id ref : Int) : devP D 0 id ref = (⟨D.id, D.secret, D.policy, (addD D id ref).1, D.psks⟩, (addD D id ref).2) := by simp [devP]
theorem devP1 (D : Dv) (id ref : Int) : devP D 1 id ref = (⟨D.id, D.secret, D.policy, (dropD D id).1, (dropD D id).2.1⟩, (dropD D id).2.2) := by simp [devP]
theorem devP2 (D : Dv) (k id ref : Int) (h0 : ¬ k = 0) (h1 : ¬ k = 1) : devP D k id ref = (⟨D.id, D.secret, D.policy, D.peers, (pskD D id ref).1⟩, (pskD D id ref).2) := by simp [devP, h0, h1]
def runL (d r1 r2 : Nat) (D : Dv) (v : Value) (l : List Pr) : List Thing := [prT v l, blk d (devObj D r1 r2), storeT r2 (stI D.psks), storeT r1 (stI D.peers)]
def RunPost (w : World) (policy : Int) (e : Ending) (w' : World) : Prop :=
  ∃ d r1 r2 v D l, e = .returned (.tuple #[.pointer (some ⟨d, 0, none⟩), v, .bool true]) ∧ RunInv D l ∧ D.policy = policy ∧ Own w w' (runL d r1 r2 D v l)
set_option maxHeartbeats 3200000 in
set_option maxRecDepth 100000 in
theorem run_calls (w : World) (policy : Int) (hp0 : 0 ≤ policy) (hp2 : policy ≤ 2) (A : Option Addr) (c : Nat) (os : List (Int × Int × Int)) (hx : Holds w A (os.flatMap three)) (hm : os.length ≤ 30) :
    Calls Tryz.prog 13 #[.int .i64 1, .int .i64 1, .int .i64 policy, .slice A os.length c] w (RunPost w policy) := by
  have Hx := Lib.hid hx
  have hd : decide (30 < os.length) = false := decide_eq_false (by omega)
  have hd2 : decide ((30 : Int) < (os.length : Int)) = false := decide_eq_false (by omega)
  clear hx
  go_enter Tryz.func13, Tryz.ntmps13
  go_wp2_with fail
  refine (dNew_own (Own.start w) 1 1 policy (by simp [mayD, namedP, hp0, hp2])).mono ?_
  rintro e w1 ⟨d, r1, r2, rfl, o1⟩
  have o2 : Own w w1 (runL d r1 r2 ⟨1, 1, policy, [], []⟩ (.slice none 0 0) []) := o1.newRow (Below.refl _ _) (World.ownsRow_nil _ _ _ _)
  have O2 := Lib.hid o2
  clear o1 o2
  go_wp2_with fail
  go_loopw [13, 39] (fun v' i wr => ∃ (k : Nat) (D : Dv) (l : List Pr) (v : Value), k ≤ os.length ∧ i = .int .i64 k ∧ v' = v ∧ RunInv D l ∧ D.policy = policy ∧ Own w wr (runL d r1 r2 D v l))
    (fun _ i _ => (os.length - intOf i).toNat)
  case atStart => exact ⟨0, _, [], _, by omega, rfl, rfl, ⟨rfl, by simp, by simp, (fun i hi => by cases hi), Nat.zero_le _⟩, rfl, O2.out⟩
  case round =>
    obtain ⟨k, D, l, v, hk, rfl, hv, hinv, hpol, ol⟩ := hrel
    have hv := hv.symm
    subst hv
    have OL := Lib.hid ol
    have HI := Lib.hid hinv
    have HP := Lib.hid hpol
    have hlen := hinv.len
    clear ol hinv hpol
    by_cases hlt : k < os.length
    · obtain ⟨o, ho⟩ : ∃ o, os[k]? = some o := ⟨_, List.getElem?_eq_getElem hlt⟩
      obtain ⟨ki, id, ref⟩ := o
      obtain ⟨ab, af, rfl, c0, c1, c2⟩ := threeO_at (Hx.out.below OL.out.below) ho
      simp only at c0 c1 c2
      have ik : (k : Int) < os.length := by omega
      have hs := run_step HI.out ki id ref
      rw [HP.out] at hs
      have HS := Lib.hid hs
      clear hs
      go_wp2_with fail
      have o3 : Own w _ (blk wr.heap.size (.cells #[.int .i64 ki, .int .i64 id, .int .i64 ref] 77) :: runL d r1 r2 D v l) := OL.out.alloc _
      refine (does_calls (l := l) (o3.row (i := 1) rfl) (by omega) ki id ref).mono ?_
      rintro e w2 ⟨v', rfl, hb2, hd2⟩
      have o4 : Own w w2 (blk wr.heap.size (.cells #[.int .i64 ki, .int .i64 id, .int .i64 ref] 77) :: runL d r1 r2 D v' (doesP l ki id ref).1) := o3.does (i := 1) rfl hb2 hd2
      have hop : OpBox w2 wr.heap.size ki id ref := o4.blk (i := 0) rfl
      obtain ⟨p0, p1, p2⟩ := hop.cells
      have lp := lt_of_heap hop
      clear c0 c1 c2 o3 hb2 hd2 hop
      have hs := HS.out
      by_cases hk0 : ki = 0
      · subst hk0
        rw [devP0] at hs
        simp only at hs
        have HS2 := Lib.hid hs
        have he := hs.1
        generalize (doesP l 0 id ref).2 = er at *
        clear hs HS
        go_wp2_with fail
        refine (dAdd_own (D := D) o4 2 4 rfl rfl id ref).mono ?_
        rintro e w3 ⟨rfl, o5⟩
        rw [he]
        have O5 := Lib.hid o5
        clear p0 p1 p2 lp o4 o5 he
        go_wp2_with fail
        refine ⟨⟨k + 1, _, _, _, by omega, by simp, rfl, HS2.out.2.1, HS2.out.2.2, O5.out.tail⟩, ?_⟩
        simp only [intOf]; omega
      · have hd0 : (ki == 0) = false := by simpa using hk0
        by_cases hk1 : ki = 1
        · subst hk1
          rw [devP1] at hs
          simp only at hs
          have HS2 := Lib.hid hs
          have he := hs.1
          generalize (doesP l 1 id ref).2 = er at *
          clear hs HS
          go_wp2_with fail
          refine (dDrop_own (D := D) o4 2 4 3 rfl rfl rfl (by decide) (by decide) id).mono ?_
          rintro e w3 ⟨rfl, o5⟩
          rw [he]
          have O5 := Lib.hid o5
          clear p0 p1 p2 lp o4 o5 he
          go_wp2_with fail
          refine ⟨⟨k + 1, _, _, _, by omega, by simp, rfl, HS2.out.2.1, HS2.out.2.2, O5.out.tail⟩, ?_⟩
          simp only [intOf]; omega
        · have hd1 : (ki == 1) = false := by simpa using hk1
          rw [devP2 _ _ _ _ hk0 hk1] at hs
          simp only at hs
          have HS2 := Lib.hid hs
          have he := hs.1
          generalize (doesP l ki id ref).2 = er at *
          clear hs HS hk0 hk1
          go_wp2_with fail
          refine (dPsk_own (D := D) o4 2 4 3 rfl rfl rfl id ref).mono ?_
          rintro e w3 ⟨rfl, o5⟩
          rw [he]
          have O5 := Lib.hid o5
          clear p0 p1 p2 lp o4 o5 he
          go_wp2_with fail
          refine ⟨⟨k + 1, _, _, _, by omega, by simp, rfl, HS2.out.2.1, HS2.out.2.2, O5.out.tail⟩, ?_⟩
          simp only [intOf]; omega
    · obtain rfl : k = os.length := by omega
      go_wp2_with fail
      go_ret3
      exact ⟨d, r1, r2, _, D, l, rfl, HI.out, HP.out, OL.out⟩
end Go.Proofs.YtfelbecofbdeaaaGreatDoor
