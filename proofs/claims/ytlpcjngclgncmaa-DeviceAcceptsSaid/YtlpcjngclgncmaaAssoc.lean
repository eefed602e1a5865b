/- Rows of pairs of ints as a store's entries: what look-up, put and drop come to. -/
import Derived.Test.YtlpcjngclgncmaaStore2
import Derived.Lib.SlBy
namespace Go.Proofs.Ytlpcjngclgncmaa
open Go.RowKit

def encI (l : List (Int × Int)) : List (Int × Value) := l.map fun p => (p.1, .int .i64 p.2)
/-- What stands for a key. -/
def lk (k : Int) : List (Int × Int) → Option Int
  | [] => none
  | p :: l => if k = p.1 then some p.2 else lk k l
/-- The first key under which a value stands. -/
def wh (v : Int) : List (Int × Int) → Option Int
  | [] => none
  | p :: l => if p.2 = v then some p.1 else wh v l
def setI (k v : Int) : List (Int × Int) → List (Int × Int)
  | [] => [(k, v)]
  | p :: l => if k = p.1 then (k, v) :: l else p :: setI k v l
def dropI (k : Int) : List (Int × Int) → List (Int × Int)
  | [] => []
  | p :: l => if k = p.1 then l else p :: dropI k l
theorem encI_cons (p : Int × Int) (l : List (Int × Int)) : encI (p :: l) = (p.1, .int .i64 p.2) :: encI l := rfl
theorem encI_length (l : List (Int × Int)) : (encI l).length = l.length := List.length_map ..
theorem encI_keys (l : List (Int × Int)) : (encI l).map (·.1) = l.map (·.1) := by simp [encI]
theorem findL_encI (k : Int) : ∀ l : List (Int × Int), (findL k (encI l) 0).map (·.2) = (lk k l).map (Value.int .i64)
  | [] => rfl
  | p :: l => by
    rw [encI_cons]
    unfold findL lk
    by_cases h : k = p.1
    · simp [h]
    · simp only [h, if_false]
      rw [findL_shift, Option.map_map]
      have := findL_encI k l
      rw [← this]
      cases findL k (encI l) 0 <;> rfl
theorem getS_encI (n : Nat) (k : Int) (l : List (Int × Int)) : getS ⟨n, encI l⟩ k = .int .i64 ((lk k l).getD 0) := by
  unfold getS; simp only; rw [findL_encI]
  cases lk k l <;> rfl
theorem hasS_encI (n : Nat) (k : Int) (l : List (Int × Int)) : hasS ⟨n, encI l⟩ k = (lk k l).isSome := by
  unfold hasS; simp only
  have := congrArg Option.isSome (findL_encI k l)
  simpa using this
theorem setL_cons {α : Type} [DecidableEq α] (a : α) (v : Value) (p : α × Value) (l : List (α × Value)) : setL a v (p :: l) = if a = p.1 then (a, v) :: l else p :: setL a v l := by
  unfold setL
  rw [findL]
  by_cases h : a = p.1
  · simp [h]
  · rw [if_neg h, if_neg h, findL_shift]
    cases findL a l 0 with
    | none => rfl
    | some q => rfl
theorem setL_encI (k v : Int) : ∀ l : List (Int × Int), setL k (.int .i64 v) (encI l) = encI (setI k v l)
  | [] => rfl
  | p :: l => by
    rw [encI_cons, setL_cons]
    unfold setI
    by_cases h : k = p.1
    · simp [h, encI]
    · simp [h, setL_encI k v l, encI_cons]
theorem dropL_encI (k : Int) : ∀ l : List (Int × Int), dropL k (encI l) = encI (dropI k l)
  | [] => rfl
  | p :: l => by
    rw [encI_cons, dropL_cons]
    unfold dropI
    by_cases h : k = p.1
    · simp [h]
    · simp [h, dropL_encI k l, encI_cons]
theorem keysV_encI (l : List (Int × Int)) : keysV (encI l) = (l.map (·.1)).map (Value.int .i64) := by simp [keysV, keyV, encI]
theorem putS_encI (n : Nat) (k v : Int) (l : List (Int × Int)) : putS ⟨n, encI l⟩ k (.int .i64 v) = if (lk k l).isSome = false ∧ n ≤ l.length then (⟨n, encI l⟩, 3) else (⟨n, encI (setI k v l)⟩, 0) := by
  unfold putS
  rw [hasS_encI]
  simp only [encI_length, setL_encI]
theorem addS_encI (n : Nat) (k v : Int) (l : List (Int × Int)) : addS ⟨n, encI l⟩ k (.int .i64 v) = if (lk k l).isSome = true then (⟨n, encI l⟩, 4) else if n ≤ l.length then (⟨n, encI l⟩, 3) else (⟨n, encI (setI k v l)⟩, 0) := by
  unfold addS
  rw [hasS_encI, putS_encI]
  cases (lk k l).isSome <;> simp
theorem dropS_encI (n : Nat) (k : Int) (l : List (Int × Int)) : dropS ⟨n, encI l⟩ k = if (lk k l).isSome then (⟨n, encI (dropI k l)⟩, 0) else (⟨n, encI l⟩, 4) := by
  unfold dropS
  rw [hasS_encI]
  simp only [dropL_encI]
/-- Where a value stands among the keys: as IndexFunc asks it. -/
theorem wh_idx (v : Int) (p : Int → Bool) : ∀ (l : List (Int × Int)) (i : Nat), (∀ q ∈ l, p q.1 = decide (q.2 = v)) →
    match wh v l with
    | some k => ∃ j, (l.map (·.1))[j]? = some k ∧ Lib.idxByFrom (fun _ y => p y) default (l.map (·.1)) i = ((i + j : Nat) : Int)
    | none => Lib.idxByFrom (fun _ y => p y) default (l.map (·.1)) i = -1
  | [], i, _ => rfl
  | q :: l, i, h => by
    have hq := h q (List.mem_cons_self ..)
    have ih := wh_idx v p l (i + 1) (fun x hx => h x (List.mem_cons_of_mem _ hx))
    unfold wh
    by_cases he : q.2 = v
    · rw [if_pos he]
      refine ⟨0, rfl, ?_⟩
      simp [Lib.idxByFrom, hq, he]
    · rw [if_neg he]
      have hp : p q.1 = false := by rw [hq]; simp [he]
      cases hw : wh v l with
      | none => rw [hw] at ih; simpa [Lib.idxByFrom, hp] using ih
      | some k =>
        rw [hw] at ih
        obtain ⟨j, h1, h2⟩ := ih
        refine ⟨j + 1, by simpa using h1, ?_⟩
        simp only [List.map_cons, Lib.idxByFrom, hp, Bool.false_eq_true, if_false]
        rw [h2]; congr 1; omega
theorem lk_mem {l : List (Int × Int)} (hn : (l.map (·.1)).Nodup) : ∀ q ∈ l, lk q.1 l = some q.2 := by
  induction l with
  | nil => intro q hq; cases hq
  | cons p l ih =>
    intro q hq
    rw [List.map_cons, List.nodup_cons] at hn
    unfold lk
    rcases List.mem_cons.1 hq with rfl | hq
    · simp
    · have : q.1 ≠ p.1 := fun e => hn.1 (e ▸ List.mem_map_of_mem hq)
      rw [if_neg this]; exact ih hn.2 q hq
end Go.Proofs.Ytlpcjngclgncmaa
