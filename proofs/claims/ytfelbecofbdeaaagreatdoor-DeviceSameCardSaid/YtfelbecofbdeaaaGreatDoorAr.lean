/- The terms of layer 1 as plain data: nodes, arenas, and what the calls tell of them. No program in sight. -/
import Derived.Test.YtfelbecofbdeaaaGreatDoorLib
namespace Go.Proofs.YtfelbecofbdeaaaGreatDoor
open Go.RowKit

/-- A node: Kind, N, A, B, C. -/
structure Nd where
  kind : Int
  n : Int
  a : Int
  b : Int
  c : Int
  deriving DecidableEq, Inhabited

def Nd.cells (x : Nd) : List Value := [.int .i64 x.kind, .int .u64 x.n, .int .i64 x.a, .int .i64 x.b, .int .i64 x.c]
def Nd.val (x : Nd) : Value := .agg #[.int .i64 x.kind, .int .u64 x.n, .int .i64 x.a, .int .i64 x.b, .int .i64 x.c]
def Nd.zero : Nd := ⟨0, 0, 0, 0, 0⟩
theorem Nd.val_inj {x y : Nd} (h : x.val = y.val) : x = y := by
  obtain ⟨a, b, c, d, e⟩ := x
  obtain ⟨a', b', c', d', e'⟩ := y
  simp [Nd.val] at h
  simp [h]

/-- An arena: its limit, and its terms. -/
structure Ar where
  limit : Nat
  l : List Nd
  deriving Inhabited

/-- How many terms a kind is made of. -/
def many (kind : Int) : Nat := if kind = 2 then 1 else if kind = 7 then 3 else if kind = 3 ∨ kind = 4 ∨ kind = 5 ∨ kind = 6 ∨ kind = 8 then 2 else 0
/-- The k-th part. -/
def Nd.part (x : Nd) (k : Nat) : Int := if k = 0 then x.a else if k = 1 then x.b else x.c

def has (l : List Nd) (x : Int) : Bool := decide (0 ≤ x ∧ x < l.length)
def nd (l : List Nd) (x : Int) : Nd := l.getD x.toNat Nd.zero

/-- What Get tells. -/
def getNd (l : List Nd) (x : Int) : Nd := if has l x then nd l x else Nd.zero
theorem getNd_of_has {l : List Nd} {x : Int} (h : has l x = true) : getNd l x = nd l x := by simp [getNd, h]
theorem getNd_of_not {l : List Nd} {x : Int} (h : has l x = false) : getNd l x = Nd.zero := by simp [getNd, h]
/-- -1, 0, 1. -/
def cmp2 (x y : Int) : Int := if x < y then -1 else if y < x then 1 else 0

/-- Compare, with so much fuel. -/
def cmpF : Nat → List Nd → Int → Int → Int
  | 0, _, _, _ => 0
  | f + 1, l, x, y =>
    if x = y then 0 else
    if has l x && has l y then
      let n := nd l x
      let m := nd l y
      if cmp2 n.kind m.kind ≠ 0 then cmp2 n.kind m.kind else
      if cmp2 n.n m.n ≠ 0 then cmp2 n.n m.n else
      if cmpF f l n.a m.a ≠ 0 then cmpF f l n.a m.a else
      if cmpF f l n.b m.b ≠ 0 then cmpF f l n.b m.b else cmpF f l n.c m.c
    else if has l x ≠ has l y then (if has l x then -1 else 1) else cmp2 x y

/-- May a node be? -/
def numberedP (x : Nd) : Bool := if x.kind = 1 ∨ x.kind = 7 ∨ x.kind = 9 then true else if x.kind = 6 then decide (1 ≤ x.n ∧ x.n ≤ 4) else decide (x.n = 0)
/-- What an arena's terms meet: the first is Empty, none is there twice, the parts of each are ahead of it (or 0). -/
structure Wf (l : List Nd) : Prop where
  head : l[0]? = some Nd.zero
  nodup : l.Nodup
  parts : ∀ (i : Nat) (n : Nd), l[i]? = some n → ∀ k, 0 ≤ n.part k ∧ (n.part k = 0 ∨ n.part k < i)
  fits : ∀ n ∈ l, 0 ≤ n.n ∧ n.n ≤ 18446744073709551615 ∧ 0 ≤ n.kind ∧ n.kind ≤ 9
  valid : ∀ n ∈ l, numberedP n = true ∧ (many n.kind ≤ 0 → n.a = 0) ∧ (many n.kind ≤ 1 → n.b = 0) ∧ (many n.kind ≤ 2 → n.c = 0)

theorem nd_of_getElem? {l : List Nd} {i : Nat} {n : Nd} (h : l[i]? = some n) : nd l i = n := by simp [nd, List.getD, h]
theorem has_iff {l : List Nd} {x : Int} : has l x = true ↔ 0 ≤ x ∧ x < l.length := by simp [has]
theorem getElem?_of_has {l : List Nd} {x : Int} (h : has l x = true) : l[x.toNat]? = some (nd l x) := by
  rw [has_iff] at h
  have : x.toNat < l.length := by omega
  simp [nd, List.getD, this]

def partsOk (l : List Nd) (x : Nd) : Bool := (List.range 3).all fun k => if k < many x.kind then has l (x.part k) else decide (x.part k = 0)
def cmpA (l : List Nd) (x y : Int) : Int := cmpF (l.length + 1) l x y
def right (l : List Nd) (x : Nd) : Bool :=
  if x.kind < 0 ∨ 9 < x.kind then false else
  if numberedP x = false then false else
  if partsOk l x = false then false else
  if x.kind = 3 then decide (cmpA l x.a x.b ≤ 0) else
  if x.kind = 4 then decide ((nd l x.b).kind ≠ 2) else true

/-- Mk: the arena behind it, the ref, the error. -/
def mk (A : Ar) (x : Nd) : Ar × Int × Int :=
  if right A.l x = false then (A, 0, 1) else
  match A.l.idxOf? x with
  | some i => (A, i, 0)
  | none => if A.limit ≤ A.l.length then (A, 0, 3) else (⟨A.limit, A.l ++ [x]⟩, A.l.length, 0)

/-- Share. -/
def share (A : Ar) (x y : Int) : Ar × Int × Int :=
  if has A.l x && has A.l y then
    if (nd A.l y).kind ≠ 2 then mk A ⟨4, 0, x, y, 0⟩ else
    let z := (nd A.l y).a
    if 0 < cmpA A.l x z then mk A ⟨3, 0, z, x, 0⟩ else mk A ⟨3, 0, x, z, 0⟩
  else (A, 0, 1)

def newAr (limit : Int) : Ar := ⟨(min (max limit 1) 65536).toNat, [Nd.zero]⟩

theorem nd_mem {l : List Nd} {x : Int} (h : has l x = true) : nd l x ∈ l := List.mem_of_getElem? (getElem?_of_has h)
/-- What the parts of a term are, where it and another one of the same kind and number are two. -/
theorem Wf.down {l : List Nd} (w : Wf l) {x y : Int} (hx : has l x = true) (hy : has l y = true) (hne : x ≠ y) (hk : (nd l x).kind = (nd l y).kind) : 0 < x ∧ (nd l x).a < x ∧ (nd l x).b < x ∧ (nd l x).c < x ∧ 0 ≤ (nd l x).a ∧ 0 ≤ (nd l x).b ∧ 0 ≤ (nd l x).c := by
  have hx0 := has_iff.1 hx
  have hy0 := has_iff.1 hy
  have hgx := getElem?_of_has hx
  have hgy := getElem?_of_has hy
  have h0 : x ≠ 0 := by
    rintro rfl
    have hz : nd l 0 = Nd.zero := by have := w.head; exact nd_of_getElem? (i := 0) this
    have hky : (nd l y).kind = 0 := by rw [← hk, hz]; rfl
    obtain ⟨hn, ha, hb, hc⟩ := w.valid _ (nd_mem hy)
    have hyz : nd l y = Nd.zero := by
      generalize nd l y = m at *
      obtain ⟨k, n, a, b, c⟩ := m
      simp only at hky ha hb hc
      subst hky
      simp [many] at ha hb hc
      simp [numberedP] at hn
      subst hn ha hb hc; rfl
    rw [hyz] at hgy
    have hlt : y.toNat < l.length := by omega
    have := (List.getElem?_inj (by omega : 0 < l.length) w.nodup).1 (w.head.trans hgy.symm)
    omega
  have hp := w.parts x.toNat _ hgx
  have p0 := hp 0
  have p1 := hp 1
  have p2 := hp 2
  simp only [Nd.part, if_true, if_false, Nat.one_ne_zero, show (2 : Nat) ≠ 0 by decide, show (2 : Nat) ≠ 1 by decide] at p0 p1 p2
  omega

theorem cmp2_zero {x y : Int} (h : cmp2 x y = 0) : x = y := by
  unfold cmp2 at h; split at h
  · omega
  · split at h <;> omega
/-- Where kind and number are the same the parts decide. -/
theorem cmpF_deep {f : Nat} {l : List Nd} {x y : Int} {n m : Nd} (hne : x ≠ y) (hx : has l x = true) (hy : has l y = true) (hn : nd l x = n) (hm : nd l y = m) (h1 : cmp2 n.kind m.kind = 0) (h2 : cmp2 n.n m.n = 0) :
    cmpF (f + 1) l x y = if cmpF f l n.a m.a ≠ 0 then cmpF f l n.a m.a else if cmpF f l n.b m.b ≠ 0 then cmpF f l n.b m.b else cmpF f l n.c m.c := by
  subst hn hm
  simp [cmpF, hne, hx, hy, h1, h2]
theorem cmpF_top {f : Nat} {l : List Nd} {x y : Int} {n m : Nd} (hne : x ≠ y) (hx : has l x = true) (hy : has l y = true) (hn : nd l x = n) (hm : nd l y = m) :
    cmpF (f + 1) l x y = if cmp2 n.kind m.kind ≠ 0 then cmp2 n.kind m.kind else if cmp2 n.n m.n ≠ 0 then cmp2 n.n m.n else if cmpF f l n.a m.a ≠ 0 then cmpF f l n.a m.a else if cmpF f l n.b m.b ≠ 0 then cmpF f l n.b m.b else cmpF f l n.c m.c := by
  subst hn hm
  simp [cmpF, hne, hx, hy]
end Go.Proofs.YtfelbecofbdeaaaGreatDoor
