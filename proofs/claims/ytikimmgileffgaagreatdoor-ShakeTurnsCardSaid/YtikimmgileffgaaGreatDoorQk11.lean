/- Packed by packn.py: SM. -/
import Derived.Test.YtikimmgileffgaaGreatDoorQk09
import Derived.Test.YtikimmgileffgaaGreatDoorQk05
namespace Go.Proofs.YtikimmgileffgaaGreatDoor
open Go.RowKit

/-- What follows a piece of code. -/
inductive Kt where
  | fin
  | code (y : Code) (k : Kt)
  | blk (id : Nat) (k : Kt)
  | scope (k : Kt)
  | cut (M : Act → World → Prop) (k : Kt)
  | rnd (n : Nat) (c : Code) (k : Kt)
def Kt.den (P : Program) (B : Exit → Act → World → Prop) : Kt → Exit → Act → World → Prop
  | .fin => B
  | .code y k => Exit.then (y.wp P (k.den P B)) (k.den P B)
  | .blk id k => Exit.inBlock id (k.den P B)
  | .scope k => Exit.noGoto (k.den P B)
  | .cut M k => Exit.then M (k.den P B)
  | .rnd n c k => Exit.then (Rounds P c (k.den P B) n) (k.den P B)
inductive Ct where
  | code (c : Code) (k : Kt)
  | ops (all : Array Oper) (rest : List Oper) (k : Kt)
  | any (all : Array Oper) (H : List Kn) (fuel : Nat) (listed : Array Bool) (k : Kt)
  | at (all : Array Oper) (H : List Kn) (fuel : Nat) (listed : Array Bool) (k : Kt) (i : Nat)
  | out (x : Exit) (k : Kt)
  | bad
def Ct.den (P : Program) (B : Exit → Act → World → Prop) : Ct → Act → World → Prop
  | .code c k => c.wp P (k.den P B)
  | .ops all rest k => wpList P all (k.den P B) rest
  | .any all H fuel listed k => wpAnyH P .any all (k.den P B) (Know H) fuel listed
  | .at all H fuel listed k i => wpOp P all (k.den P B) i (fun a' w' => Know H w' ∧ wpAnyH P .any all (k.den P B) (Know H) fuel (listed.setIfInBounds i true) a' w')
  | .out x k => k.den P B x
  | .bad => fun _ _ => False
def Ct.inv : Ct → World → Prop
  | .any _ H _ _ _, w => Know H w
  | .at _ H _ _ _ _, w => Know H w
  | _, _ => True
structure Stt where
  c : Ct
  e : Env
  L : List Ent
  X : List Kn
def badSt : Stt := ⟨.bad, [], [], []⟩
/-- What is to be shown of a state. -/
structure WS (P : Program) (fn : Func) (R : Ending → World → Prop) (σ : Stt) (w : World) : Prop where
  out : σ.c.inv w → Know σ.X w → WK (σ.c.den P (bodyPost P fn R)) fn.ntmps σ.e w

/-- The steps that no operation takes. -/
def norm1 : Ct → Option Ct
  | .code (.seq x y) k => some (.code x (.code y k))
  | .code (.block id c) k => some (.code c (.blk id k))
  | .code (.scope c) k => some (.code c (.scope k))
  | .code .skip k => some (.out .normal k)
  | .code (.exit id) k => some (.out (.exit id) k)
  | .code .ret k => some (.out .ret k)
  | .code (.region _ ops false) k => some (.ops ops ops.toList k)
  | .ops _ [] k => some (.out .normal k)
  | .out .normal (.code y k) => some (.code y k)
  | .out .normal (.blk _ k) => some (.out .normal k)
  | .out .normal (.scope k) => some (.out .normal k)
  | .out .normal (.rnd (n + 1) c k) => some (.code c (.rnd n c k))
  | .out (.exit i) (.rnd _ _ k) => some (.out (.exit i) k)
  | .out .ret (.rnd _ _ k) => some (.out .ret k)
  | .out (.exit i) (.code _ k) => some (.out (.exit i) k)
  | .out (.exit i) (.cut _ k) => some (.out (.exit i) k)
  | .out (.exit i) (.scope k) => some (.out (.exit i) k)
  | .out (.exit i) (.blk j k) => match Nat.beq i j with
    | true => some (.out .normal k)
    | false => some (.out (.exit i) k)
  | .out .ret (.code _ k) => some (.out .ret k)
  | .out .ret (.cut _ k) => some (.out .ret k)
  | .out .ret (.scope k) => some (.out .ret k)
  | .out .ret (.blk _ k) => some (.out .ret k)
  | _ => none
def norm : Nat → Ct → Ct
  | 0, c => c
  | n + 1, c => match norm1 c with
    | some c' => norm n c'
    | none => c
section sound
variable {P : Program} {B : Exit → Act → World → Prop} {N : Nat} {e : Env} {w : World}
theorem norm1_sound {c c' : Ct} (h : norm1 c = some c') (hk : WK (c'.den P B) N e w) : WK (c.den P B) N e w := by
  unfold norm1 at h
  split at h
  all_goals first | (cases h; done) | skip
  all_goals try (split at h)
  all_goals (try cases h)
  all_goals first
    | exact k_seq hk
    | exact k_block hk
    | exact x_scope hk
    | exact k_skip hk
    | exact k_exit hk
    | exact k_ret hk
    | exact hk
    | skip
  · rename_i ops k
    have : ops = ops.toList.toArray := by simp
    intro a F
    have h1 := hk a F
    show (Code.region _ ops false).wp P _ a w
    rw [this]
    refine wp_region_lit ?_
    rw [← this]; exact h1
  · rename_i i j k b hb
    have : i = j := by simpa using hb
    subst this; exact x_blkHit hk
  · rename_i i j k b hb
    exact x_blkMiss (by have : ¬ i = j := by intro e; subst e; simp at hb
                        simpa using this) hk
theorem norm_sound : ∀ (n : Nat) {c : Ct}, WK ((norm n c).den P B) N e w → WK (c.den P B) N e w
  | 0, _, h => h
  | n + 1, c, h => by
    unfold norm at h
    split at h
    · rename_i c' hc; exact norm1_sound hc (norm_sound n h)
    · exact h
theorem norm1_inv {c c' : Ct} (h : norm1 c = some c') : c'.inv w := by
  unfold norm1 at h
  split at h
  all_goals first | (cases h; done) | skip
  all_goals try (split at h)
  all_goals (try cases h)
  all_goals trivial
theorem norm_inv : ∀ (n : Nat) {c : Ct}, c.inv w → (norm n c).inv w
  | 0, _, h => h
  | n + 1, c, h => by
    unfold norm
    split
    · rename_i c' hc; exact norm_inv n (norm1_inv hc)
    · exact h
end sound

/-- How values of a type compare. -/
def eqFl (P : Program) (rec : TypeId → Value → Value → Option Bool) (xs ys : Array Value) : List Field → Option Bool
  | [] => some true
  | f :: fs => match f.name != "_", simR P [] (part f.type xs f.offset) [], simR P [] (part f.type ys f.offset) [] with
    | true, some (x, []), some (y, []) => match rec f.type x y with
      | some b => match eqFl P rec xs ys fs with
        | some r => some (b && r)
        | none => none
      | none => none
    | _, _, _ => none
def eqc (P : Program) : Nat → TypeId → Value → Value → Option Bool
  | 0, _, _, _ => none
  | d + 1, t, x, y => match x, y with
    | .int k x, .int k' y => match P.underlying t with
      | some (.int _) => if k = k' then some (x == y) else none
      | _ => none
    | .bool x, .bool y => match P.underlying t with
      | some .bool => some (x == y)
      | _ => none
    | .agg xs, .agg ys => match P.underlying t, P.stoodInHeld t with
      | some (.struct _), false => eqFl P (eqc P d) xs ys (P.fieldsOf t).toList
      | _, _ => none
    | _, _ => none
theorem eqFl_sound {P : Program} {w : World} {rec : TypeId → Value → Value → Option Bool} {d : Nat} (hr : ∀ t x y b, rec t x y = some b → (Op.equalIn d t x y).run P w = .ok b w) (xs ys : Array Value) :
    ∀ (fs : List Field) (b : Bool), eqFl P rec xs ys fs = some b → (Op.eqFields d xs ys fs).run P w = .ok b w
  | [], b, h => by simp only [eqFl] at h; cases h; exact eqF_nil _ _ _
  | f :: fs, b, h => by
    simp only [eqFl] at h
    split at h
    · rename_i x y hn hx hy
      split at h
      · rename_i b1 h1
        split at h
        · rename_i r h2
          cases h
          exact eqF_step hn hx hy (hr _ _ _ _ h1) (eqFl_sound hr xs ys fs r h2)
        · cases h
      · cases h
    · cases h
theorem eqc_sound {P : Program} {w : World} (m : Nat) : ∀ (n : Nat) (t : TypeId) (x y : Value) (b : Bool), eqc P n t x y = some b → (Op.equalIn (n + m) t x y).run P w = .ok b w
  | 0, t, x, y, b, h => by simp [eqc] at h
  | d + 1, t, x, y, b, h => by
    rw [show d + 1 + m = (d + m) + 1 by omega]
    simp only [eqc] at h
    split at h
    · split at h
      · rename_i k0 hu
        split at h
        · rename_i hk
          cases h; subst hk
          exact eqI_in hu
        · cases h
      · cases h
    · split at h
      · rename_i hu; cases h; exact eqB_in hu
      · cases h
    · split at h
      · rename_i fs hu hs
        exact eqS_in (fs := (P.fieldsOf t).toList) (by rw [hu]; simp [Program.fieldsOf, hu]) hs rfl (eqFl_sound (eqc_sound m d) _ _ _ _ h)
      · cases h
    · cases h

/-- How an operation that gives a value, and changes nothing, is taken. -/
inductive Ax where
  /-- nothing is read -/
  | p
  /-- it reads what is known at i -/
  | r (i : Nat)
  | l (is : List Nat)
  /-- its value u is v -/
  | v (u v : Value) (h : u = v)
  | w (i : Nat) (u v : Value) (h : u = v)
  /-- whether two structs are the same -/
  | e (b b' : Bool) (h : b = b')
  /-- the address of what a slice holds at j -/
  | i (A : Option Addr) (b q n j : Nat) (hA : A = some ⟨b, q, none⟩) (h : j < n)
  /-- a string's byte -/
  | s (t : ByteArray) (j : Nat) (b : UInt8) (h : t[j]? = some b)
abbrev Obs := List (Nat × Nat) × List (Value × Value)
def Obs.ok (o : Obs) : Prop := AllEq o.1 ∧ ∀ p ∈ o.2, p.1 = p.2
def rep (i : Nat) : List Nat := List.replicate 48 i
def axv (P : Program) (H : List Kn) (e : Env) (o : Oper) : Ax → Option (Value × Obs)
  | .p => match simR P [] (execOp (evE e) o) [] with
    | some (.value v, obs) => some (v, (obs, []))
    | _ => none
  | .r i => match simR P H (execOp (evE e) o) (rep i) with
    | some (.value v, obs) => some (v, (obs, []))
    | _ => none
  | .l is => match simR P H (execOp (evE e) o) is with
    | some (.value v, obs) => some (v, (obs, []))
    | _ => none
  | .v u v _ => match simR P [] (execOp (evE e) o) [] with
    | some (.value u', obs) => some (v, (obs, [(u', u)]))
    | _ => none
  | .w i u v _ => match simR P H (execOp (evE e) o) (rep i) with
    | some (.value u', obs) => some (v, (obs, [(u', u)]))
    | _ => none
  | .e b b' _ => match o.op with
    | .binOp .eql t x y _ => match evE e x, evE e y, P.eqGuardType P.depth t, eqc P 12 t (evE e x) (evE e y) with
      | .agg _, .agg _, false, some c => some (.bool b', ([], [(.bool c, .bool b)]))
      | _, _, _, _ => none
    | .binOp .neq t x y _ => match evE e x, evE e y, P.eqGuardType P.depth t, eqc P 12 t (evE e x) (evE e y) with
      | .agg _, .agg _, false, some c => some (.bool b', ([], [(.bool (!c), .bool b)]))
      | _, _, _, _ => none
    | _ => none
  | .i A b q n j _ _ => match o.op with
    | .indexAddr t x ix => match P.underlying t with
      | some (.slice el) => match evE e x, P.info? el with
        | .slice A' n' c', some I => some (.pointer (some ⟨b, q + j * I.size, none⟩), ([], [(.slice A' n' c', .slice A n c'), (evE e ix, .int .i64 (j : Int))]))
        | _, _ => none
      | _ => none
    | _ => none
  | .s t j b _ => match o.op with
    | .index ty x ix => match P.underlying ty with
      | some .string => some (.int .u8 b.toNat, ([], [(evE e x, .string t), (evE e ix, .int .i64 (j : Int))]))
      | _ => none
    | _ => none
theorem axv_sound {P : Program} {H : List Kn} {e : Env} {o : Oper} {x : Ax} {v : Value} {obs : Obs} {w : World} (h : axv P H e o x = some (v, obs)) (ho : obs.ok) (hH : Know H w) : (execOp (evE e) o).run P w = .ok (.value v) w := by
  cases x with
  | p =>
    simp only [axv] at h
    split at h
    · rename_i hs; cases h; exact simR_sound _ _ _ _ hs ho.1 (H := []) trivial
    · cases h
  | r i =>
    simp only [axv] at h
    split at h
    · rename_i hs; cases h; exact simR_sound _ _ _ _ hs ho.1 hH
    · cases h
  | l is =>
    simp only [axv] at h
    split at h
    · rename_i hs; cases h; exact simR_sound _ _ _ _ hs ho.1 hH
    · cases h
  | v u v' he =>
    simp only [axv] at h
    split at h
    · rename_i u' obs' hs; cases h
      have h1 : u' = u := ho.2 _ (List.mem_singleton.2 rfl)
      rw [← he, ← h1]; exact simR_sound _ _ _ _ hs ho.1 (H := []) trivial
    · cases h
  | w i u v' he =>
    simp only [axv] at h
    split at h
    · rename_i u' obs' hs; cases h
      have h1 : u' = u := ho.2 _ (List.mem_singleton.2 rfl)
      rw [← he, ← h1]; exact simR_sound _ _ _ _ hs ho.1 hH
    · cases h
  | e b b' he =>
    simp only [axv] at h
    split at h
    · rename_i t x y t' hop
      split at h
      · rename_i xs ys c hx hy hg hc
        cases h
        have h1 : Value.bool c = .bool b := ho.2 _ (List.mem_singleton.2 rfl)
        injection h1 with h1
        subst h1; subst he
        have h2 := eqc_sound (P := P) (w := w) 9988 12 t _ _ _ hc
        rw [hx, hy] at h2
        simp only [execOp, hop, hx, hy, Sem.run_bind, run_eqGuard_agg w _ _ _ _ _ _ hg, Result.andThen_ok, run_eql_struct, Sem.run_pure]
        rw [show (10000 : Nat) = 12 + 9988 from rfl, h2]; rfl
      · cases h
    · rename_i t x y t' hop
      split at h
      · rename_i xs ys c hx hy hg hc
        cases h
        have h1 : Value.bool (!c) = .bool b := ho.2 _ (List.mem_singleton.2 rfl)
        injection h1 with h1
        subst h1; subst he
        have h2 := eqc_sound (P := P) (w := w) 9988 12 t _ _ _ hc
        rw [hx, hy] at h2
        simp only [execOp, hop, hx, hy, Sem.run_bind, run_eqGuard_agg w _ _ _ _ _ _ hg, Result.andThen_ok, run_neq_struct, Sem.run_pure]
        rw [show (10000 : Nat) = 12 + 9988 from rfl, h2]; rfl
      · cases h
    · cases h
  | i A b q n j hA hj =>
    simp only [axv] at h
    split at h
    · rename_i t x ix hop
      split at h
      · rename_i el hu
        split at h
        · rename_i A' n' c' I hx hI
          cases h
          have h1 : Value.slice A' n' c' = .slice A n c' := ho.2 (.slice A' n' c', .slice A n c') (by simp)
          have h2 : evE e ix = .int .i64 (j : Int) := ho.2 (evE e ix, .int .i64 (j : Int)) (by simp)
          injection h1 with h1 h3
          subst h1; subst h3; subst hA
          simp [execOp, hop, hx, h2, Instr.indexAt, asIntOf, underlying, hu, sizeOf, typeInfo, hI, Sem.run_bind, hj, addr_add]
        · cases h
      · cases h
    · cases h
  | s t j b hb =>
    simp only [axv] at h
    split at h
    · rename_i ty x ix hop
      split at h
      · rename_i hu
        cases h
        have h1 : evE e x = .string t := ho.2 (evE e x, .string t) (by simp)
        have h2 : evE e ix = .int .i64 (j : Int) := ho.2 (evE e ix, .int .i64 (j : Int)) (by simp)
        simp [execOp, hop, h1, h2, Instr.index, asIntOf, underlying, hu, hb, Sem.run_bind]
      · cases h
    · cases h

/-- What an operation that makes a block comes to. -/
def simN {α : Type} (P : Program) : Sem α → Nat → Option (α × Obj)
  | .new o k, b => match simR P [] (k b) [] with
    | some (v, []) => some (v, o)
    | _ => none
  | .program k, b => simN P (k P) b
  | .mark _ k, b => simN P k b
  | _, _ => none
theorem simN_sound {α : Type} {P : Program} {w : World} : ∀ (s : Sem α) (v : α) (o : Obj), simN P s w.heap.size = some (v, o) → s.run P w = .ok v (w.alloc o) := by
  intro s
  induction s with
  | new o' k ih =>
    intro v ob h
    simp only [simN] at h
    split at h
    · rename_i v' hs; cases h
      simp only [Sem.run]
      exact simR_sound (w := w.alloc _) _ _ _ _ hs trivial (H := []) trivial
    · cases h
  | program k ih => intro v o h; simp only [simN] at h; simp only [Sem.run]; exact ih P v o h
  | mark m k ih => intro v o h; simp only [simN] at h; simp only [Sem.run]; exact ih v o h
  | _ => intro v o h; simp [simN] at h

/-- A word of a script. -/
inductive Tk where
  /-- so manyV steps that read nothing -/
  | p (n : Nat)
  | a (x : Ax)
  /-- a store into the block at i; a region's knowledge then: of the blocks at js -/
  | s (i : Nat) (js : List Nat)
  /-- a new block -/
  | n (js : List Nat)
  /-- a branch at b -/
  | c (b b' : Bool) (h : b = b')
  /-- a region that draws begins; what is known there: of the blocks at hs -/
  | d (hs : List Nat)
  /-- in it: operation i is taken -/
  | q (i : Nat) (x : Ax)
  /-- so are these -/
  | qs (l : List Nat)
  /-- it is done -/
  | z
  /-- operation i, the only one that is ready, comes up -/
  | o (i : Nat)
  /-- a loop of so manyV rounds and one, laid out -/
  | u (n : Nat)
def kns (L : List Ent) (js : List Nat) : List Kn := js.map fun j => match L[j]? with
  | some e => e.kn
  | none => .no
theorem know_kns {w0 w : World} {L : List Ent} (O : Own w0 w (L.map Ent.t)) : ∀ js : List Nat, Know (kns L js) w
  | [] => trivial
  | j :: js => by
    refine ⟨?_, know_kns O js⟩
    show Kn.holds w (match L[j]? with | some e => e.kn | none => .no)
    cases h : L[j]? with
    | none => trivial
    | some e =>
      cases e with
      | blk b o => exact O.blk (ent_at h)
      | thing t => trivial
      | row el size g n c xs =>
        obtain ⟨S, hS, _⟩ := O.at (ent_at h)
        exact row_kn hS
theorem know_app {w : World} : ∀ {H G : List Kn}, Know H w → Know G w → Know (H ++ G) w
  | [], _, _, h => h
  | _ :: _, _, h, g => ⟨h.1, know_app h.2 g⟩
/-- The operation that is at hand, what is known of it, and how it goes on with its value. -/
def cur : Ct → Env → Option (Array Oper × Oper)
  | .ops all (o :: _) _, _ => some (all, o)
  | .at all _ _ _ _ i, _ => match all[i]? with
    | some o => some (all, o)
    | none => none
  | _, _ => none
def nxt : Ct → Ct
  | .ops all (_ :: rest) k => .ops all rest k
  | .at all H fuel listed k i => .any all H fuel (listed.setIfInBounds i true) k
  | _ => .bad
def held : Ct → List Kn
  | .any _ H _ _ _ => H
  | .at _ H _ _ _ _ => H
  | _ => []
/-- One step that reads nothing. -/
def p1 (P : Program) (N : Nat) (σ : Stt) : Option Stt :=
  match norm 200 σ.c with
  | .code (.cond c x y) k => match boolE σ.e c with
    | some (.bool true) => some ⟨.code x k, σ.e, σ.L, σ.X⟩
    | some (.bool false) => some ⟨.code y k, σ.e, σ.L, σ.X⟩
    | _ => none
  | c => match cur c σ.e with
    | some (all, o) => match wantE σ.e all o with
      | some true => match chk N σ.e o, axv P [] σ.e o .p with
        | true, some (v, ([], [])) => some ⟨nxt c, putE σ.e o.dst v, σ.L, σ.X⟩
        | _, _ => none
      | some false => match dstOk N o.dst with
        | true => some ⟨nxt c, putE σ.e o.dst undef, σ.L, σ.X⟩
        | false => none
      | none => none
    | none => none
def pn (P : Program) (N : Nat) : Nat → Stt → Option Stt
  | 0, σ => some σ
  | n + 1, σ => match p1 P N σ with
    | some σ' => pn P N n σ'
    | none => none
def q1 (P : Program) (N : Nat) (i : Nat) (x : Ax) (σ : Stt) : Option (Stt × Obs) :=
  match σ.c with
  | .any all H (fuel + 1) listed k => match all[i]?, Region.noSelect all, Region.free .any all listed i, (Region.ready .any all listed).contains i with
    | some o, true, true, true => match wantE σ.e all o with
      | some true => match chk N σ.e o, axv P H σ.e o x with
        | true, some (v, obs) => some (⟨.any all H fuel (listed.setIfInBounds i true) k, putE σ.e o.dst v, σ.L, σ.X⟩, obs)
        | _, _ => none
      | some false => match dstOk N o.dst with
        | true => some (⟨.any all H fuel (listed.setIfInBounds i true) k, putE σ.e o.dst undef, σ.L, σ.X⟩, ([], []))
        | false => none
      | none => none
    | _, _, _, _ => none
  | _ => none
def qn (P : Program) (N : Nat) : List Nat → Stt → Option Stt
  | [], σ => some σ
  | i :: l, σ => match q1 P N i .p σ with
    | some (σ', ([], [])) => qn P N l σ'
    | _ => none
/-- A word that makes no block. -/
def one (P : Program) (N : Nat) (σ : Stt) : Tk → Option (Stt × Obs)
  | .p n => (pn P N n σ).map fun σ' => (σ', ([], []))
  | .a x => match norm 200 σ.c with
    | c => match cur c σ.e with
      | some (all, o) => match wantE σ.e all o, chk N σ.e o, axv P (σ.X ++ σ.L.map Ent.kn) σ.e o x with
        | some true, true, some (v, obs) => some (⟨nxt c, putE σ.e o.dst v, σ.L, σ.X⟩, obs)
        | _, _, _ => none
      | none => none
  | .c b b' _ => match norm 200 σ.c with
    | .code (.cond c x y) k => match boolE σ.e c with
      | some v => match b' with
        | true => some (⟨.code x k, σ.e, σ.L, σ.X⟩, ([], [(v, .bool b)]))
        | false => some (⟨.code y k, σ.e, σ.L, σ.X⟩, ([], [(v, .bool b)]))
      | none => none
    | _ => none
  | .d hs => match norm 200 σ.c with
    | .code (.region _ ops true) k => match P.follows .mixedOrders with
      | true => some (⟨.any ops (kns σ.L hs ++ σ.X) ops.size (Array.replicate ops.size false) k, σ.e, σ.L, σ.X⟩, ([], []))
      | false => none
    | _ => none
  | .q i x => q1 P N i x σ
  | .qs l => (qn P N l σ).map fun σ' => (σ', ([], []))
  | .z => match σ.c with
    | .any all _ _ listed k => match Region.ready .any all listed with
      | [] => some (⟨.out .normal k, σ.e, σ.L, σ.X⟩, ([], []))
      | _ => none
    | _ => none
  | .o i => match σ.c with
    | .any all H (fuel + 1) listed k => match Region.ready .any all listed with
      | [j] => match Nat.beq i j with
        | true => some (⟨.at all H fuel listed k i, σ.e, σ.L, σ.X⟩, ([], []))
        | false => none
      | _ => none
    | _ => none
  | .u n => match norm 200 σ.c with
    | .code (.loop c) k => some (⟨.code c (.rnd n c k), σ.e, σ.L, σ.X⟩, ([], []))
    | _ => none
  | _ => none
/-- A store. -/
def st1 (P : Program) (N : Nat) (i : Nat) (σ : Stt) : Option (Stt × Obs) :=
  match norm 200 σ.c with
  | c => match cur c σ.e with
    | some (all, o) => match wantE σ.e all o, chk N σ.e o, sim P (execOp (evE σ.e) o) (rep i) [] σ.L with
      | some true, true, some (.skip, L', obs) => some (⟨nxt c, putE σ.e o.dst undef, L', []⟩, (obs, []))
      | _, _, _ => none
    | none => none
def nw1 (P : Program) (N : Nat) (b : Nat) (σ : Stt) : Option Stt :=
  match norm 200 σ.c with
  | c => match cur c σ.e with
    | some (all, o) => match wantE σ.e all o, chk N σ.e o, simN P (execOp (evE σ.e) o) b with
      | some true, true, some (.value v, ob) => some ⟨nxt c, putE σ.e o.dst v, .blk b ob :: σ.L, []⟩
      | _, _, _ => none
    | none => none
abbrev Out := List Nat × List Nat × List Value × List Value × List (List Kn) × List (List Kn)
structure Run where
  σ : Stt
  obs : Out
def obs0 : Obs → Out → Out
  | (o, v), (a, b, c, d, f, g) => (o.map (·.1) ++ a, o.map (·.2) ++ b, v.map (·.1) ++ c, v.map (·.2) ++ d, f, g)
def obsK : List Kn → List Kn → Out → Out
  | h, h', (a, b, c, d, f, g) => (a, b, c, d, h :: f, h' :: g)
def addO (ob : Obs) : Option Run → Option Run
  | some r => some ⟨r.σ, obs0 ob r.obs⟩
  | none => none
def addK (h h' : List Kn) : Option Run → Option Run
  | some r => some ⟨r.σ, obsK h h' r.obs⟩
  | none => none
def run (P : Program) (N : Nat) : List Tk → List Nat → Stt → Option Run
  | [], [], σ => some ⟨σ, ([], [], [], [], [], [])⟩
  | [], _ :: _, _ => none
  | .n js :: ts, b :: bs, σ => match nw1 P N b σ with
    | some σ' => addK (held σ'.c) (kns σ'.L js) (run P N ts bs σ')
    | none => none
  | .n _ :: _, [], _ => none
  | .s i js :: ts, bs, σ => match st1 P N i σ with
    | some (σ', ob) => addK (held σ'.c) (kns σ'.L js) (addO ob (run P N ts bs σ'))
    | none => none
  | t :: ts, bs, σ => match one P N σ t with
    | some (σ', ob) => addO ob (run P N ts bs σ')
    | none => none
def Run.lhs : Option Run → Option (List Nat × List Value × List (List Kn))
  | some ⟨_, (a, _, c, _, f, _)⟩ => some (a, c, f)
  | none => none
def Run.rhs : Option Run → Option (List Nat × List Value × List (List Kn))
  | some ⟨_, (_, b, _, d, _, g)⟩ => some (b, d, g)
  | none => some ([], [], [])
def fin : Option Run → Stt
  | some r => r.σ
  | none => badSt
/-- All that a run wants is so. -/
def Ok (x : Option Run) : Prop := Run.lhs x = Run.rhs x
theorem Ok.obs0 {ob : Obs} {x : Option Run} (h : Ok (addO ob x)) : ob.ok ∧ Ok x ∧ fin (addO ob x) = fin x := by
  cases x with
  | none => simp [Ok, addO, Run.lhs, Run.rhs] at h
  | some r =>
    obtain ⟨σ, a, b, c, d, f, g⟩ := r
    obtain ⟨o, v⟩ := ob
    simp only [Ok, addO, Go.Proofs.YtikimmgileffgaaGreatDoor.obs0, Run.lhs, Run.rhs, Option.some.injEq, Prod.mk.injEq] at h
    obtain ⟨h1, h2, h3⟩ := h
    have l1 := List.append_inj h1 (by simp)
    have l2 := List.append_inj h2 (by simp)
    refine ⟨⟨?_, ?_⟩, ?_, rfl⟩
    · have : ∀ l : List (Nat × Nat), l.map (·.1) = l.map (·.2) → AllEq l := by
        intro l
        induction l with
        | nil => intro _; trivial
        | cons p l ih => intro h; simp only [List.map_cons, List.cons.injEq] at h; exact ⟨h.1, ih h.2⟩
      exact this o l1.1
    · have : ∀ l : List (Value × Value), l.map (·.1) = l.map (·.2) → ∀ p ∈ l, p.1 = p.2 := by
        intro l
        induction l with
        | nil => intro _ p hp; cases hp
        | cons q l ih =>
          intro h p hp
          simp only [List.map_cons, List.cons.injEq] at h
          rcases List.mem_cons.1 hp with rfl | hp
          · exact h.1
          · exact ih h.2 p hp
      exact this v l2.1
    · simp [Ok, Run.lhs, Run.rhs, l1.2, l2.2, h3]
theorem Ok.obsK {H H' : List Kn} {x : Option Run} (h : Ok (addK H H' x)) : H = H' ∧ Ok x ∧ fin (addK H H' x) = fin x := by
  cases x with
  | none => simp [Ok, addK, Run.lhs, Run.rhs] at h
  | some r =>
    obtain ⟨σ, a, b, c, d, f, g⟩ := r
    simp only [Ok, addK, Go.Proofs.YtikimmgileffgaaGreatDoor.obsK, Run.lhs, Run.rhs, Option.some.injEq, Prod.mk.injEq, List.cons.injEq] at h
    obtain ⟨h1, h2, h3, h4⟩ := h
    exact ⟨h3, by simp [Ok, Run.lhs, Run.rhs, h1, h2, h4], rfl⟩
theorem know_drew {w : World} : ∀ {H : List Kn}, Know H w → Know H w.drew
  | [], _ => trivial
  | .blk _ _ :: _, h => ⟨h.1, know_drew h.2⟩
  | .cell _ _ _ :: _, h => ⟨h.1, know_drew h.2⟩
  | .row _ _ :: _, h => ⟨h.1, know_drew h.2⟩
  | .no :: _, h => ⟨trivial, know_drew h.2⟩
def AllN : Nat → (List Nat → Prop) → Prop
  | 0, F => F []
  | n + 1, F => ∀ b, AllN n fun l => F (b :: l)
theorem AllN.some {n : Nat} {F : List Nat → Prop} (h : AllN n F) : ∃ l, F l := by
  induction n generalizing F with
  | zero => exact ⟨[], h⟩
  | succ n ih => obtain ⟨l, hl⟩ := ih (h 0); exact ⟨_, hl⟩
theorem AllN.mono {n : Nat} {F G : List Nat → Prop} (h : AllN n F) (k : ∀ l, F l → G l) : AllN n G := by
  induction n generalizing F G with
  | zero => exact k _ h
  | succ n ih => exact fun b => ih (h b) fun l hl => k _ hl

def Ct.kt : Ct → Kt
  | .code _ k => k
  | .ops _ _ k => k
  | .any _ _ _ _ k => k
  | .at _ _ _ _ k _ => k
  | .out _ k => k
  | .bad => .fin
section machine
variable {P : Program} {fn : Func} {R : Ending → World → Prop} {w w0 : World} {σ : Stt} {N : Nat} {e : Env} {B : Exit → Act → World → Prop}
theorem Kt.panic {k : Kt} {c : List PanicEntry} : (k.den P B) (.panic c) = B (.panic c) := by
  induction k with
  | fin => rfl
  | code y k ih => exact ih
  | blk id k ih => exact ih
  | scope k ih => exact ih
  | cut M k ih => exact ih
  | rnd n c k ih => exact ih
theorem cur_op {c : Ct} {all : Array Oper} {o : Oper} (hc : cur c e = some (all, o)) (hw : wantE e all o = some true)
    (h : ∀ K : Act → World → Prop, (∀ v w', (nxt c).inv w' → WK ((nxt c).den P B) N (putE e o.dst v) w' → WK K N (putE e o.dst v) w') → WO P o K (c.kt.den P B) N e w) : WK (c.den P B) N e w := by
  cases c with
  | ops all' rest k =>
    cases rest with
    | nil => simp [cur] at hc
    | cons o' rest =>
      simp only [cur, Option.some.injEq, Prod.mk.injEq] at hc
      obtain ⟨rfl, rfl⟩ := hc
      exact l_op hw (h _ fun v w' _ hk => hk)
  | «at» all' H fuel listed k i =>
    simp only [cur] at hc
    split at hc
    · rename_i o' ho
      simp only [Option.some.injEq, Prod.mk.injEq] at hc
      obtain ⟨rfl, rfl⟩ := hc
      exact fun a F => r_op (K := fun a' w' => Know H w' ∧ wpAnyH P .any all' (k.den P B) (Know H) fuel (listed.setIfInBounds i true) a' w') ho hw (h _ fun v w' hi hk => fun a F => ⟨hi, hk a F⟩) a F
    · cases hc
  | _ => simp [cur] at hc
theorem cur_no {c : Ct} {all : Array Oper} {o : Oper} (hc : cur c e = some (all, o)) (hw : wantE e all o = some false) (hd : dstOk N o.dst = true) (hi : (nxt c).inv w)
    (h : WK ((nxt c).den P B) N (putE e o.dst undef) w) : WK (c.den P B) N e w := by
  cases c with
  | ops all' rest k =>
    cases rest with
    | nil => simp [cur] at hc
    | cons o' rest =>
      simp only [cur, Option.some.injEq, Prod.mk.injEq] at hc
      obtain ⟨rfl, rfl⟩ := hc
      exact l_no hw hd h
  | «at» all' H fuel listed k i =>
    simp only [cur] at hc
    split at hc
    · rename_i o' ho
      simp only [Option.some.injEq, Prod.mk.injEq] at hc
      obtain ⟨rfl, rfl⟩ := hc
      exact fun a F => r_opno (K := fun a' w' => Know H w' ∧ wpAnyH P .any all' (k.den P B) (Know H) fuel (listed.setIfInBounds i true) a' w') ho hw hd (fun a F => ⟨hi, h a F⟩) a F
    · cases hc
  | _ => simp [cur] at hc
theorem nxt_inv {c : Ct} {all : Array Oper} {o : Oper} (hc : cur c e = some (all, o)) : (nxt c).inv w ↔ c.inv w := by
  cases c with
  | ops all' rest k => cases rest <;> simp [nxt, Ct.inv]
  | «at» all' H fuel listed k i => rfl
  | _ => simp [cur] at hc
theorem nxt_held {c : Ct} {all : Array Oper} {o : Oper} {w' : World} (hc : cur c e = some (all, o)) (hk : Know (held (nxt c)) w') : (nxt c).inv w' := by
  cases c with
  | ops all' rest k => cases rest <;> simp [nxt, Ct.inv]
  | «at» all' H fuel listed k i => exact hk
  | _ => simp [cur] at hc
/-- An operation that gives a value. -/
theorem cur_val {c : Ct} {all : Array Oper} {o : Oper} {v : Value} {x : Next} {w' : World} (hc : cur c e = some (all, o)) (hw : wantE e all o = some true) (hk : chk N e o = true) (hr : (execOp (evE e) o).run P w = .ok x w') (hx : x = .value v ∨ x = .skip ∧ v = undef) (hi : (nxt c).inv w')
    (h : WK ((nxt c).den P B) N (putE e o.dst v) w') : WK (c.den P B) N e w := by
  refine cur_op hc hw fun K hK => ?_
  intro a F
  unfold Oper.wp
  rw [F.exec hk, hr]
  rcases hx with rfl | ⟨rfl, rfl⟩
  · exact hK v w' hi h _ (F.put (chk_dst hk) _)
  · exact hK undef w' hi h _ (F.put (chk_dst hk) _)
theorem p1_sound {σ' : Stt} (h : p1 P N σ = some σ') (hi : σ.c.inv w) : σ'.L = σ.L ∧ σ'.X = σ.X ∧ (σ.c.inv w → σ'.c.inv w) ∧ (WK (σ'.c.den P B) N σ'.e w → WK (σ.c.den P B) N σ.e w) := by
  have hi' := norm_inv 200 hi
  unfold p1 at h
  split at h
  · rename_i c x y k hn
    have key : ∀ {Z : Prop}, (Z → WK ((Code.cond c x y).wp P (k.den P B)) N σ.e w) → Z → WK (σ.c.den P B) N σ.e w := fun f z => norm_sound 200 (by rw [hn]; exact f z)
    split at h
    · rename_i hb; cases h; exact ⟨rfl, rfl, fun _ => trivial, key fun hk => k_true hb hk⟩
    · rename_i hb; cases h; exact ⟨rfl, rfl, fun _ => trivial, key fun hk => k_false hb hk⟩
    · cases h
  · rename_i hn
    split at h
    · rename_i all o hc
      split at h
      · rename_i hw
        split at h
        · rename_i v hk hv
          cases h
          have hin := (nxt_inv (w := w) hc).2 hi'
          exact ⟨rfl, rfl, fun _ => hin, fun hh => norm_sound 200 (cur_val hc hw hk (axv_sound hv ⟨trivial, fun p hp => by cases hp⟩ (H := []) trivial) (.inl rfl) hin hh)⟩
        · cases h
      · rename_i hw
        split at h
        · rename_i hd
          cases h
          have hin := (nxt_inv (w := w) hc).2 hi'
          exact ⟨rfl, rfl, fun _ => hin, fun hh => norm_sound 200 (cur_no hc hw hd hin hh)⟩
        · cases h
      · cases h
    · cases h
theorem pn_sound : ∀ (n : Nat) {σ σ' : Stt}, pn P N n σ = some σ' → σ.c.inv w → σ'.L = σ.L ∧ σ'.X = σ.X ∧ (σ.c.inv w → σ'.c.inv w) ∧ (WK (σ'.c.den P B) N σ'.e w → WK (σ.c.den P B) N σ.e w)
  | 0, σ, σ', h, _ => by simp only [pn] at h; cases h; exact ⟨rfl, rfl, id, id⟩
  | n + 1, σ, σ', h, hi => by
    simp only [pn] at h
    split at h
    · rename_i σ1 h1
      obtain ⟨a1, a2, a3, a4⟩ := p1_sound (B := B) h1 hi
      obtain ⟨b1, b2, b3, b4⟩ := pn_sound n h (a3 hi)
      exact ⟨b1.trans a1, b2.trans a2, fun h => b3 (a3 h), fun h => a4 (b4 h)⟩
    · cases h
theorem q1_sound {i : Nat} {x : Ax} {σ' : Stt} {ob : Obs} (hB : ∀ c a o v w, B (.panic c) (Act.put a o v) w → B (.panic c) a w) (h : q1 P N i x σ = some (σ', ob)) (ho : ob.ok) (hi : σ.c.inv w) : σ'.L = σ.L ∧ σ'.X = σ.X ∧ σ'.c.inv w ∧ (WK (σ'.c.den P B) N σ'.e w → WK (σ.c.den P B) N σ.e w) := by
  unfold q1 at h
  split at h
  · rename_i all H fuel listed k hc
    rw [hc] at hi
    split at h
    · rename_i o hai hs hf hr
      split at h
      · rename_i hw
        split at h
        · rename_i v obs hk hv
          cases h
          refine ⟨rfl, rfl, hi, fun hh => ?_⟩
          rw [hc]
          intro a F
          refine wpAnyH_take hai hs hf hr (v := v) (fun c a w hq => ?_) (.inl ⟨F.want hw, fun w' hS => ?_⟩) hi (hh _ (F.put (chk_dst hk) _))
          · rw [Kt.panic] at hq ⊢; exact hB _ _ _ _ _ hq
          · rw [F.exec hk]; exact axv_sound hv ho hS
        · cases h
      · rename_i hw
        split at h
        · rename_i hd
          cases h
          refine ⟨rfl, rfl, hi, fun hh => ?_⟩
          rw [hc]
          intro a F
          refine wpAnyH_take hai hs hf hr (v := undef) (fun c a w hq => ?_) (.inr ⟨F.want hw, rfl⟩) hi (hh _ (F.put hd _))
          rw [Kt.panic] at hq ⊢; exact hB _ _ _ _ _ hq
        · cases h
      · cases h
    · cases h
  · cases h
theorem qn_sound (hB : ∀ c a o v w, B (.panic c) (Act.put a o v) w → B (.panic c) a w) : ∀ (l : List Nat) {σ σ' : Stt}, qn P N l σ = some σ' → σ.c.inv w → σ'.L = σ.L ∧ σ'.X = σ.X ∧ σ'.c.inv w ∧ (WK (σ'.c.den P B) N σ'.e w → WK (σ.c.den P B) N σ.e w)
  | [], σ, σ', h, hi => by simp only [qn] at h; cases h; exact ⟨rfl, rfl, hi, id⟩
  | i :: l, σ, σ', h, hi => by
    simp only [qn] at h
    split at h
    · rename_i σ1 h1
      obtain ⟨a1, a2, a3, a4⟩ := q1_sound hB h1 ⟨trivial, fun p hp => by cases hp⟩ hi
      obtain ⟨b1, b2, b3, b4⟩ := qn_sound hB l h a3
      exact ⟨b1.trans a1, b2.trans a2, b3, fun h => a4 (b4 h)⟩
    · cases h
/-- What a world keeps while nothing is made or written. -/
theorem one_sound (hB : ∀ c a o v w, B (.panic c) (Act.put a o v) w → B (.panic c) a w) {t : Tk} {σ' : Stt} {ob : Obs} (h : one P N σ t = some (σ', ob)) (ho : ob.ok) (O : Own w0 w (σ.L.map Ent.t)) (hi : σ.c.inv w) (hX : Know σ.X w)
    (hk : ∀ w', Own w0 w' (σ'.L.map Ent.t) → σ'.c.inv w' → Know σ'.X w' → WK (σ'.c.den P B) N σ'.e w') : WK (σ.c.den P B) N σ.e w := by
  cases t with
  | p n =>
    simp only [one, Option.map_eq_some_iff] at h
    obtain ⟨σ1, h1, h2⟩ := h
    cases h2
    obtain ⟨a1, a2, a3, a4⟩ := pn_sound (B := B) n h1 hi
    exact a4 (hk w (by rw [a1]; exact O) (a3 hi) (by rw [a2]; exact hX))
  | a x =>
    simp only [one] at h
    split at h
    · rename_i all o hc
      split at h
      · rename_i v obs hw hkk hv
        cases h
        have hin := (nxt_inv (w := w) hc).2 (norm_inv 200 hi)
        exact norm_sound 200 (cur_val hc hw hkk (axv_sound hv ho (know_app hX O.knowAll)) (.inl rfl) hin (hk w O hin hX))
      · cases h
    · cases h
  | s i js => simp [one] at h
  | n js => simp [one] at h
  | c b b' he =>
    simp only [one] at h
    split at h
    · rename_i c x y k hn
      split at h
      · rename_i v hb
        subst he
        cases b with
        | true =>
          cases h
          have h1 : v = .bool true := ho.2 (v, .bool true) (List.mem_singleton.2 rfl)
          exact norm_sound 200 (by rw [hn]; exact k_true (h1 ▸ hb) (hk w O trivial hX))
        | false =>
          cases h
          have h1 : v = .bool false := ho.2 (v, .bool false) (List.mem_singleton.2 rfl)
          exact norm_sound 200 (by rw [hn]; exact k_false (h1 ▸ hb) (hk w O trivial hX))
      · cases h
    · cases h
  | d hs =>
    simp only [one] at h
    split at h
    · rename_i id ops k hn
      split at h
      · rename_i hm
        cases h
        refine norm_sound 200 ?_
        rw [hn]
        intro a F
        have hkn : Know (kns σ.L hs ++ σ.X) w.drew := know_app (know_kns O.drew hs) (know_drew hX)
        exact wp_region_held_drew hm hkn fun _ => hk w.drew O.drew hkn (know_drew hX) a F
      · cases h
    · cases h
  | q i x =>
    simp only [one] at h
    obtain ⟨a1, a2, a3, a4⟩ := q1_sound hB h ho hi
    exact a4 (hk w (by rw [a1]; exact O) a3 (by rw [a2]; exact hX))
  | qs l =>
    simp only [one, Option.map_eq_some_iff] at h
    obtain ⟨σ1, h1, h2⟩ := h
    cases h2
    obtain ⟨a1, a2, a3, a4⟩ := qn_sound hB l h1 hi
    exact a4 (hk w (by rw [a1]; exact O) a3 (by rw [a2]; exact hX))
  | z =>
    simp only [one] at h
    split at h
    · rename_i all H fuel listed k hc
      split at h
      · rename_i hr
        cases h
        rw [hc]
        exact r_done hr (hk w O trivial hX)
      · cases h
    · cases h
  | o i =>
    simp only [one] at h
    split at h
    · rename_i all H fuel listed k hc
      split at h
      · rename_i j hr
        split at h
        · rename_i hij
          cases h
          have hij : i = j := by simpa using hij
          subst hij
          rw [hc] at hi ⊢
          intro a F
          exact wpAnyH_all hr (by simp) fun i' hi' => by
            rw [List.mem_singleton.1 hi']
            exact hk w O hi hX a F
        · cases h
      · cases h
    · cases h
  | u n =>
    simp only [one] at h
    split at h
    · rename_i c k hn
      cases h
      refine norm_sound 200 ?_
      rw [hn]
      exact k_rounds (n + 1) (u_step (hk w O trivial hX))
    · cases h
theorem run_stepM (hB : ∀ c a o v w, B (.panic c) (Act.put a o v) w → B (.panic c) a w) {ts : List Tk} {t : Tk} {n : Nat}
    (hrun : ∀ bs, run P N (t :: ts) bs σ = match one P N σ t with | some (σ', ob) => addO ob (run P N ts bs σ') | none => none)
    (ih : ∀ (σ' : Stt) (w' : World), Own w0 w' (σ'.L.map Ent.t) → σ'.c.inv w' → Know σ'.X w' →
      AllN n (fun bs => Ok (run P N ts bs σ') ∧ ∀ w'', Own w0 w'' ((fin (run P N ts bs σ')).L.map Ent.t) → (fin (run P N ts bs σ')).c.inv w'' → Know (fin (run P N ts bs σ')).X w'' → WK ((fin (run P N ts bs σ')).c.den P B) N (fin (run P N ts bs σ')).e w'') → WK (σ'.c.den P B) N σ'.e w')
    (O : Own w0 w (σ.L.map Ent.t)) (hi : σ.c.inv w) (hX : Know σ.X w)
    (h : AllN n (fun bs => Ok (run P N (t :: ts) bs σ) ∧ ∀ w', Own w0 w' ((fin (run P N (t :: ts) bs σ)).L.map Ent.t) → (fin (run P N (t :: ts) bs σ)).c.inv w' → Know (fin (run P N (t :: ts) bs σ)).X w' → WK ((fin (run P N (t :: ts) bs σ)).c.den P B) N (fin (run P N (t :: ts) bs σ)).e w')) : WK (σ.c.den P B) N σ.e w := by
  simp only [hrun] at h
  cases h1 : one P N σ t with
  | none =>
    obtain ⟨l, hl⟩ := h.some
    simp [h1, Ok, Run.lhs, Run.rhs] at hl
  | some r =>
    obtain ⟨σ1, ob⟩ := r
    simp only [h1] at h
    obtain ⟨l, hl⟩ := h.some
    refine one_sound hB h1 hl.1.obs0.1 O hi hX fun w' O' hi' hX' => ih σ1 w' O' hi' hX' (h.mono fun bs hb => ?_)
    obtain ⟨_, e2, e3⟩ := hb.1.obs0
    exact ⟨e2, fun w'' => by have := hb.2 w''; rw [e3] at this; exact this⟩
theorem run_sound (hB : ∀ c a o v w, B (.panic c) (Act.put a o v) w → B (.panic c) a w) : ∀ (ts : List Tk) (n : Nat) (σ : Stt) (w : World), Own w0 w (σ.L.map Ent.t) → σ.c.inv w → Know σ.X w →
    AllN n (fun bs => Ok (run P N ts bs σ) ∧ ∀ w', Own w0 w' ((fin (run P N ts bs σ)).L.map Ent.t) → (fin (run P N ts bs σ)).c.inv w' → Know (fin (run P N ts bs σ)).X w' → WK ((fin (run P N ts bs σ)).c.den P B) N (fin (run P N ts bs σ)).e w') → WK (σ.c.den P B) N σ.e w
  | [], 0, σ, w, O, hi, hX, h => h.2 w O hi hX
  | [], n + 1, σ, w, O, hi, hX, h => by
    obtain ⟨l, hl⟩ := (h 0).some
    simp [run, Ok, Run.lhs, Run.rhs] at hl
  | .n js :: ts, 0, σ, w, O, hi, hX, h => by
    have h : _ ∧ _ := h
    simp [run, Ok, Run.lhs, Run.rhs] at h
  | .n js :: ts, n + 1, σ, w, O, hi, hX, h => by
    have h := h w.heap.size
    simp only [run] at h
    cases h1 : nw1 P N w.heap.size σ with
    | none =>
      obtain ⟨l, hl⟩ := h.some
      simp [h1, Ok, Run.lhs, Run.rhs] at hl
    | some σ1 =>
      simp only [h1] at h
      unfold nw1 at h1
      simp only at h1
      split at h1
      · rename_i all o hc
        split at h1
        · rename_i v ob hw hk hv
          cases h1
          obtain ⟨l, hl⟩ := h.some
          have e1 := hl.1.obsK.1
          have hin : (nxt (norm 200 σ.c)).inv (w.alloc ob) := nxt_held hc (by rw [e1]; exact know_kns (L := .blk w.heap.size ob :: σ.L) (O.alloc ob) js)
          refine norm_sound 200 (cur_val hc hw hk (simN_sound _ _ _ hv) (.inl rfl) hin ?_)
          refine run_sound hB ts n ⟨nxt (norm 200 σ.c), putE σ.e o.dst v, .blk w.heap.size ob :: σ.L, []⟩ (w.alloc ob) (O.alloc ob) hin trivial (h.mono fun bs hb => ?_)
          obtain ⟨e1, e2, e3⟩ := hb.1.obsK
          exact ⟨e2, fun w' => by have := hb.2 w'; rw [e3] at this; exact this⟩
        · cases h1
      · cases h1
  | .s i js :: ts, n, σ, w, O, hi, hX, h => by
    simp only [run] at h
    cases h1 : st1 P N i σ with
    | none =>
      obtain ⟨l, hl⟩ := h.some
      simp [h1, Ok, Run.lhs, Run.rhs] at hl
    | some r =>
      obtain ⟨σ1, ob⟩ := r
      simp only [h1] at h
      unfold st1 at h1
      simp only at h1
      split at h1
      · rename_i all o hc
        split at h1
        · rename_i L' obs hw hk hv
          cases h1
          obtain ⟨l, hl⟩ := h.some
          have key : ∀ x : Option Run, Ok (addK (held (nxt (norm 200 σ.c))) (kns L' js) (addO (obs, []) x)) → held (nxt (norm 200 σ.c)) = kns L' js ∧ AllEq obs ∧ Ok x ∧ fin (addK (held (nxt (norm 200 σ.c))) (kns L' js) (addO (obs, []) x)) = fin x := by
            intro x hx
            obtain ⟨a1, a2, a3⟩ := Ok.obsK hx
            obtain ⟨b1, b2, b3⟩ := Ok.obs0 a2
            exact ⟨a1, b1.1, b2, a3.trans b3⟩
          obtain ⟨e1, e2, _⟩ := key _ hl.1
          obtain ⟨w', hr, O'⟩ := sim_sound (w0 := w0) _ _ _ _ w _ _ _ hv e2 O (fun j b hj => by simp at hj)
          have hin : (nxt (norm 200 σ.c)).inv w' := nxt_held hc (by rw [e1]; exact know_kns O' js)
          refine norm_sound 200 (cur_val hc hw hk hr (.inr ⟨rfl, rfl⟩) hin ?_)
          refine run_sound hB ts n ⟨nxt (norm 200 σ.c), putE σ.e o.dst undef, L', []⟩ w' O' hin trivial (h.mono fun bs hb => ?_)
          obtain ⟨_, _, e3, e4⟩ := key _ hb.1
          exact ⟨e3, fun w' => by have := hb.2 w'; rw [e4] at this; exact this⟩
        · cases h1
      · cases h1
  | .p m :: ts, n, σ, w, O, hi, hX, h => run_stepM hB (t := .p m) (fun bs => by simp only [run]) (fun σ' w' => run_sound hB ts n σ' w') O hi hX h
  | .a x :: ts, n, σ, w, O, hi, hX, h => run_stepM hB (t := .a x) (fun bs => by simp only [run]) (fun σ' w' => run_sound hB ts n σ' w') O hi hX h
  | .c b b' hb :: ts, n, σ, w, O, hi, hX, h => run_stepM hB (t := .c b b' hb) (fun bs => by simp only [run]) (fun σ' w' => run_sound hB ts n σ' w') O hi hX h
  | .d hs :: ts, n, σ, w, O, hi, hX, h => run_stepM hB (t := .d hs) (fun bs => by simp only [run]) (fun σ' w' => run_sound hB ts n σ' w') O hi hX h
  | .q i x :: ts, n, σ, w, O, hi, hX, h => run_stepM hB (t := .q i x) (fun bs => by simp only [run]) (fun σ' w' => run_sound hB ts n σ' w') O hi hX h
  | .qs l :: ts, n, σ, w, O, hi, hX, h => run_stepM hB (t := .qs l) (fun bs => by simp only [run]) (fun σ' w' => run_sound hB ts n σ' w') O hi hX h
  | .o i :: ts, n, σ, w, O, hi, hX, h => run_stepM hB (t := .o i) (fun bs => by simp only [run]) (fun σ' w' => run_sound hB ts n σ' w') O hi hX h
  | .u m :: ts, n, σ, w, O, hi, hX, h => run_stepM hB (t := .u m) (fun bs => by simp only [run]) (fun σ' w' => run_sound hB ts n σ' w') O hi hX h
  | .z :: ts, n, σ, w, O, hi, hX, h => run_stepM hB (t := .z) (fun bs => by simp only [run]) (fun σ' w' => run_sound hB ts n σ' w') O hi hX h
theorem body_panic (c : List PanicEntry) (a : Act) (o : Option Tmp) (v : Value) (w : World) (h : bodyPost P fn R (.panic c) (Act.put a o v) w) : bodyPost P fn R (.panic c) a w := by
  cases o <;> exact h
/-- The state behind a run. -/
def rn (P : Program) (fn : Func) (ts : List Tk) (bs : List Nat) (σ : Stt) : Stt := fin (run P fn.ntmps ts bs σ)
def lh (P : Program) (fn : Func) (ts : List Tk) (bs : List Nat) (σ : Stt) := Run.lhs (run P fn.ntmps ts bs σ)
def rh (P : Program) (fn : Func) (ts : List Tk) (bs : List Nat) (σ : Stt) := Run.rhs (run P fn.ntmps ts bs σ)
theorem gN (n : Nat) (ts : List Tk) (O : Own w0 w (σ.L.map Ent.t)) (h : AllN n fun bs => lh P fn ts bs σ = rh P fn ts bs σ ∧ ∀ w', Own w0 w' ((rn P fn ts bs σ).L.map Ent.t) → WS P fn R (rn P fn ts bs σ) w') : WS P fn R σ w := ⟨fun hi hX =>
  run_sound body_panic ts n σ w O hi hX (h.mono fun _ hb => ⟨hb.1, fun w' O' hi' hX' => (hb.2 w' O').out hi' hX'⟩)⟩
theorem sg0 (ts : List Tk) (O : Own w0 w (σ.L.map Ent.t)) (h : ∀ w', Own w0 w' ((rn P fn ts [] σ).L.map Ent.t) → WS P fn R (rn P fn ts [] σ) w') (hk : lh P fn ts [] σ = rh P fn ts [] σ := by kernel_rfl) : WS P fn R σ w := gN 0 ts O ⟨hk, h⟩
theorem sg1 (ts : List Tk) (O : Own w0 w (σ.L.map Ent.t)) (h : ∀ a w', Own w0 w' ((rn P fn ts [a] σ).L.map Ent.t) → WS P fn R (rn P fn ts [a] σ) w') (hk : ∀ a, lh P fn ts [a] σ = rh P fn ts [a] σ := by intro _; kernel_rfl) : WS P fn R σ w := gN 1 ts O fun a => ⟨hk a, h a⟩
theorem sg2 (ts : List Tk) (O : Own w0 w (σ.L.map Ent.t)) (h : ∀ a b w', Own w0 w' ((rn P fn ts [a, b] σ).L.map Ent.t) → WS P fn R (rn P fn ts [a, b] σ) w') (hk : ∀ a b, lh P fn ts [a, b] σ = rh P fn ts [a, b] σ := by intro _ _; kernel_rfl) : WS P fn R σ w := gN 2 ts O fun a b => ⟨hk a b, h a b⟩
theorem sg3 (ts : List Tk) (O : Own w0 w (σ.L.map Ent.t)) (h : ∀ a b c w', Own w0 w' ((rn P fn ts [a, b, c] σ).L.map Ent.t) → WS P fn R (rn P fn ts [a, b, c] σ) w') (hk : ∀ a b c, lh P fn ts [a, b, c] σ = rh P fn ts [a, b, c] σ := by intro _ _ _; kernel_rfl) : WS P fn R σ w := gN 3 ts O fun a b c => ⟨hk a b c, h a b c⟩
theorem sg4 (ts : List Tk) (O : Own w0 w (σ.L.map Ent.t)) (h : ∀ a b c d w', Own w0 w' ((rn P fn ts [a, b, c, d] σ).L.map Ent.t) → WS P fn R (rn P fn ts [a, b, c, d] σ) w') (hk : ∀ a b c d, lh P fn ts [a, b, c, d] σ = rh P fn ts [a, b, c, d] σ := by intro _ _ _ _; kernel_rfl) : WS P fn R σ w := gN 4 ts O fun a b c d => ⟨hk a b c d, h a b c d⟩
/-- A function's beginning. -/
theorem gent {f : FuncId} {args : Array Value} {L : List Ent} {fn : Func} (O : Own w0 w (L.map Ent.t)) (hf : P.funcs[f]? = some fn) (h : WS P fn R ⟨.code (fn.body.getD .skip) .fin, argsE 0 args.toList, L, []⟩ w) (hb : fn.body.isSome = true := by kernel_rfl) (hl : Nat.ble args.size fn.ntmps = true := by kernel_rfl) : Calls P f args w R := by
  have _ := O
  obtain ⟨c, hc⟩ := Option.isSome_iff_exists.1 hb
  refine calls_of_wp hf hc ?_
  have := h.out trivial trivial _ (fits_args (by simpa using hl))
  rw [hc] at this
  exact this
def callee (P : Program) (fn : Func) (σ : Stt) : Option (FuncId × Array Value) :=
  match cur (norm 200 σ.c) σ.e with
  | some (all, o) => match wantE σ.e all o, chk fn.ntmps σ.e o, simR P [] (execOp (evE σ.e) o) [] with
    | some true, true, some (.enter f args, []) => some (f, args)
    | _, _, _ => none
  | none => none
/-- The state behind a call. -/
def ret (σ : Stt) (v : Value) (L : List Ent) : Stt :=
  match cur (norm 200 σ.c) σ.e with
  | some (_, o) => ⟨nxt (norm 200 σ.c), putE σ.e o.dst v, L, []⟩
  | none => badSt
inductive AfterS (P : Program) (fn : Func) (R : Ending → World → Prop) (σ : Stt) : Ending → World → Prop where
  | mk {v : Value} {w : World} (h : ∃ all o, cur (norm 200 σ.c) σ.e = some (all, o) ∧ (nxt (norm 200 σ.c)).inv w ∧ WK ((nxt (norm 200 σ.c)).den P (bodyPost P fn R)) fn.ntmps (putE σ.e o.dst v) w) : AfterS P fn R σ (.returned v) w
theorem gc {f : FuncId} {args : Array Value} {C : Ending → World → Prop} (hC : Calls P f args w C) (h : ∀ e' w', C e' w' → AfterS P fn R σ e' w') (hc : callee P fn σ = some (f, args) := by kernel_rfl) : WS P fn R σ w := by
  refine ⟨fun hi hX => ?_⟩
  unfold callee at hc
  split at hc
  · rename_i all o hcur
    split at hc
    · rename_i f' args' hw hk hs
      cases hc
      refine norm_sound 200 (cur_op hcur hw fun K hK => ?_)
      refine o_call hk hs hC fun e' w' hr => ?_
      have ha := h e' w' hr
      cases e' with
      | returned v =>
        obtain ⟨all', o', hc', hin, hh⟩ := ha
        rw [hcur] at hc'; cases hc'
        exact hK v w' hin hh
      | panicked c => cases ha
      | outgrown => cases ha
    · cases hc
  · cases hc
theorem gr {v : Value} {L' : List Ent} (O : Own w0 w (L'.map Ent.t)) (h : Own w0 w ((ret σ v L').L.map Ent.t) → WS P fn R (ret σ v L') w) (js : List Nat := []) (hs : (cur (norm 200 σ.c) σ.e).isSome = true := by kernel_rfl) (hh : held (nxt (norm 200 σ.c)) = kns L' js := by kernel_rfl) : AfterS P fn R σ (.returned v) w := by
  obtain ⟨⟨all, o⟩, hc⟩ := Option.isSome_iff_exists.1 hs
  have hin : (nxt (norm 200 σ.c)).inv w := nxt_held hc (by rw [hh]; exact know_kns O js)
  refine ⟨all, o, hc, hin, ?_⟩
  unfold ret at h
  rw [hc] at h
  exact (h O).out hin trivial
/-- A call that changes the thing at i. -/
theorem gS {f : FuncId} {args : Array Value} {v : Value} {i : Nat} {x : Thing} (hC : Calls P f args w fun e' w' => e' = .returned v ∧ Own w0 w' ((σ.L.map Ent.t).set i x))
    (h : ∀ w', Own w0 w' ((ret σ v (σ.L.set i (.thing x))).L.map Ent.t) → WS P fn R (ret σ v (σ.L.set i (.thing x))) w') (js : List Nat := []) (hc : callee P fn σ = some (f, args) := by kernel_rfl) (hs : (cur (norm 200 σ.c) σ.e).isSome = true := by kernel_rfl) (hh : held (nxt (norm 200 σ.c)) = kns (σ.L.set i (.thing x)) js := by kernel_rfl) : WS P fn R σ w :=
  gc hC (fun e' w' hr => by obtain ⟨rfl, O'⟩ := hr; exact gr O'.mset (h w') js hs hh) hc
/-- A call that changes the block at i. -/
theorem gSb {f : FuncId} {args : Array Value} {v : Value} {i b : Nat} {o : Obj} (hC : Calls P f args w fun e' w' => e' = .returned v ∧ Own w0 w' ((σ.L.map Ent.t).set i (Go.Proofs.YtikimmgileffgaaGreatDoor.blk b o)))
    (h : ∀ w', Own w0 w' ((ret σ v (σ.L.set i (.blk b o))).L.map Ent.t) → WS P fn R (ret σ v (σ.L.set i (.blk b o))) w') (js : List Nat := []) (hc : callee P fn σ = some (f, args) := by kernel_rfl) (hs : (cur (norm 200 σ.c) σ.e).isSome = true := by kernel_rfl) (hh : held (nxt (norm 200 σ.c)) = kns (σ.L.set i (.blk b o)) js := by kernel_rfl) : WS P fn R σ w :=
  gc hC (fun e' w' hr => by obtain ⟨rfl, O'⟩ := hr; exact gr (L' := σ.L.set i (.blk b o)) (by rw [List.map_set]; exact O') (h w') js hs hh) hc
/-- A call that changes none. -/
theorem gU {f : FuncId} {args : Array Value} {v : Value} (hC : Calls P f args w fun e' w' => e' = .returned v ∧ Own w0 w' (σ.L.map Ent.t))
    (h : ∀ w', Own w0 w' ((ret σ v σ.L).L.map Ent.t) → WS P fn R (ret σ v σ.L) w') (js : List Nat := []) (hc : callee P fn σ = some (f, args) := by kernel_rfl) (hs : (cur (norm 200 σ.c) σ.e).isSome = true := by kernel_rfl) (hh : held (nxt (norm 200 σ.c)) = kns σ.L js := by kernel_rfl) : WS P fn R σ w :=
  gc hC (fun e' w' hr => by obtain ⟨rfl, O'⟩ := hr; exact gr O' (h w') js hs hh) hc
theorem Own.mcons {x : Thing} {L : List Ent} (O : Own w0 w (x :: L.map Ent.t)) : Own w0 w ((.thing x :: L : List Ent).map Ent.t) := O
/-- A call whose code is walked in its place. -/
theorem gi {f : FuncId} {args : Array Value} {fn' : Func} (hf : P.funcs[f]? = some fn') (O : Own w0 w (σ.L.map Ent.t)) (h : Own w0 w ((⟨.code (fn'.body.getD .skip) .fin, argsE 0 args.toList, σ.L, []⟩ : Stt).L.map Ent.t) → WS P fn' (AfterS P fn R σ) ⟨.code (fn'.body.getD .skip) .fin, argsE 0 args.toList, σ.L, []⟩ w) (hc : callee P fn σ = some (f, args) := by kernel_rfl) (hb : fn'.body.isSome = true := by kernel_rfl) (hl : Nat.ble args.size fn'.ntmps = true := by kernel_rfl) : WS P fn R σ w :=
  gc (gent O hf (h O) hb hl) (fun _ _ h => h) hc
/-- The end. -/
def oneV (P : Program) (σ : Stt) (r : ResultVar) (i : Nat) : Option (Value × List (Nat × Nat)) :=
  match resOk σ.e r with
  | true => simR P (σ.L.map Ent.kn) (oneE σ.e r) (rep i)
  | false => none
def vals (P : Program) (σ : Stt) : List ResultVar → List Nat → Option (List Value × List (Nat × Nat))
  | [], _ => some ([], [])
  | r :: rs, is => match oneV P σ r (is.headD 0) with
    | some (v, o) => match vals P σ rs is.tail with
      | some (vs, os) => some (v :: vs, o ++ os)
      | none => none
    | none => none
def ended : Ct → Bool
  | .out .normal .fin => true
  | .out .ret .fin => true
  | _ => false
def retL (P : Program) (fn : Func) (σ : Stt) (is : List Nat) : Option (Value × List Nat) :=
  match ended (norm 200 σ.c), vals P σ fn.results.toList is with
  | true, some ([v], o) => some (v, o.map (·.1))
  | true, some (vs, o) => some (.tuple vs.toArray, o.map (·.1))
  | _, _ => none
def retR (P : Program) (fn : Func) (σ : Stt) (is : List Nat) (v : Value) : Option (Value × List Nat) :=
  match vals P σ fn.results.toList is with
  | some (_, o) => some (v, o.map (·.2))
  | none => some (v, [])
theorem oneV_sound {r : ResultVar} {i : Nat} {v : Value} {ob : List (Nat × Nat)} {a : Act} (h : oneV P σ r i = some (v, ob)) (ho : AllEq ob) (O : Own w0 w (σ.L.map Ent.t)) (F : Fits N σ.e a) : (oneR a.tmps r).run P w = .ok v w := by
  unfold oneV at h
  split at h
  · rename_i hr
    rw [F.one hr]; exact simR_sound _ _ _ _ h ho O.knowAll
  · cases h
theorem allEq_app : ∀ {o p : List (Nat × Nat)}, AllEq (o ++ p) → AllEq o ∧ AllEq p
  | [], _, h => ⟨trivial, h⟩
  | _ :: _, _, h => ⟨⟨h.1, (allEq_app h.2).1⟩, (allEq_app h.2).2⟩
theorem allEq_map : ∀ {l : List (Nat × Nat)}, l.map (·.1) = l.map (·.2) → AllEq l
  | [], _ => trivial
  | p :: l, h => by simp only [List.map_cons, List.cons.injEq] at h; exact ⟨h.1, allEq_map h.2⟩
theorem vals_nil {is : List Nat} {vs : List Value} {ob : List (Nat × Nat)} (h : vals P σ [] is = some (vs, ob)) : vs = [] := by simp only [vals] at h; cases h; rfl
theorem vals_cons {r : ResultVar} {rs : List ResultVar} {is : List Nat} {vs : List Value} {ob : List (Nat × Nat)} (h : vals P σ (r :: rs) is = some (vs, ob)) (ho : AllEq ob) :
    ∃ v vs' o os, vs = v :: vs' ∧ oneV P σ r (is.headD 0) = some (v, o) ∧ AllEq o ∧ vals P σ rs is.tail = some (vs', os) ∧ AllEq os := by
  simp only [vals] at h
  split at h
  · rename_i v o h1
    split at h
    · rename_i vs' os h2
      cases h
      exact ⟨v, vs', o, os, rfl, h1, (allEq_app ho).1, h2, (allEq_app ho).2⟩
    · cases h
  · cases h
def manyV : List Value → Value
  | [v] => v
  | vs => .tuple vs.toArray
theorem vals_sound {is : List Nat} {vs : List Value} {ob : List (Nat × Nat)} {a : Act} (O : Own w0 w (σ.L.map Ent.t)) (F : Fits fn.ntmps σ.e a) (hn : fn.results.size ≤ 5) (h : vals P σ fn.results.toList is = some (vs, ob)) (ho : AllEq ob) : (results fn a.tmps).run P w = .ok (manyV vs) w := by
  have hs : fn.results = fn.results.toList.toArray := by simp
  have hl : fn.results.toList.length ≤ 5 := by simpa using hn
  generalize fn.results.toList = l at hs h hl
  match l, hs, h, hl with
  | [], hs, h, _ => rw [vals_nil h]; exact results_run0 hs
  | [r1], hs, h, _ =>
    obtain ⟨v1, t1, o1, p1, rfl, h1, q1, h, ho⟩ := vals_cons h ho
    rw [vals_nil h]
    exact results_run1 hs (oneV_sound h1 q1 O F)
  | [r1, r2], hs, h, _ =>
    obtain ⟨v1, t1, o1, p1, rfl, h1, q1, h, ho⟩ := vals_cons h ho
    obtain ⟨v2, t2, o2, p2, rfl, h2, q2, h, ho⟩ := vals_cons h ho
    rw [vals_nil h]
    exact results_run2 hs (oneV_sound h1 q1 O F) (oneV_sound h2 q2 O F)
  | [r1, r2, r3], hs, h, _ =>
    obtain ⟨v1, t1, o1, p1, rfl, h1, q1, h, ho⟩ := vals_cons h ho
    obtain ⟨v2, t2, o2, p2, rfl, h2, q2, h, ho⟩ := vals_cons h ho
    obtain ⟨v3, t3, o3, p3, rfl, h3, q3, h, ho⟩ := vals_cons h ho
    rw [vals_nil h]
    exact results_run3 hs (oneV_sound h1 q1 O F) (oneV_sound h2 q2 O F) (oneV_sound h3 q3 O F)
  | [r1, r2, r3, r4], hs, h, _ =>
    obtain ⟨v1, t1, o1, p1, rfl, h1, q1, h, ho⟩ := vals_cons h ho
    obtain ⟨v2, t2, o2, p2, rfl, h2, q2, h, ho⟩ := vals_cons h ho
    obtain ⟨v3, t3, o3, p3, rfl, h3, q3, h, ho⟩ := vals_cons h ho
    obtain ⟨v4, t4, o4, p4, rfl, h4, q4, h, ho⟩ := vals_cons h ho
    rw [vals_nil h]
    exact results_run4 hs (oneV_sound h1 q1 O F) (oneV_sound h2 q2 O F) (oneV_sound h3 q3 O F) (oneV_sound h4 q4 O F)
  | [r1, r2, r3, r4, r5], hs, h, _ =>
    obtain ⟨v1, t1, o1, p1, rfl, h1, q1, h, ho⟩ := vals_cons h ho
    obtain ⟨v2, t2, o2, p2, rfl, h2, q2, h, ho⟩ := vals_cons h ho
    obtain ⟨v3, t3, o3, p3, rfl, h3, q3, h, ho⟩ := vals_cons h ho
    obtain ⟨v4, t4, o4, p4, rfl, h4, q4, h, ho⟩ := vals_cons h ho
    obtain ⟨v5, t5, o5, p5, rfl, h5, q5, h, ho⟩ := vals_cons h ho
    rw [vals_nil h]
    exact results_run5 hs (oneV_sound h1 q1 O F) (oneV_sound h2 q2 O F) (oneV_sound h3 q3 O F) (oneV_sound h4 q4 O F) (oneV_sound h5 q5 O F)
  | _ :: _ :: _ :: _ :: _ :: _ :: _, _, _, hl => simp at hl
theorem gret {v : Value} (is : List Nat) (O : Own w0 w (σ.L.map Ent.t)) (hR : R (.returned v) w) (hk : retL P fn σ is = retR P fn σ is v := by kernel_rfl) (hn : Nat.ble fn.results.size 5 = true := by kernel_rfl) : WS P fn R σ w := by
  refine ⟨fun _ _ => ?_⟩
  refine norm_sound 200 ?_
  unfold retL retR at hk
  cases hv : vals P σ fn.results.toList is with
  | none => rw [hv] at hk; cases he : ended (norm 200 σ.c) <;> simp [he] at hk
  | some p =>
    obtain ⟨vs, ob⟩ := p
    rw [hv] at hk
    cases he : ended (norm 200 σ.c) with
    | false => simp [he] at hk
    | true =>
      have h1 : manyV vs = v ∧ ob.map (·.1) = ob.map (·.2) := by
        simp only [he] at hk
        match vs, hk with
        | [], hk => simpa [manyV] using hk
        | [x], hk => simpa [manyV] using hk
        | x :: y :: l, hk => simpa [manyV] using hk
      obtain ⟨rfl, ho⟩ := h1
      intro a F
      have hr := vals_sound O F (by simpa using hn) hv (allEq_map ho)
      cases hc : norm 200 σ.c with
      | out x k =>
        rw [hc] at he
        cases k <;> cases x <;> simp [ended] at he
        · exact ⟨F.defers, _, hr, hR⟩
        · exact ⟨F.defers, _, hr, hR⟩
      | _ => rw [hc] at he; simp [ended] at he
/-- Less is known. -/
theorem Fits.sub {e e' : Env} {a : Act} (F : Fits N e a) (h : e'.map (fun p => some p.2) = e'.map (fun p => lk e p.1)) : Fits N e' a := by
  refine ⟨F.size, F.defers, fun t v hv => F.known t v ?_⟩
  induction e' with
  | nil => simp [lk] at hv
  | cons p e' ih =>
    simp only [List.map_cons, List.cons.injEq] at h
    simp only [lk] at hv
    split at hv
    · rename_i hb
      have e1 : p.1 = t := by simpa using hb
      cases hv; rw [← e1, ← h.1]
    · exact ih h.2 hv
def loopOf (c : Ct) : Option (Code × Kt) := match norm 200 c with
  | .code (.loop c) k => some (c, k)
  | _ => none
def lbody (c : Ct) : Code := match loopOf c with
  | some p => p.1
  | none => .skip
def lkt (c : Ct) : Kt := match loopOf c with
  | some p => p.2
  | none => .fin
/-- A loop: at its head I holds of x, with μ x rounds left at most; M: what a round comes to. -/
theorem gl {α : Type} (E : α → Env) (Lf : α → List Ent) (I : α → World → Prop) (μ : α → Nat) (x : α) (O : Own w0 w ((Lf x).map Ent.t)) (h0 : I x w)
    (h : ∀ (M : Act → World → Prop) x w, (∀ a' w' y, Fits fn.ntmps (E y) a' → Own w0 w' ((Lf y).map Ent.t) → I y w' → μ y < μ x → M a' w') → Own w0 w ((⟨.code (lbody σ.c) (.cut M (lkt σ.c)), E x, Lf x, []⟩ : Stt).L.map Ent.t) → I x w → WS P fn R ⟨.code (lbody σ.c) (.cut M (lkt σ.c)), E x, Lf x, []⟩ w)
    (hE : (E x).map (fun p => some p.2) = (E x).map (fun p => lk σ.e p.1) := by kernel_rfl) (hl : (loopOf σ.c).isSome = true := by kernel_rfl) : WS P fn R σ w := by
  refine ⟨fun _ _ => ?_⟩
  refine norm_sound 200 ?_
  unfold lbody lkt loopOf at h
  unfold loopOf at hl
  split at hl
  · rename_i c k hc
    rw [hc]
    simp only [hc] at h
    intro a F
    exact k_loop (e := E x) E (fun x w => Own w0 w ((Lf x).map Ent.t) ∧ I x w) μ x rfl ⟨O, h0⟩ (fun x w hI => (h _ x w (fun a' w' y h1 h2 h3 h4 => ⟨y, h1, ⟨h2, h3⟩, h4⟩) hI.1 hI.2).out trivial trivial) a (F.sub hE)
  · cases hl
def cutOf (c : Ct) : Option (Act → World → Prop) := match norm 200 c with
  | .out .normal (.cut M _) => some M
  | _ => none
/-- A round, or what was cut, ends. -/
theorem gz {M : Act → World → Prop} (E : Env) (h : ∀ a, Fits fn.ntmps E a → M a w) (hE : E.map (fun p => some p.2) = E.map (fun p => lk σ.e p.1) := by kernel_rfl) (hc : cutOf σ.c = some M := by kernel_rfl) : WS P fn R σ w := by
  refine ⟨fun _ _ => ?_⟩
  refine norm_sound 200 ?_
  unfold cutOf at hc
  split at hc
  · rename_i M' k hc'
    simp only [Option.some.injEq] at hc
    subst hc
    rw [hc']
    exact fun a F => h a (F.sub hE)
  · cases hc
/-- Ahead of 'x; y', where x is the region or block of that number. -/
def seqOf (blk : Bool) (id : Nat) : Nat → Ct → Option (Code × Kt)
  | 0, _ => none
  | n + 1, c => match c, blk with
    | .code (.block i x) k, true => match Nat.beq i id with
      | true => some (.block i x, k)
      | false => match norm1 c with
        | some c' => seqOf blk id n c'
        | none => none
    | .code (.region i x d) k, false => match Nat.beq i id with
      | true => some (.region i x d, k)
      | false => match norm1 c with
        | some c' => seqOf blk id n c'
        | none => none
    | c, _ => match norm1 c with
      | some c' => seqOf blk id n c'
      | none => none
theorem seqOf_sound {blk : Bool} {id : Nat} {x : Code} {k : Kt} : ∀ (n : Nat) {c : Ct}, seqOf blk id n c = some (x, k) → WK ((Ct.code x k).den P B) N e w → WK (c.den P B) N e w
  | 0, c, h, _ => by simp [seqOf] at h
  | n + 1, c, h, hk => by
    unfold seqOf at h
    have go : ∀ {c : Ct}, (match norm1 c with | some c' => seqOf blk id n c' | none => none) = some (x, k) → WK (c.den P B) N e w := by
      intro c h
      split at h
      · rename_i c' hc; exact norm1_sound hc (seqOf_sound n h hk)
      · cases h
    split at h
    · split at h
      · cases h; exact hk
      · exact go h
    · split at h
      · cases h; exact hk
      · exact go h
    · exact go h
def sbody (blk : Bool) (id : Nat) (c : Ct) : Code := match seqOf blk id 200 c with
  | some p => p.1
  | none => .skip
def skt (blk : Bool) (id : Nat) (c : Ct) : Kt := match seqOf blk id 200 c with
  | some p => p.2
  | none => .fin
/-- Behind a block (or region): one of a family of states, whichever way was taken. -/
theorem gj {α : Type} (blk : Bool) (id : Nat) (O : Own w0 w (σ.L.map Ent.t)) (E : α → Env) (Lf : α → List Ent) (I : α → World → Prop)
    (h1 : ∀ M : Act → World → Prop, (∀ a' w' y, Fits fn.ntmps (E y) a' → Own w0 w' ((Lf y).map Ent.t) → I y w' → M a' w') → Own w0 w ((⟨.code (sbody blk id σ.c) (.cut M (skt blk id σ.c)), σ.e, σ.L, σ.X⟩ : Stt).L.map Ent.t) → WS P fn R ⟨.code (sbody blk id σ.c) (.cut M (skt blk id σ.c)), σ.e, σ.L, σ.X⟩ w)
    (h2 : ∀ y w, Own w0 w ((⟨.out .normal (skt blk id σ.c), E y, Lf y, []⟩ : Stt).L.map Ent.t) → I y w → WS P fn R ⟨.out .normal (skt blk id σ.c), E y, Lf y, []⟩ w)
    (hs : (seqOf blk id 200 σ.c).isSome = true := by kernel_rfl) : WS P fn R σ w := by
  refine ⟨fun _ hX => ?_⟩
  obtain ⟨⟨x, k⟩, hk⟩ := Option.isSome_iff_exists.1 hs
  refine seqOf_sound 200 hk ?_
  unfold sbody skt at h1
  unfold skt at h2
  rw [hk] at h1 h2
  intro a F
  refine Code.wp_mono (fun ex a' w' hq => ?_) ((h1 (fun a' w' => ∃ y, Fits fn.ntmps (E y) a' ∧ Own w0 w' ((Lf y).map Ent.t) ∧ I y w') (fun a' w' y q1 q2 q3 => ⟨y, q1, q2, q3⟩) O).out trivial hX a F)
  cases ex with
  | normal =>
    obtain ⟨y, q1, q2, q3⟩ : ∃ y, Fits fn.ntmps (E y) a' ∧ Own w0 w' ((Lf y).map Ent.t) ∧ I y w' := hq
    exact (h2 y w' q2 q3).out trivial trivial a' q1
  | exit id => exact hq
  | goto l => exact hq
  | ret => exact hq
  | panic c => exact hq
  | outgrown => exact hq
/-- What comes up in a region that draws. -/
def readyOf (c : Ct) : Option (List Nat) := match c with
  | .any all _ (_ + 1) listed _ => some (Region.ready .any all listed)
  | _ => none
def pick (σ : Stt) (i : Nat) : Stt := match σ.c with
  | .any all H (fuel + 1) listed k => ⟨.at all H fuel listed k i, σ.e, σ.L, σ.X⟩
  | _ => badSt
theorem gA (r : List Nat) (O : Own w0 w (σ.L.map Ent.t)) (h : Each (fun i => Own w0 w ((pick σ i).L.map Ent.t) → WS P fn R (pick σ i) w) r) (hr : readyOf σ.c = some r := by kernel_rfl) (hne : r.isEmpty = false := by kernel_rfl) : WS P fn R σ w := by
  refine ⟨fun hi hX => ?_⟩
  unfold readyOf at hr
  split at hr
  · rename_i all H fuel listed k hc
    simp only [Option.some.injEq] at hr
    rw [hc] at hi ⊢
    intro a F
    refine wpAnyH_all hr (by intro e; subst e; simp at hne) fun i hi' => ?_
    have := h.of i hi'
    unfold pick at this
    rw [hc] at this
    exact (this O).out hi hX a F
  · cases hr
theorem gx (X : List Kn) (O : Own w0 w (σ.L.map Ent.t)) (hX : Know X w) (h : Own w0 w ((⟨σ.c, σ.e, σ.L, X⟩ : Stt).L.map Ent.t) → WS P fn R ⟨σ.c, σ.e, σ.L, X⟩ w) : WS P fn R σ w := ⟨fun hi _ => (h O).out hi hX⟩
def rv (P : Program) (fn : Func) (σ : Stt) (is : List Nat) : Value := match retL P fn σ is with
  | some (v, _) => v
  | none => undef
/-- The end of code that is walked in its place. -/
theorem gir {fn' : Func} {σ' : Stt} (is : List Nat) (O : Own w0 w (σ'.L.map Ent.t)) (h : Own w0 w ((ret σ (rv P fn' σ' is) σ'.L).L.map Ent.t) → WS P fn R (ret σ (rv P fn' σ' is) σ'.L) w) (js : List Nat := []) (hs : (cur (norm 200 σ.c) σ.e).isSome = true := by kernel_rfl) (hh : held (nxt (norm 200 σ.c)) = kns σ'.L js := by kernel_rfl)
    (hk : retL P fn' σ' is = retR P fn' σ' is (rv P fn' σ' is) := by kernel_rfl) (hn : Nat.ble fn'.results.size 5 = true := by kernel_rfl) : WS P fn' (AfterS P fn R σ) σ' w := gret is O (gr O h js hs hh) hk hn
theorem Own.mconsS {x y : Thing} {i : Nat} {L : List Ent} (O : Own w0 w (x :: (L.map Ent.t).set i y)) : Own w0 w ((.thing x :: L.set i (.thing y) : List Ent).map Ent.t) := by
  rw [List.map_cons, List.map_set]; exact O
/-- Rounds laid out: behind this one, one of a family of states. -/
def rndOf : Nat → Ct → Option (Code × Kt)
  | 0, _ => none
  | n + 1, c => match c with
    | .code x (.rnd m y k) => some (x, .rnd m y k)
    | c => match norm1 c with
      | some c' => rndOf n c'
      | none => none
theorem rndOf_sound {x : Code} {k : Kt} : ∀ (n : Nat) {c : Ct}, rndOf n c = some (x, k) → WK ((Ct.code x k).den P B) N e w → WK (c.den P B) N e w
  | 0, c, h, _ => by simp [rndOf] at h
  | n + 1, c, h, hk => by
    unfold rndOf at h
    split at h
    · cases h; exact hk
    · split at h
      · rename_i c' hc; exact norm1_sound hc (rndOf_sound n h hk)
      · cases h
def rbody (c : Ct) : Code := match rndOf 200 c with
  | some p => p.1
  | none => .skip
def rkt (c : Ct) : Kt := match rndOf 200 c with
  | some p => p.2
  | none => .fin
theorem gk {α : Type} (O : Own w0 w (σ.L.map Ent.t)) (E : α → Env) (Lf : α → List Ent) (I : α → World → Prop)
    (h1 : ∀ M : Act → World → Prop, (∀ a' w' y, Fits fn.ntmps (E y) a' → Own w0 w' ((Lf y).map Ent.t) → I y w' → M a' w') → Own w0 w ((⟨.code (rbody σ.c) (.cut M (rkt σ.c)), σ.e, σ.L, σ.X⟩ : Stt).L.map Ent.t) → WS P fn R ⟨.code (rbody σ.c) (.cut M (rkt σ.c)), σ.e, σ.L, σ.X⟩ w)
    (h2 : ∀ y w, Own w0 w ((⟨.out .normal (rkt σ.c), E y, Lf y, []⟩ : Stt).L.map Ent.t) → I y w → WS P fn R ⟨.out .normal (rkt σ.c), E y, Lf y, []⟩ w)
    (hs : (rndOf 200 σ.c).isSome = true := by kernel_rfl) : WS P fn R σ w := by
  refine ⟨fun _ hX => ?_⟩
  obtain ⟨⟨x, k⟩, hk⟩ := Option.isSome_iff_exists.1 hs
  refine rndOf_sound 200 hk ?_
  unfold rbody rkt at h1
  unfold rkt at h2
  rw [hk] at h1 h2
  intro a F
  refine Code.wp_mono (fun ex a' w' hq => ?_) ((h1 (fun a' w' => ∃ y, Fits fn.ntmps (E y) a' ∧ Own w0 w' ((Lf y).map Ent.t) ∧ I y w') (fun a' w' y q1 q2 q3 => ⟨y, q1, q2, q3⟩) O).out trivial hX a F)
  cases ex with
  | normal =>
    obtain ⟨y, q1, q2, q3⟩ : ∃ y, Fits fn.ntmps (E y) a' ∧ Own w0 w' ((Lf y).map Ent.t) ∧ I y w' := hq
    exact (h2 y w' q2 q3).out trivial trivial a' q1
  | exit id => exact hq
  | goto l => exact hq
  | ret => exact hq
  | panic c => exact hq
  | outgrown => exact hq
/-- Short words for scripts. -/
def bT {b b' : Bool} (h : b = b') : Ax := .v (.bool b) (.bool b') (congrArg Value.bool h)
def bN {b b' : Bool} (h : b = b') : Ax := .v (.bool !b) (.bool !b') (congrArg (fun q => Value.bool !q) h)
def bR (i : Nat) {b b' : Bool} (h : b = b') : Ax := .w i (.bool b) (.bool b') (congrArg Value.bool h)
def iW (x : Int) (h0 : -9223372036854775808 ≤ x := by omega) (h1 : x ≤ 9223372036854775807 := by omega) : Ax := .v (.int .i64 (IntKind.i64.wrap x)) (.int .i64 x) (congrArg (Value.int .i64) (i64_id h0 h1))
def uW (x : Int) (h0 : 0 ≤ x := by omega) (h1 : x ≤ 18446744073709551615 := by omega) : Ax := .v (.int .u64 (IntKind.u64.wrap x)) (.int .u64 x) (congrArg (Value.int .u64) (u64_id h0 h1))
/-- A list of things, one of them in front; what becomes of it goes back to its place, whatever lies ahead. -/
theorem Own.focD {M : List Thing} {i : Nat} {x : Thing} (O : Own w0 w M) (hi : M[i]? = some x) :
    ∃ T : List Ent, (∀ (j : Nat) (y : Thing), j ≠ i → M[j]? = some y → (T.map Ent.t)[j]? = some y) ∧ Own w0 w ((.thing x :: T).map Ent.t) ∧ ∀ (k : Nat) {w' : World} {y : Thing} {L : List Ent}, Own w0 w' (L.map Ent.t) → (h : (L.map Ent.t).drop k = y :: T.map Ent.t := by kernel_rfl) → Own w0 w' (M.set i y) := by
  obtain ⟨T, h1, h2, h3⟩ := O.focus2 hi
  refine ⟨T, h1, h2, fun k {w' y L} O' h => h3 w' y (L.take k) ?_⟩
  rw [List.map_append, List.map_cons, show (Ent.thing y).t :: T.map Ent.t = y :: T.map Ent.t from rfl, ← h, List.map_take, List.take_append_drop]; exact O'
/-- The same list, reckoned. -/
theorem Own.as {L L' : List Ent} (O : Own w0 w (L.map Ent.t)) (n : Nat) (h : L.drop n = L' := by kernel_rfl) : Own w0 w (L'.map Ent.t) := by
  subst h; rw [List.map_drop]
  induction n generalizing L with
  | zero => exact O
  | succ n ih =>
    cases L with
    | nil => exact O
    | cons x L => exact ih (L := L) O.tail
theorem Own.drops {x : Thing} : ∀ (n : Nat) {M : List Thing}, Own w0 w (x :: M) → Own w0 w (x :: M.drop n)
  | 0, _, O => O
  | n + 1, [], O => O
  | n + 1, y :: M, O => Own.drops n (O.drop 1 (L' := x :: M) (fun i hi => by cases i with | zero => rfl | succ k => omega) (fun i hi => by cases i with | zero => omega | succ k => rfl))
/-- One thing of what was made, and all from some place on. -/
theorem Own.rowAt {L T : List Ent} {x : Thing} (O : Own w0 w (L.map Ent.t)) (i n : Nat) (h1 : L[i]? = some (.thing x)) (h2 : L.drop (i + 1 + n) = T) : Own w0 w (x :: T.map Ent.t) := by
  have O1 := O.as i (L' := L.drop i) rfl
  rw [List.drop_eq_getElem_cons (List.getElem?_eq_some_iff.1 h1).1, (List.getElem?_eq_some_iff.1 h1).2, List.map_cons] at O1
  have O2 := Own.drops n O1
  rw [← List.map_drop, List.drop_drop, h2] at O2
  exact O2
theorem Own.rowB {L T : List Ent} {M : List Thing} {x : Thing} (O : Own w0 w (L.map Ent.t)) (hT : T.map Ent.t = M) (i n : Nat) (h1 : L[i]? = some (.thing x) := by kernel_rfl) (h2 : L.drop (i + 1 + n) = T := by kernel_rfl) : Own w0 w (x :: M) := hT ▸ O.rowAt i n h1 h2
theorem Own.focusC {M : List Thing} {i : Nat} {y z : Thing} (hil : i < M.length) (O' : Own w0 w (z :: (.thing y :: (M.set i noT).map Ent.thing : List Ent).map Ent.t)) : Own w0 w (z :: M.set i y) := by
  have hm : ∀ l : List Thing, (l.map Ent.thing).map Ent.t = l := fun l => by rw [List.map_map]; exact List.map_id'' (fun _ => rfl) l
  rw [List.map_cons, hm] at O'
  refine O'.pull (fun k => match k with | 0 => 0 | j + 1 => if j = i then 1 else j + 2) (fun k P hP => ?_) (fun k l hk hl hkl => ?_)
  · match k, hP with
    | 0, hP => exact hP
    | j + 1, hP =>
      rw [List.getElem?_cons_succ, List.getElem?_set] at hP
      by_cases e : j = i
      · subst e
        rw [if_pos rfl, if_pos hil] at hP
        show (z :: y :: M.set j noT)[if j = j then 1 else j + 2]? = some P
        rw [if_pos rfl]; exact hP
      · rw [if_neg (Ne.symm e)] at hP
        show (z :: y :: M.set i noT)[if j = i then 1 else j + 2]? = some P
        rw [if_neg e, List.getElem?_cons_succ, List.getElem?_cons_succ, List.getElem?_set, if_neg (Ne.symm e)]; exact hP
  · match k, l, hkl with
    | 0, 0, _ => rfl
    | 0, j + 1, h =>
      have h : 0 = if j = i then 1 else j + 2 := h
      split at h <;> omega
    | j + 1, 0, h =>
      have h : (if j = i then 1 else j + 2) = 0 := h
      split at h <;> omega
    | j + 1, l + 1, h =>
      have h : (if j = i then 1 else j + 2) = if l = i then 1 else l + 2 := h
      split at h <;> split at h <;> omega
theorem Own.focD3 {M : List Thing} {i : Nat} {x : Thing} (O : Own w0 w M) (hi : M[i]? = some x) :
    ∃ T : List Ent, (∀ (j : Nat) (y : Thing), j ≠ i → M[j]? = some y → (T.map Ent.t)[j]? = some y) ∧ Own w0 w ((.thing x :: T).map Ent.t) ∧ (∀ (k : Nat) {w' : World} {y : Thing} {L : List Ent}, Own w0 w' (L.map Ent.t) → (h : (L.map Ent.t).drop k = y :: T.map Ent.t := by kernel_rfl) → Own w0 w' (M.set i y)) ∧
      ∀ (k n : Nat) {w' : World} {y z : Thing} {L : List Ent}, Own w0 w' (L.map Ent.t) → (h1 : L[k]? = some (.thing z) := by kernel_rfl) → (h2 : L.drop (k + 1 + n) = .thing y :: T := by kernel_rfl) → Own w0 w' (z :: M.set i y) := by
  have hm : ∀ l : List Thing, (l.map Ent.thing).map Ent.t = l := fun l => by rw [List.map_map]; exact List.map_id'' (fun _ => rfl) l
  have hil := idx_lt hi
  refine ⟨(M.set i noT).map Ent.thing, fun j y hj hy => ?_, Own.focusA O hi, fun k {w' y L} O' h => Own.focusB (G := L.take k) hil (by rw [List.map_append, List.map_cons, show (Ent.thing y).t :: ((M.set i noT).map Ent.thing).map Ent.t = y :: ((M.set i noT).map Ent.thing).map Ent.t from rfl, ← h, List.map_take, List.take_append_drop]; exact O'), fun k n {w' y z L} O' h1 h2 => ?_⟩
  · rw [hm, List.getElem?_set, if_neg (Ne.symm hj)]; exact hy
  · have O2 := O'.rowAt k n h1 h2
    have O3 := Own.focusC hil O2
    exact O3
/-- A call that touches nothing that there was. -/
theorem gB {f : FuncId} {args : Array Value} {v : Value} (O : Own w0 w (σ.L.map Ent.t)) (hC : Calls P f args w fun e' w' => e' = .returned v ∧ Below w.heap.size w w')
    (h : ∀ w', Own w0 w' ((ret σ v σ.L).L.map Ent.t) → WS P fn R (ret σ v σ.L) w') (js : List Nat := []) (hc : callee P fn σ = some (f, args) := by kernel_rfl) (hs : (cur (norm 200 σ.c) σ.e).isSome = true := by kernel_rfl) (hh : held (nxt (norm 200 σ.c)) = kns σ.L js := by kernel_rfl) : WS P fn R σ w :=
  gc hC (fun e' w' hr => by obtain ⟨rfl, hb⟩ := hr; exact gr (O.call hb) (h w') js hs hh) hc
/-- What lies far behind. -/
theorem atT {L T : List Ent} {j : Nat} {X : Thing} (h : (T.map Ent.t)[j]? = some X) (k : Nat) (hd : (L.map Ent.t).drop k = T.map Ent.t := by kernel_rfl) : (L.map Ent.t)[j + k]? = some X := by
  rw [← hd, List.getElem?_drop] at h; rw [Nat.add_comm]; exact h
/-- All from the thing at k on. -/
theorem Own.front {L T : List Ent} {y : Thing} (O : Own w0 w (L.map Ent.t)) (k : Nat) (h : (L.map Ent.t).drop k = y :: T.map Ent.t := by kernel_rfl) : Own w0 w ((L.take k ++ .thing y :: T).map Ent.t) := by
  rw [List.map_append, List.map_cons, show (Ent.thing y).t :: T.map Ent.t = y :: T.map Ent.t from rfl, ← h, List.map_take, List.take_append_drop]; exact O
/-- What lies at i, told in another way. -/
theorem gL (i : Nat) (E : Ent) (O : Own w0 w (σ.L.map Ent.t)) (h : Own w0 w ((⟨σ.c, σ.e, σ.L.set i E, σ.X⟩ : Stt).L.map Ent.t) → WS P fn R ⟨σ.c, σ.e, σ.L.set i E, σ.X⟩ w) (hE : (σ.L.map Ent.t)[i]? = some E.t := by kernel_rfl) : WS P fn R σ w :=
  ⟨fun hi hX => (h (by
    have e : (σ.L.set i E).map Ent.t = σ.L.map Ent.t := by
      rw [List.map_set]
      apply List.ext_getElem?
      intro k
      rw [List.getElem?_set]
      split
      · rename_i e; subst e
        rw [if_pos (idx_lt hE), hE]
      · rfl
    show Own w0 w ((σ.L.set i E).map Ent.t)
    rw [e]; exact O)).out hi hX⟩
/-- Where a row lies that is not empty. -/
theorem Own.rowB1 {M : List Thing} {i : Nat} {el size n d : Nat} {B : Option Addr} {xs : List Value} (O : Own w0 w M) (hi : M[i]? = some (rowT el size (.slice B n d) n xs)) (hn : n ≠ 0) : ∃ g, B = some ⟨g, 0, none⟩ := by
  obtain ⟨S, h, _⟩ := O.at hi
  rcases h.1.2 with ⟨_, h0⟩ | ⟨g, cap, cur, hv, _⟩
  · exact absurd h0 hn
  · injection hv with hv; exact ⟨g, hv⟩
end machine
end Go.Proofs.YtikimmgileffgaaGreatDoor
