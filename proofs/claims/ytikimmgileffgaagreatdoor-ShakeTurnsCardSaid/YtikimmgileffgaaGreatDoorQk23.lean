/- Packed by packn.py: SA, ShW, ShkA. -/
import Derived.Test.YtikimmgileffgaaGreatDoorQk11
import Derived.Test.YtikimmgileffgaaGreatDoorQk04
import Derived.Test.YtikimmgileffgaaGreatDoorQk22
/- More rules for the machine: an append onto a row; things that stand still for a while. Any program. -/
section
namespace Go.Proofs.YtikimmgileffgaaGreatDoor
open Go.RowKit
section rules
variable {P : Program} {fn : Func} {R : Ending → World → Prop} {w w0 : World} {σ : Stt}
def opIs (fn : Func) (σ : Stt) : Option (Op × Bool) := match cur (norm 200 σ.c) σ.e with
  | some (all, o) => match wantE σ.e all o with
    | some true => some (o.op, chk fn.ntmps σ.e o)
    | _ => none
  | none => none
theorem row_slice {base : Nat} {e : TypeId} {v : Value} {n : Nat} {xs : List Value} {size : Nat} (h : w.ownsRow base e size v n xs) : ∃ A cap, v = .slice A n cap := by
  rcases h.2 with ⟨rfl, rfl⟩ | ⟨g, cap, _, rfl, _⟩
  · exact ⟨_, _, rfl⟩
  · exact ⟨_, _, rfl⟩
/-- 'append(xs, ys...)' onto a row of its own. -/
theorem gcat (s x : Operand) (t : TypeId) (O : Own w0 w (σ.L.map Ent.t)) (el : TypeId) (z : Value) (size bytes : Nat) (B : Option Addr) (d : Nat) (n : Nat) (xs : List Value) (i : Nat) (A : Option Addr) (m c : Nat) (news : List Value) (hnews : News w A size m news) (h63 : n + m ≤ 9223372036854775807) (hbytes : (n + m) * bytes ≤ 140737488355328)
    (h : ∀ B' d' w', Own w0 w' ((ret σ (.slice B' (n + m) d') (σ.L.set i (.thing (rowT el size (.slice B' (n + m) d') (n + m) (xs ++ news))))).L.map Ent.t) → WS P fn R (ret σ (.slice B' (n + m) d') (σ.L.set i (.thing (rowT el size (.slice B' (n + m) d') (n + m) (xs ++ news))))) w') (js : List Nat := [])
    (hop : opIs fn σ = some (.call { callee := .builtin .append, args := #[s, x], argTypes := #[t, t] }, true) := by kernel_rfl) (ht : P.underlying t = some (.slice el) := by kernel_rfl) (hinfo : (P.info? el).map (fun i => (i.zero, i.size, i.bytes)) = some (some z, size, bytes) := by kernel_rfl) (hzs : z.cells.size = size := by kernel_rfl) (hsz : Nat.ble 1 size = true := by kernel_rfl)
    (hs : (foundE σ.e s && foundE σ.e x) = true := by kernel_rfl) (hv : evE σ.e s = .slice B n d := by kernel_rfl) (hx : evE σ.e x = .slice A m c := by kernel_rfl) (hi : (σ.L.map Ent.t)[i]? = some (rowT el size (.slice B n d) n xs) := by kernel_rfl) (h1 : news.all (fun u => u.oneCell') = true := by kernel_rfl)
    (hh : ∀ B' d', held (nxt (norm 200 σ.c)) = kns (σ.L.set i (.thing (rowT el size (.slice B' (n + m) d') (n + m) (xs ++ news)))) js := by intro _ _; kernel_rfl) : WS P fn R σ w := by
  refine ⟨fun hi' hX => ?_⟩
  unfold opIs at hop
  split at hop
  · rename_i all o hcur
    split at hop
    · rename_i hw
      simp only [Option.some.injEq, Prod.mk.injEq] at hop
      obtain ⟨ho, hk⟩ := hop
      simp only [Bool.and_eq_true] at hs
      refine norm_sound 200 (cur_op hcur hw fun K hK => ?_)
      intro a F
      refine wp_ocat O s x t ho el z size bytes ht hinfo hzs (Nat.le_of_ble_eq_true hsz) _ n xs ((F.eval hs.1).trans hv) i hi A m c news ((F.eval hs.2).trans hx) hnews (by simpa using h1) (by unfold maxLen; omega) hbytes fun v' w' O' => ?_
      obtain ⟨B', d', rfl⟩ : ∃ B' d', v' = .slice B' (n + m) d' := by
        obtain ⟨S, h1, _⟩ := O'.at (i := i) (List.getElem?_set_self (idx_lt hi))
        exact row_slice h1.1
      have O2 : Own w0 w' ((σ.L.set i (.thing (rowT el size (.slice B' (n + m) d') (n + m) (xs ++ news)))).map Ent.t) := by rw [List.map_set]; exact O'
      have hin : (nxt (norm 200 σ.c)).inv w' := nxt_held hcur (by rw [hh B' d']; exact know_kns O2 js)
      have h3 := h B' d' w'
      unfold ret at h3
      rw [hcur] at h3
      exact hK _ w' hin ((h3 O2).out hin trivial) _ (F.put (chk_dst hk) _)
    · cases hop
  · cases hop
/-- Blocks that have not changed since. -/
def frz (w1 : World) (S0 : Nat → Prop) : Thing where
  P w S := S = S0 ∧ Upd (fun b => ¬ S0 b) w1 w ∧ ∀ b, S0 b → b < w1.heap.size
  lt w S h b hb := by obtain ⟨rfl, u, hl⟩ := h; exact Nat.lt_of_lt_of_le (hl b hb) u.size
  keep w w' S T h u hd := by
    obtain ⟨rfl, u1, hl⟩ := h
    refine ⟨rfl, ⟨u.os.trans u1.os, u.tape.trans u1.tape, u.output.trans u1.output, Nat.le_trans u1.size u.size, fun k hk hs => ?_⟩, hl⟩
    have hs : S k := Classical.not_not.1 hs
    rw [u.block k (Nat.lt_of_lt_of_le hk u1.size) (hd k hs), u1.block k hk (fun h => h hs)]
theorem Own.freeze {M : List Thing} {j : Nat} {X : Thing} (O : Own w0 w M) (hj : M[j]? = some X) : ∃ S0, X.P w S0 ∧ Own w0 w (M.set j (frz w S0)) ∧ ∀ {w' M' k}, Own w0 w' M' → M'[k]? = some (frz w S0) → Own w0 w' (M'.set k X) := by
  obtain ⟨hb, f, h1, h2, h3⟩ := O
  have hjl := idx_lt hj
  have hlt : ∀ b, f j b → b < w.heap.size := X.lt _ _ (h1 j X hj)
  refine ⟨f j, h1 j X hj, ⟨hb, f, fun i Q hi => ?_, fun i k b hi hk => h2 i k b (by simpa using hi) (by simpa using hk), fun i b hi => h3 i b (by simpa using hi)⟩, fun {w' M' k} O' hk => ?_⟩
  · rw [List.getElem?_set] at hi
    by_cases e : j = i
    · subst e
      rw [if_pos rfl, if_pos hjl] at hi
      cases hi
      exact ⟨rfl, Upd.refl _ _, hlt⟩
    · rw [if_neg e] at hi; exact h1 i Q hi
  · obtain ⟨hb', g, g1, g2, g3⟩ := O'
    have hkl := idx_lt hk
    obtain ⟨e1, u, _⟩ := g1 k _ hk
    refine ⟨hb', g, fun i Q hi => ?_, fun i k b hi hk => g2 i k b (by simpa using hi) (by simpa using hk), fun i b hi => g3 i b (by simpa using hi)⟩
    rw [List.getElem?_set] at hi
    by_cases e : k = i
    · subst e
      rw [if_pos rfl, if_pos hkl] at hi
      cases hi
      rw [e1]
      exact X.keep _ _ _ _ (h1 j X hj) u fun b hs hn => hn hs
    · rw [if_neg e] at hi; exact g1 i Q hi
theorem frz_cell {w1 w' : World} {S0 : Nat → Prop} {M' : List Thing} {k : Nat} {a : Addr} {v : Value} (O : Own w0 w' M') (hk : M'[k]? = some (frz w1 S0)) (hs : S0 a.block) (h : w1.cell? a = some v) : w'.cell? a = some v := by
  obtain ⟨S, ⟨_, u, _⟩, _⟩ := O.at hk
  exact u.cell' h (fun hn => hn hs)
theorem frz_holds {w1 w' : World} {S0 : Nat → Prop} {M' : List Thing} {k : Nat} {A : Option Addr} {l : List Value} (O : Own w0 w' M') (hk : M'[k]? = some (frz w1 S0)) (hs : l ≠ [] → ∀ a, A = some a → S0 a.block) (h : Holds w1 A l) : Holds w' A l := by
  rcases h with h | ⟨b, q, hb, h⟩
  · exact .inl h
  · by_cases he : l = []
    · exact .inl he
    · exact .inr ⟨b, q, hb, fun i v hi => frz_cell O hk (a := ⟨b, q + i, none⟩) (hs he ⟨b, q, none⟩ hb) (h i v hi)⟩
/-- An append of one int. -/
theorem gcatI (s x : Operand) (t : TypeId) (O : Own w0 w (σ.L.map Ent.t)) (el : TypeId) (l : List Int) (B : Option Addr) (d : Nat) (i b j : Nat) (y : Int) (tb c : Nat) (hl : l.length ≤ 1000000)
    (h : ∀ B' d' w', Own w0 w' ((ret σ (.slice B' (l ++ [y]).length d') (σ.L.set i (.thing (rowT el 1 (.slice B' (l ++ [y]).length d') (l ++ [y]).length (intsV (l ++ [y])))))).L.map Ent.t) → WS P fn R (ret σ (.slice B' (l ++ [y]).length d') (σ.L.set i (.thing (rowT el 1 (.slice B' (l ++ [y]).length d') (l ++ [y]).length (intsV (l ++ [y])))))) w') (js : List Nat := [])
    (hop : opIs fn σ = some (.call { callee := .builtin .append, args := #[s, x], argTypes := #[t, t] }, true) := by kernel_rfl) (ht : P.underlying t = some (.slice el) := by kernel_rfl) (hinfo : (P.info? el).map (fun i => (i.zero, i.size, i.bytes)) = some (some (.int .i64 0), 1, 8) := by kernel_rfl)
    (hs : (foundE σ.e s && foundE σ.e x) = true := by kernel_rfl) (hv : evE σ.e s = .slice B l.length d := by kernel_rfl) (hx : evE σ.e x = .slice (some ⟨b, 0, none⟩) 1 c := by kernel_rfl) (hb : (σ.L.map Ent.t)[j]? = some (blk b (.cells #[.int .i64 y] tb)) := by kernel_rfl) (hi : (σ.L.map Ent.t)[i]? = some (rowT el 1 (.slice B l.length d) l.length (intsV l)) := by kernel_rfl)
    (hh : ∀ B' d', held (nxt (norm 200 σ.c)) = kns (σ.L.set i (.thing (rowT el 1 (.slice B' (l ++ [y]).length d') (l ++ [y]).length (intsV (l ++ [y]))))) js := by intro _ _; kernel_rfl) : WS P fn R σ w := by
  refine ⟨fun hi' hX => ?_⟩
  unfold opIs at hop
  split at hop
  · rename_i all o hcur
    split at hop
    · rename_i hw
      simp only [Option.some.injEq, Prod.mk.injEq] at hop
      obtain ⟨ho, hk⟩ := hop
      simp only [Bool.and_eq_true] at hs
      refine norm_sound 200 (cur_op hcur hw fun K hK => ?_)
      intro a F
      refine wp_ocat O s x t ho el (.int .i64 0) 1 8 ht hinfo rfl (by decide) _ l.length (intsV l) ((F.eval hs.1).trans hv) i hi (some ⟨b, 0, none⟩) 1 c [.int .i64 y] ((F.eval hs.2).trans hx) (News.block (cs := [.int .i64 y]) (O.blk hb) rfl) (by simp [Value.oneCell']) (by unfold maxLen; omega) (by omega) fun v' w' O' => ?_
      have e1 : l.length + 1 = (l ++ [y]).length := by simp
      have e2 : intsV l ++ [Value.int .i64 y] = intsV (l ++ [y]) := by simp [intsV]
      rw [e1, e2] at O'
      obtain ⟨B', d', rfl⟩ : ∃ B' d', v' = .slice B' (l ++ [y]).length d' := by
        obtain ⟨S, h1, _⟩ := O'.at (i := i) (List.getElem?_set_self (idx_lt hi))
        exact row_slice h1.1
      have O2 : Own w0 w' ((σ.L.set i (.thing (rowT el 1 (.slice B' (l ++ [y]).length d') (l ++ [y]).length (intsV (l ++ [y]))))).map Ent.t) := by rw [List.map_set]; exact O'
      have hin : (nxt (norm 200 σ.c)).inv w' := nxt_held hcur (by rw [hh B' d']; exact know_kns O2 js)
      have h3 := h B' d' w'
      unfold ret at h3
      rw [hcur] at h3
      exact hK _ w' hin ((h3 O2).out hin trivial) _ (F.put (chk_dst hk) _)
    · cases hop
  · cases hop
/-- Some things of a list, in another order. -/
theorem Own.sel {L : List Ent} {M : List Thing} (O : Own w0 w (L.map Ent.t)) (js : List Nat) (h : js.map (fun j => (L.map Ent.t)[j]?) = M.map some := by kernel_rfl) (hn : js.Nodup := by decide) : Own w0 w M := by
  have hlen : js.length = M.length := by simpa using congrArg List.length h
  have at_ : ∀ (i : Nat) P, M[i]? = some P → (L.map Ent.t)[js.getD i 0]? = some P := fun i P hP => by
    have h1 : (js.map (fun j => (L.map Ent.t)[j]?))[i]? = some (some P) := by rw [h, List.getElem?_map, hP]; rfl
    rw [List.getElem?_map] at h1
    cases hj : js[i]? with
    | none => rw [hj] at h1; cases h1
    | some j => rw [hj] at h1; rw [List.getD_eq_getElem?_getD, hj]; simpa using h1
  refine O.pull (fun i => js.getD i 0) at_ (fun i j hi hj hij => ?_)
  have e1 : js.getD i 0 = js[i]'(by omega) := by rw [List.getD_eq_getElem?_getD, List.getElem?_eq_getElem (by omega)]; rfl
  have e2 : js.getD j 0 = js[j]'(by omega) := by rw [List.getD_eq_getElem?_getD, List.getElem?_eq_getElem (by omega)]; rfl
  have hij : js.getD i 0 = js.getD j 0 := hij
  rw [e1, e2] at hij
  exact (List.getElem_inj hn).1 hij
end rules
/-- What one call makes, joined to what was made. -/
theorem Own.joined {w0 w1 w2 : World} {L M : List Thing} (h : Own w0 w1 L) (h2 : Own w1 w2 M) : Own w0 w2 (M ++ L) := by
  have hc := h.call h2.below
  obtain ⟨hb, f, f1, f2, f3⟩ := hc
  obtain ⟨hb1, f', g1, g2, g3⟩ := h
  obtain ⟨hb2, f'', k1, k2, k3⟩ := h2
  have hlt : ∀ j b, j < L.length → f' j b → b < w1.heap.size := fun j b hj hf => (L[j]).lt w1 (f' j) (g1 j _ (List.getElem?_eq_getElem hj)) b hf
  refine ⟨hb, fun i => if i < M.length then f'' i else f' (i - M.length), fun i P hP => ?_, fun i j b hi hj hfi hfj => ?_, fun i b hi hf => ?_⟩
  · show P.P w2 (if i < M.length then f'' i else f' (i - M.length))
    by_cases h : i < M.length
    · rw [if_pos h]; rw [List.getElem?_append_left h] at hP; exact k1 i P hP
    · rw [if_neg h]; rw [List.getElem?_append_right (by omega)] at hP
      exact P.keep w1 w2 _ None (g1 _ P hP) (Upd.of_below hb2) (fun _ _ h => h)
  · rw [List.length_append] at hi hj
    by_cases h : i < M.length <;> by_cases h' : j < M.length
    · rw [if_pos h] at hfi; rw [if_pos h'] at hfj; exact k2 i j b h h' hfi hfj
    · rw [if_pos h] at hfi; rw [if_neg h'] at hfj
      have := k3 i b h hfi; have := hlt _ b (by omega) hfj; omega
    · rw [if_neg h] at hfi; rw [if_pos h'] at hfj
      have := k3 j b h' hfj; have := hlt _ b (by omega) hfi; omega
    · rw [if_neg h] at hfi; rw [if_neg h'] at hfj
      have := g2 _ _ b (by omega) (by omega) hfi hfj; omega
  · rw [List.length_append] at hi
    by_cases h : i < M.length
    · rw [if_pos h] at hf; have := k3 i b h hf; have := hb1.size; omega
    · rw [if_neg h] at hf; exact g3 _ b (by omega) hf
end Go.Proofs.YtikimmgileffgaaGreatDoor
end
/- A handshake's messages as plain functions (layer 12). -/
section
namespace Go.Proofs.YtikimmgileffgaaGreatDoor
open Go.RowKit

/-- What changes of a handshake's state. -/
structure Hs where
  at_ : Int
  nx : Int
  E : Int
  RS : Int
  RE : Int
  y : Sy
  deriving DecidableEq, Inhabited
def Hs.zero : Hs := ⟨0, 0, 0, 0, 0, Sy.zero⟩
def Hs.sh (role : Int) (x : PatV) (p : Pat) (kS : Int) (vk : Value) (psks : List Int) (h : Hs) : Sh := ⟨role, h.at_, h.nx, x, p, kS, h.E, h.RS, h.RE, vk, psks, h.y⟩
/-- The result: a state, or none. -/
def Hs.res (e role : Int) (x : PatV) (p : Pat) (kS : Int) (vk : Value) (psks : List Int) (h : Hs) : Value := (upd e (h.sh role x p kS vk psks)).val
theorem Hs.res_ok (role : Int) (x : PatV) (p : Pat) (kS : Int) (vk : Value) (psks : List Int) (h : Hs) : h.res 0 role x p kS vk psks = (h.sh role x p kS vk psks).val := rfl
theorem Hs.res_no {e role : Int} {x : PatV} {p : Pat} {kS : Int} {vk : Value} {psks : List Int} {h : Hs} (he : ¬ e = 0) : h.res e role x p kS vk psks = Sh.zero.val := by unfold Hs.res; rw [upd_no he]
def sendsP (p : Pat) (role n : Int) : Bool := decide (0 ≤ n ∧ n < p.msgs.length) && ((p.msgs.getD n.toNat ⟨0, []⟩).frm == role)
/-- A DH token's own secret, and the other one's key. -/
def pOwn (role S E t : Int) : Int := if t = 6 ∨ t = 4 ∧ role = 1 ∨ t = 5 ∧ role = 0 then S else E
def pOther (role RS RE t : Int) : Int := if t = 6 ∨ t = 4 ∧ role = 0 ∨ t = 5 ∧ role = 1 then RS else RE
def mixC (A : Ar) (role S : Int) (psks : List Int) (h : Hs) (t : Int) : Ar × Hs × Int :=
  if t = 7 then
    let r := mixBothS A h.y (psks.getD h.nx.toNat 0)
    if r.2.2 ≠ 0 then (r.1, Hs.zero, r.2.2) else (r.1, { h with nx := h.nx + 1, y := r.2.1 }, 0)
  else
    let s := share A (pOwn role S h.E t) (pOther role h.RS h.RE t)
    if s.2.2 ≠ 0 then (s.1, Hs.zero, s.2.2) else
    let r := mixKeyS s.1 h.y s.2.1
    if r.2.2 ≠ 0 then (r.1, Hs.zero, r.2.2) else (r.1, { h with y := r.2.1 }, 0)
def sealedC (A : Ar) (h : Hs) (x : Int) : Ar × Hs × Int × Int :=
  let r := sealS A h.y x
  if r.2.2.2 ≠ 0 then (r.1, Hs.zero, 0, r.2.2.2) else (r.1, { h with y := r.2.1 }, r.2.2.1, 0)
def openedC (A : Ar) (h : Hs) (x : Int) : Ar × Hs × Int × Int :=
  let r := openS A h.y x
  if r.2.2.2 ≠ 0 then (r.1, Hs.zero, 0, r.2.2.2) else (r.1, { h with y := r.2.1 }, r.2.2.1, 0)
def sendC (A : Ar) (role S : Int) (md : Bool) (h : Hs) (t : Int) : Ar × Hs × Int × Int :=
  if t = 1 ∧ h.E = 0 then (A, Hs.zero, 0, 10) else
  let r := publicC A role S h.E h.RS h.RE role t
  if r.2.2 ≠ 0 then (r.1, Hs.zero, 0, r.2.2) else
  if t = 2 then sealedC r.1 h r.2.1 else
  let q := openY r.1 h.y md r.2.1 true
  if q.2.2 ≠ 0 then (q.1, Hs.zero, r.2.1, q.2.2) else (q.1, { h with y := q.2.1 }, r.2.1, 0)
def receiveC (A : Ar) (md : Bool) (h : Hs) (t part : Int) : Ar × Hs × Int :=
  if t = 1 then
    let q := openY A h.y md part true
    if q.2.2 ≠ 0 then (q.1, Hs.zero, q.2.2) else (q.1, { h with RE := part, y := q.2.1 }, 0)
  else
    let r := openedC A h part
    if r.2.2.2 ≠ 0 then (r.1, Hs.zero, r.2.2.2) else (r.1, { r.2.1 with RS := r.2.2.1 }, 0)
def partsC : List Int → Int
  | [] => 1
  | t :: l => if t ≤ 2 then partsC l + 1 else partsC l
/-- What is written of the tokens; what was written ahead of them is msg. -/
def writeL (role S e : Int) (psks : List Int) (md : Bool) : List Int → Ar → Hs → List Int → Ar × Hs × List Int × Int
  | [], A, h, msg => (A, h, msg, 0)
  | t :: l, A, h, msg =>
    let h1 := if t = 1 then { h with E := e } else h
    if 2 < t then
      let r := mixC A role S psks h1 t
      if r.2.2 ≠ 0 then (r.1, Hs.zero, [], r.2.2) else writeL role S e psks md l r.1 r.2.1 msg
    else
      let r := sendC A role S md h1 t
      if r.2.2.2 ≠ 0 then (r.1, Hs.zero, [], r.2.2.2) else writeL role S e psks md l r.1 r.2.1 (msg ++ [r.2.2.1])
def toks (p : Pat) (n : Int) : List Int := (p.msgs.getD n.toNat ⟨0, []⟩).t
def writeC (A : Ar) (role S : Int) (psks : List Int) (p : Pat) (h : Hs) (e payload : Int) : Ar × Hs × List Int × Int :=
  if sendsP p role h.at_ = false then (A, Hs.zero, [], 5) else
  if (has A.l e && has A.l payload) = false then (A, Hs.zero, [], 1) else
  let r := writeL role S e psks (modeP p) (toks p h.at_) A h []
  if r.2.2.2 ≠ 0 then (r.1, Hs.zero, [], r.2.2.2) else
  let q := sealedC r.1 r.2.1 payload
  if q.2.2.2 ≠ 0 then (q.1, Hs.zero, [], q.2.2.2) else (q.1, { q.2.1 with at_ := q.2.1.at_ + 1 }, r.2.2.1 ++ [q.2.2.1], 0)
/-- What is read of the tokens, of the parts from k on. -/
def readL (role S : Int) (psks : List Int) (md : Bool) (msg : List Int) : List Int → Ar → Hs → Nat → Ar × Hs × Nat × Int
  | [], A, h, k => (A, h, k, 0)
  | t :: l, A, h, k =>
    if 2 < t then
      let r := mixC A role S psks h t
      if r.2.2 ≠ 0 then (r.1, Hs.zero, 0, r.2.2) else readL role S psks md msg l r.1 r.2.1 k
    else
      let r := receiveC A md h t (msg.getD k 0)
      if r.2.2 ≠ 0 then (r.1, Hs.zero, 0, r.2.2) else readL role S psks md msg l r.1 r.2.1 (k + 1)
def readC (A : Ar) (role S : Int) (psks : List Int) (p : Pat) (h : Hs) (msg : List Int) : Ar × Hs × Int × Int :=
  if (p.msgs.length : Int) ≤ h.at_ ∨ sendsP p role h.at_ = true then (A, Hs.zero, 0, 5) else
  if (msg.all fun x => has A.l x) = false then (A, Hs.zero, 0, 1) else
  if (msg.length : Int) ≠ partsC (toks p h.at_) then (A, Hs.zero, 0, 7) else
  let r := readL role S psks (modeP p) msg (toks p h.at_) A h 0
  if r.2.2.2 ≠ 0 then (r.1, Hs.zero, 0, r.2.2.2) else
  let q := openedC r.1 r.2.1 (msg.getD r.2.2.1 0)
  if q.2.2.2 ≠ 0 then (q.1, Hs.zero, 0, q.2.2.2) else (q.1, { q.2.1 with at_ := q.2.1.at_ + 1 }, q.2.2.1, 0)

theorem mixC_nk {A A' : Ar} {role S t : Int} {psks : List Int} {h h' : Hs} {e : Int} (_ : U64 h.y.c.n) (hm : mixC A role S psks h t = (A', h', e)) : U64 h'.y.c.n := by
  have : U64 (mixC A role S psks h t).2.1.y.c.n := by
    unfold mixC; dsimp only; split
    · split
      · exact Sy.ok_zero
      · exact mixBothS_ok
    · split
      · exact Sy.ok_zero
      · split
        · exact Sy.ok_zero
        · exact mixKeyS_ok
  rw [hm] at this; exact this
theorem sealedC_nk {A A' : Ar} {x y : Int} {h h' : Hs} {e : Int} (hn : U64 h.y.c.n) (hm : sealedC A h x = (A', h', y, e)) : U64 h'.y.c.n := by
  have : U64 (sealedC A h x).2.1.y.c.n := by
    unfold sealedC; dsimp only; split
    · exact Sy.ok_zero
    · exact sealS_ok hn
  rw [hm] at this; exact this
theorem openedC_nk {A A' : Ar} {x y : Int} {h h' : Hs} {e : Int} (hn : U64 h.y.c.n) (hm : openedC A h x = (A', h', y, e)) : U64 h'.y.c.n := by
  have : U64 (openedC A h x).2.1.y.c.n := by
    unfold openedC; dsimp only; split
    · exact Sy.ok_zero
    · exact openS_ok hn
  rw [hm] at this; exact this
theorem sealedC_zero {A A' : Ar} {x y : Int} {h h' : Hs} {e : Int} (hm : sealedC A h x = (A', h', y, e)) (he : ¬ e = 0) : y = 0 := by
  unfold sealedC at hm; dsimp only at hm; split at hm <;> (simp only [Prod.mk.injEq] at hm; first | exact hm.2.2.1.symm | exact absurd hm.2.2.2.symm he)
theorem openedC_zero {A A' : Ar} {x y : Int} {h h' : Hs} {e : Int} (hm : openedC A h x = (A', h', y, e)) (he : ¬ e = 0) : y = 0 := by
  unfold openedC at hm; dsimp only at hm; split at hm <;> (simp only [Prod.mk.injEq] at hm; first | exact hm.2.2.1.symm | exact absurd hm.2.2.2.symm he)
theorem openY_ok {A : Ar} {y : Sy} {md eph : Bool} {x : Int} (hn : y.ok) : (openY A y md x eph).2.1.ok := by
  unfold openY; dsimp only; split
  · exact Sy.ok_zero
  · split
    · split
      · exact Sy.ok_zero
      · exact mixKeyS_ok
    · exact mixHashS_ok hn
theorem sendC_nk {A A' : Ar} {role S t y : Int} {md : Bool} {h h' : Hs} {e : Int} (hn : U64 h.y.c.n) (hm : sendC A role S md h t = (A', h', y, e)) : U64 h'.y.c.n := by
  have : U64 (sendC A role S md h t).2.1.y.c.n := by
    unfold sendC; dsimp only; split
    · exact Sy.ok_zero
    · split
      · exact Sy.ok_zero
      · split
        · exact sealedC_nk hn rfl
        · split
          · exact Sy.ok_zero
          · exact openY_ok hn
  rw [hm] at this; exact this
theorem receiveC_nk {A A' : Ar} {t part : Int} {md : Bool} {h h' : Hs} {e : Int} (hn : U64 h.y.c.n) (hm : receiveC A md h t part = (A', h', e)) : U64 h'.y.c.n := by
  have : U64 (receiveC A md h t part).2.1.y.c.n := by
    unfold receiveC; dsimp only; split
    · split
      · exact Sy.ok_zero
      · exact openY_ok hn
    · split
      · exact Sy.ok_zero
      · exact openedC_nk (h' := (openedC A h part).2.1) hn rfl
  rw [hm] at this; exact this
theorem getD_at {α : Type} {l : List α} {k : Nat} {x d : α} (h : l[k]? = some x) : l.getD k d = x := by rw [List.getD_eq_getElem?_getD, h]; rfl
/-- What a step leaves as it is. -/
theorem mixC_st {A A' : Ar} {role S t : Int} {psks : List Int} {h h' : Hs} (hm : mixC A role S psks h t = (A', h', 0)) : h'.at_ = h.at_ ∧ h'.nx = h.nx + (if t = 7 then 1 else 0) ∧ h'.E = h.E ∧ h'.RS = h.RS ∧ h'.RE = h.RE := by
  unfold mixC at hm; dsimp only at hm
  split at hm
  · rename_i h7
    split at hm
    · rename_i hne; simp only [Prod.mk.injEq] at hm; exact absurd hm.2.2 hne
    · simp only [Prod.mk.injEq] at hm; obtain ⟨_, rfl, _⟩ := hm; simp [h7]
  · rename_i h7
    split at hm
    · rename_i hne; simp only [Prod.mk.injEq] at hm; exact absurd hm.2.2 hne
    · split at hm
      · rename_i hne; simp only [Prod.mk.injEq] at hm; exact absurd hm.2.2 hne
      · simp only [Prod.mk.injEq] at hm; obtain ⟨_, rfl, _⟩ := hm; simp [h7]
theorem sealedC_st {A A' : Ar} {x y : Int} {h h' : Hs} (hm : sealedC A h x = (A', h', y, 0)) : h'.at_ = h.at_ ∧ h'.nx = h.nx ∧ h'.E = h.E ∧ h'.RS = h.RS ∧ h'.RE = h.RE := by
  unfold sealedC at hm; dsimp only at hm
  split at hm
  · rename_i hne; simp only [Prod.mk.injEq] at hm; exact absurd hm.2.2.2 hne
  · simp only [Prod.mk.injEq] at hm; obtain ⟨_, rfl, _⟩ := hm; simp
theorem openedC_st {A A' : Ar} {x y : Int} {h h' : Hs} (hm : openedC A h x = (A', h', y, 0)) : h'.at_ = h.at_ ∧ h'.nx = h.nx ∧ h'.E = h.E ∧ h'.RS = h.RS ∧ h'.RE = h.RE := by
  unfold openedC at hm; dsimp only at hm
  split at hm
  · rename_i hne; simp only [Prod.mk.injEq] at hm; exact absurd hm.2.2.2 hne
  · simp only [Prod.mk.injEq] at hm; obtain ⟨_, rfl, _⟩ := hm; simp
theorem sendC_st {A A' : Ar} {role S t y : Int} {md : Bool} {h h' : Hs} (hm : sendC A role S md h t = (A', h', y, 0)) : h'.at_ = h.at_ ∧ h'.nx = h.nx ∧ h'.E = h.E ∧ h'.RS = h.RS ∧ h'.RE = h.RE := by
  unfold sendC at hm; dsimp only at hm
  split at hm
  · simp at hm
  · split at hm
    · rename_i hne; simp only [Prod.mk.injEq] at hm; exact absurd hm.2.2.2 hne
    · split at hm
      · exact sealedC_st hm
      · split at hm
        · rename_i hne; simp only [Prod.mk.injEq] at hm; exact absurd hm.2.2.2 hne
        · simp only [Prod.mk.injEq] at hm; obtain ⟨_, rfl, _⟩ := hm; simp
theorem receiveC_st {A A' : Ar} {t part : Int} {md : Bool} {h h' : Hs} (hm : receiveC A md h t part = (A', h', 0)) : h'.at_ = h.at_ ∧ h'.nx = h.nx ∧ h'.E = h.E := by
  unfold receiveC at hm; dsimp only at hm
  split at hm
  · split at hm
    · rename_i hne; simp only [Prod.mk.injEq] at hm; exact absurd hm.2.2 hne
    · simp only [Prod.mk.injEq] at hm; obtain ⟨_, rfl, _⟩ := hm; simp
  · split at hm
    · rename_i hne; simp only [Prod.mk.injEq] at hm; exact absurd hm.2.2 hne
    · rename_i hne
      have hne : (openedC A h part).2.2.2 = 0 := by simpa using hne
      simp only [Prod.mk.injEq] at hm; obtain ⟨_, rfl, _⟩ := hm
      have := openedC_st (A := A) (h := h) (x := part) (A' := (openedC A h part).1) (h' := (openedC A h part).2.1) (y := (openedC A h part).2.2.1) (by rw [← hne])
      exact ⟨this.1, this.2.1, this.2.2.1⟩
def cnt7 : List Int → Int
  | [] => 0
  | t :: l => (if t = 7 then 1 else 0) + cnt7 l
theorem cnt7_pos : ∀ l, 0 ≤ cnt7 l
  | [] => Int.le_refl _
  | t :: l => by have := cnt7_pos l; simp only [cnt7]; split <;> omega
theorem cnt_at {l : List Int} {k : Nat} {t nx n : Int} (h : 0 ≤ nx ∧ nx + cnt7 (l.drop k) ≤ n) (hd : l.drop k = t :: l.drop (k + 1)) (h7 : t = 7) : 0 ≤ nx ∧ nx < n := by
  rw [hd] at h; have := cnt7_pos (l.drop (k + 1)); simp only [cnt7, h7, if_true] at h; omega
theorem cnt_next {l : List Int} {k : Nat} {t nx nx' n : Int} (h : 0 ≤ nx ∧ nx + cnt7 (l.drop k) ≤ n) (hd : l.drop k = t :: l.drop (k + 1)) (hx : nx' = nx + (if t = 7 then 1 else 0)) : 0 ≤ nx' ∧ nx' + cnt7 (l.drop (k + 1)) ≤ n := by
  rw [hd] at h; simp only [cnt7] at h; split at hx <;> simp_all <;> omega
theorem cnt_next0 {l : List Int} {k : Nat} {t nx nx' n : Int} (h : 0 ≤ nx ∧ nx + cnt7 (l.drop k) ≤ n) (hd : l.drop k = t :: l.drop (k + 1)) (h2 : ¬ 2 < t) (hx : nx' = nx) : 0 ≤ nx' ∧ nx' + cnt7 (l.drop (k + 1)) ≤ n := by
  rw [hd] at h; simp only [cnt7] at h; split at h <;> omega
theorem sendsP_facts {p : Pat} {role n : Int} (h : sendsP p role n = true) : ∃ (q : Nat) (m : Msg), n = (q : Int) ∧ p.msgs[q]? = some m ∧ m.frm = role ∧ toks p q = m.t := by
  unfold sendsP at h
  simp only [Bool.and_eq_true, decide_eq_true_eq, beq_iff_eq] at h
  obtain ⟨⟨h0, h1⟩, h2⟩ := h
  have hq : n.toNat < p.msgs.length := by omega
  have hm : p.msgs[n.toNat]? = some p.msgs[n.toNat] := List.getElem?_eq_getElem hq
  refine ⟨n.toNat, p.msgs[n.toNat], by omega, hm, ?_, ?_⟩
  · rw [← h2, getD_at hm]
  · unfold toks; rw [Int.toNat_natCast, getD_at hm]
/-- A thing in which a handshake's pattern and psks lie. -/
structure HasShk (X : Thing) (x : PatV) (p : Pat) (bk : Option Addr) (dk : Nat) (psks : List Int) : Prop where
  pat : ∀ w S, X.P w S → PatIn w S x p
  ints : ∀ w S, X.P w S → IntsIn w S (.slice bk psks.length dk) psks
theorem hasShk_shk (x : PatV) (p : Pat) (bk : Option Addr) (dk : Nat) (psks : List Int) : HasShk (shkT x p (.slice bk psks.length dk) psks) x p bk dk psks := ⟨fun _ _ h => h.1, fun _ _ h => h.2.1⟩
theorem HasShk.hasPat {X : Thing} {x : PatV} {p : Pat} {bk : Option Addr} {dk : Nat} {psks : List Int} (h : HasShk X x p bk dk psks) : HasPat X x p := fun w S hS => (h.pat w S hS).mono (X.lt w S hS)
theorem HasShk.frz {X : Thing} {x : PatV} {p : Pat} {bk : Option Addr} {dk : Nat} {psks : List Int} {w1 : World} {S0 : Nat → Prop} (h : HasShk X x p bk dk psks) (hS : X.P w1 S0) : HasShk (frz w1 S0) x p bk dk psks :=
  ⟨fun _ _ ⟨e, u, _⟩ => e ▸ (h.pat _ _ hS).keep u (fun _ hb hn => hn hb), fun _ _ ⟨e, u, _⟩ => e ▸ (h.ints _ _ hS).keep u (fun _ hb hn => hn hb)⟩
theorem Own.psks {w0 w : World} {M : List Thing} {j : Nat} {X : Thing} {x : PatV} {p : Pat} {bk : Option Addr} {dk : Nat} {l : List Int} (O : Own w0 w M) (hj : M[j]? = some X) (hX : HasShk X x p bk dk l) : Holds w bk (intsV l) := by
  obtain ⟨S, h, _⟩ := O.at hj
  obtain ⟨A, c, hv, hh, _⟩ := hX.ints w S h
  cases hv; exact hh
/-- One thing in front; another one stands still till the end. -/
theorem Own.focZ {w0 w : World} {M : List Thing} {i j : Nat} {x X : Thing} (O : Own w0 w M) (hi : M[i]? = some x) (hj : M[j]? = some X) (hij : j ≠ i) :
    ∃ (S0 : Nat → Prop) (T : List Ent), (∀ (j' : Nat) (y : Thing), j' ≠ i → j' ≠ j → M[j']? = some y → (T.map Ent.t)[j']? = some y) ∧ X.P w S0 ∧ (T.map Ent.t)[j]? = some (frz w S0) ∧ Own w0 w ((.thing x :: T).map Ent.t) ∧ (∀ (k : Nat) {w' : World} {y : Thing} {L : List Ent}, Own w0 w' (L.map Ent.t) → (h : (L.map Ent.t).drop k = y :: T.map Ent.t := by kernel_rfl) → Own w0 w' (M.set i y)) ∧
      ∀ (k n : Nat) {w' : World} {y z : Thing} {L : List Ent}, Own w0 w' (L.map Ent.t) → (h1 : L[k]? = some (.thing z) := by kernel_rfl) → (h2 : L.drop (k + 1 + n) = .thing y :: T := by kernel_rfl) → Own w0 w' (z :: M.set i y) := by
  obtain ⟨S0, hS, O1, un⟩ := O.freeze hj
  have hi1 : (M.set j (Go.Proofs.YtikimmgileffgaaGreatDoor.frz w S0))[i]? = some x := by rw [List.getElem?_set, if_neg hij]; exact hi
  obtain ⟨T, hT, O2, back, back2⟩ := O1.focD3 hi1
  have hset : ∀ y, ((M.set j (Go.Proofs.YtikimmgileffgaaGreatDoor.frz w S0)).set i y).set j X = M.set i y := fun y => by
    apply List.ext_getElem?
    intro k
    rw [List.getElem?_set, List.getElem?_set, List.getElem?_set, List.getElem?_set]
    simp only [List.length_set]
    by_cases e1 : j = k
    · subst e1
      rw [if_pos rfl, if_pos (idx_lt hj), if_neg (Ne.symm hij)]; exact hj.symm
    · simp only [if_neg e1]
  have hjj : ∀ y, ((M.set j (Go.Proofs.YtikimmgileffgaaGreatDoor.frz w S0)).set i y)[j]? = some (Go.Proofs.YtikimmgileffgaaGreatDoor.frz w S0) := fun y => by
    rw [List.getElem?_set, if_neg (Ne.symm hij), List.getElem?_set, if_pos rfl, if_pos (idx_lt hj)]
  refine ⟨S0, T, fun j' y h1 h2 h3 => hT j' y h1 (by rw [List.getElem?_set, if_neg (Ne.symm h2)]; exact h3), hS, hT j _ hij (by rw [List.getElem?_set, if_pos rfl, if_pos (idx_lt hj)]), O2, fun k {w' y L} O' h => ?_, fun k n {w' y z L} O' h1 h2 => ?_⟩
  · have := un (back k O' h) (hjj y)
    rwa [hset] at this
  · have := un (k := j + 1) (back2 k n O' h1 h2) (by rw [List.getElem?_cons_succ]; exact hjj y)
    rw [List.set_cons_succ, hset] at this; exact this
/-- Something that stays true while two things change and others are made. -/
def Kept2 (w0 : World) (M : List Thing) (i j : Nat) (Φ : World → Prop) : Prop := ∀ T : List Ent, (∀ (j' : Nat) (y : Thing), j' ≠ i → j' ≠ j → M[j']? = some y → (T.map Ent.t)[j']? = some y) → ∀ (k : Nat) {w' : World} {y : Thing} {L : List Ent}, Own w0 w' (L.map Ent.t) → (L.map Ent.t).drop k = y :: T.map Ent.t → Φ w'
theorem kept2_old {w0 : World} {M : List Thing} {i j : Nat} {Φ : World → Prop} (h : ∀ w', Below w0.heap.size w0 w' → Φ w') : Kept2 w0 M i j Φ := fun _ _ _ {w'} {_} {_} O _ => h w' O.below
theorem kept2_thing {w0 : World} {M : List Thing} {i j : Nat} {Φ : World → Prop} (n : Nat) {X : Thing} (hn : M[n]? = some X) (hi : n ≠ i) (hj : n ≠ j) (hX : ∀ w S, X.P w S → Φ w) : Kept2 w0 M i j Φ := fun T hT k {w'} {y} {L} O hd => by
  have h1 := hT n X hi hj hn
  have h2 : (L.map Ent.t)[k + (n + 1)]? = some X := by
    rw [← List.getElem?_drop, hd, List.getElem?_cons_succ]; exact h1
  obtain ⟨S, h3, _⟩ := O.at h2
  exact hX w' S h3
theorem rowI_holds {B : Option Addr} {d : Nat} {l : List Int} (w : World) (S : Nat → Prop) (h : (rowT 3 1 (.slice B l.length d) l.length (intsV l)).P w S) : Holds w B (intsV l) := by
  obtain ⟨A, c, hv, hh, _⟩ := intsIn_row h
  cases hv; exact hh
theorem partsC_pos : ∀ l, 1 ≤ partsC l
  | [] => Int.le_refl _
  | t :: l => by have := partsC_pos l; simp only [partsC]; split <;> omega
theorem parts_lt {l : List Int} {k ka : Nat} {t : Int} {n : Nat} (h : (ka : Int) + partsC (l.drop k) = (n : Int)) (_hd : l.drop k = t :: l.drop (k + 1)) : ka < n := by
  have := partsC_pos (l.drop k); omega
theorem parts_next {l : List Int} {k ka : Nat} {t : Int} {n : Int} (h : (ka : Int) + partsC (l.drop k) = n) (hd : l.drop k = t :: l.drop (k + 1)) (h2 : ¬ 2 < t) : ((ka + 1 : Nat) : Int) + partsC (l.drop (k + 1)) = n := by
  rw [hd] at h; simp only [partsC] at h; split at h <;> omega
theorem parts_next7 {l : List Int} {k ka : Nat} {t : Int} {n : Int} (h : (ka : Int) + partsC (l.drop k) = n) (hd : l.drop k = t :: l.drop (k + 1)) (h2 : 2 < t) : (ka : Int) + partsC (l.drop (k + 1)) = n := by
  rw [hd] at h; simp only [partsC] at h; split at h <;> omega
/-- A message of a pattern that stands still. -/
theorem msg_atS {w : World} {S : Nat → Prop} {A : Option Addr} {ms : List Msg} {k : Nat} {m : Msg} (h : MsgsIn w S A ms) (hk : ms[k]? = some m) :
    ∃ b q D d, A = some ⟨b, q, none⟩ ∧ S b ∧ w.cell? ⟨b, q + k * 2, none⟩ = some (.int .i64 m.frm) ∧ w.cell? ⟨b, q + k * 2 + 1, none⟩ = some (.slice D m.t.length d) ∧ Holds w D (intsV m.t) ∧ (intsV m.t ≠ [] → ∀ a, D = some a → S a.block) := by
  rcases h with h | ⟨b, q, hA, hS, h⟩
  · rw [h] at hk; simp at hk
  · obtain ⟨h1, vt, h2, D, d, hv, h3, h4⟩ := h k m hk
    subst hv
    exact ⟨b, q, D, d, hA, hS, h1, h2, h3, fun hne => h4 (fun he => hne (by rw [he]; rfl))⟩
end Go.Proofs.YtikimmgileffgaaGreatDoor
end
/- Whose a message is; a token's keys (layer 12). Printed by s_shk2.py. -/
section
namespace Go.Proofs.YtikimmgileffgaaGreatDoor
open Go.RowKit
set_option warningAsError false in
set_option maxRecDepth 100000 in
set_option maxHeartbeats 4000000 in
theorem sendsE {w : World} {a0 a1 am : Option Addr} {c0 c1 cm : Nat} {p : Pat} {role n : Int} (hp : PatIn w (Old w) (pvx a0 c0 a1 c1 am cm p) p) (_hfit : PatFits p) :
    Calls Tryz.prog 79 #[.agg #[.string (strO p.name), .slice a0 p.pre0.length c0, .slice a1 p.pre1.length c1, .slice am p.msgs.length cm], .int .i64 role, .int .i64 n] w fun e' w' => e' = .returned (.bool (sendsP p role n)) ∧ Below w.heap.size w w' := by
 have O0 := Own.start w
 replace O0 : Own w w (List.map Ent.t []) := O0
 refine gent O0 Tryz.func79 ?_
 refine sg1 [.n [], .p 2] O0 fun b1 w2 O3 => ?_
 rcases Bool.eq_false_or_eq_true (decide (n ≥ 0)) with h4 | h4
 · have h4p : (0 ≤ n) := by simpa only [decide_eq_true_eq, decide_eq_false_iff_not] using h4
   refine sg0 [.a (bT h4), .p 3, .a (.r 0), .p 1] O3 fun w5 O6 => ?_
   rcases Bool.eq_false_or_eq_true (decide (n < (p.msgs.length : Int))) with h7 | h7
   · have h7p : (n < (p.msgs.length : Int)) := by simpa only [decide_eq_true_eq, decide_eq_false_iff_not] using h7
     obtain ⟨k, rfl⟩ : ∃ k : Nat, n = (k : Int) := ⟨n.toNat, by omega⟩
     have hk : k < p.msgs.length := by omega
     obtain ⟨m, hm⟩ : ∃ m, p.msgs[k]? = some m := ⟨_, List.getElem?_eq_getElem hk⟩
     obtain ⟨mb, mq, D, d, hA, hD, hcell⟩ := msg_at hp.msgs hm
     have hmm : p.msgs[k] = m := (List.getElem?_eq_some_iff.1 hm).2
     refine sg0 [.a (bT h7), .p 3, .a (.r 0), .p 1, .a (.i _ mb mq p.msgs.length k hA hk), .p 1] O6 fun w8 O9 => ?_
     refine gx [.cell mb (mq + k * 2) (.int .i64 m.frm)] O9 ⟨(hcell _ O9.below).1, trivial⟩ fun O10 => ?_
     refine sg0 [.a (.r 0), .p 4] O10 fun w11 O12 => ?_
     exact gret (v := .bool (m.frm == role)) [] O12 (⟨by simp [sendsP, h4p, h7p, hmm, hk], O12.below⟩)
   · have h7p : ¬ (n < (p.msgs.length : Int)) := by simpa only [decide_eq_true_eq, decide_eq_false_iff_not] using h7
     refine sg0 [.a (bT h7), .p 12] O6 fun w13 O14 => ?_
     exact gret (v := .bool false) [] O14 (⟨by simp [sendsP, h4p, h7p], O14.below⟩)
 · have h4p : ¬ (0 ≤ n) := by simpa only [decide_eq_true_eq, decide_eq_false_iff_not] using h4
   refine sg0 [.a (bT h4), .p 18] O3 fun w15 O16 => ?_
   exact gret (v := .bool false) [] O16 (⟨by simp [sendsP, h4p], O16.below⟩)
set_option warningAsError false in
set_option maxRecDepth 100000 in
set_option maxHeartbeats 4000000 in
theorem pairE03 {w : World} {at_ nx kS kE kRS kRE sk sh sc sn : Int} {sb : Bool} {a0 a1 am bk : Option Addr} {c0 c1 cm dk : Nat} {p : Pat} {psks : List Int} :
    Calls Tryz.prog 131 #[.agg #[.int .i64 0, .int .i64 at_, .int .i64 nx, .string (strO p.name), .slice a0 p.pre0.length c0, .slice a1 p.pre1.length c1, .slice am p.msgs.length cm, .int .i64 kS, .int .i64 kE, .int .i64 kRS, .int .i64 kRE, .slice bk psks.length dk, .int .i64 sk, .int .i64 sh, .int .i64 sc, .bool sb, .int .u64 sn], .int .i64 3] w fun e' w' => e' = .returned (.tuple #[.int .i64 (pOwn 0 kS kE 3), .int .i64 (pOther 0 kRS kRE 3)]) ∧ Below w.heap.size w w' := by
 have O0 := Own.start w
 replace O0 : Own w w (List.map Ent.t []) := O0
 refine gent O0 Tryz.func131 ?_
 refine sg2 [.n [], .p 8, .n [], .s 0 [], .d [1], .qs [0, 1], .q 2 (.r 0), .qs [3, 4], .q 5 (.r 0), .qs [6, 7], .z, .p 1, .a (.r 1), .p 1, .a (.r 0), .p 2, .a (.r 1), .p 2, .a (.r 0), .p 5] O0 fun b1 b2 w3 O4 => ?_
 exact gret [] O4 (⟨rfl, O4.below⟩)
set_option warningAsError false in
set_option maxRecDepth 100000 in
set_option maxHeartbeats 4000000 in
theorem pairE04 {w : World} {at_ nx kS kE kRS kRE sk sh sc sn : Int} {sb : Bool} {a0 a1 am bk : Option Addr} {c0 c1 cm dk : Nat} {p : Pat} {psks : List Int} :
    Calls Tryz.prog 131 #[.agg #[.int .i64 0, .int .i64 at_, .int .i64 nx, .string (strO p.name), .slice a0 p.pre0.length c0, .slice a1 p.pre1.length c1, .slice am p.msgs.length cm, .int .i64 kS, .int .i64 kE, .int .i64 kRS, .int .i64 kRE, .slice bk psks.length dk, .int .i64 sk, .int .i64 sh, .int .i64 sc, .bool sb, .int .u64 sn], .int .i64 4] w fun e' w' => e' = .returned (.tuple #[.int .i64 (pOwn 0 kS kE 4), .int .i64 (pOther 0 kRS kRE 4)]) ∧ Below w.heap.size w w' := by
 have O0 := Own.start w
 replace O0 : Own w w (List.map Ent.t []) := O0
 refine gent O0 Tryz.func131 ?_
 refine sg2 [.n [], .p 8, .n [], .s 0 [], .d [1], .qs [0, 1], .q 2 (.r 0), .qs [3, 4], .q 5 (.r 0), .qs [6, 7], .z, .p 1, .a (.r 1), .p 1, .a (.r 0), .p 2, .a (.r 1), .p 2, .a (.r 0), .p 3, .a (.r 1), .p 5] O0 fun b1 b2 w3 O4 => ?_
 exact gret [] O4 (⟨rfl, O4.below⟩)
set_option warningAsError false in
set_option maxRecDepth 100000 in
set_option maxHeartbeats 4000000 in
theorem pairE05 {w : World} {at_ nx kS kE kRS kRE sk sh sc sn : Int} {sb : Bool} {a0 a1 am bk : Option Addr} {c0 c1 cm dk : Nat} {p : Pat} {psks : List Int} :
    Calls Tryz.prog 131 #[.agg #[.int .i64 0, .int .i64 at_, .int .i64 nx, .string (strO p.name), .slice a0 p.pre0.length c0, .slice a1 p.pre1.length c1, .slice am p.msgs.length cm, .int .i64 kS, .int .i64 kE, .int .i64 kRS, .int .i64 kRE, .slice bk psks.length dk, .int .i64 sk, .int .i64 sh, .int .i64 sc, .bool sb, .int .u64 sn], .int .i64 5] w fun e' w' => e' = .returned (.tuple #[.int .i64 (pOwn 0 kS kE 5), .int .i64 (pOther 0 kRS kRE 5)]) ∧ Below w.heap.size w w' := by
 have O0 := Own.start w
 replace O0 : Own w w (List.map Ent.t []) := O0
 refine gent O0 Tryz.func131 ?_
 refine sg2 [.n [], .p 8, .n [], .s 0 [], .d [1], .qs [0, 1], .q 2 (.r 0), .qs [3, 4], .q 5 (.r 0), .qs [6, 7], .z, .p 1, .a (.r 1), .p 1, .a (.r 0), .p 3, .a (.r 1), .p 2, .a (.r 1), .p 2, .a (.r 0), .p 5] O0 fun b1 b2 w3 O4 => ?_
 exact gret [] O4 (⟨rfl, O4.below⟩)
set_option warningAsError false in
set_option maxRecDepth 100000 in
set_option maxHeartbeats 4000000 in
theorem pairE06 {w : World} {at_ nx kS kE kRS kRE sk sh sc sn : Int} {sb : Bool} {a0 a1 am bk : Option Addr} {c0 c1 cm dk : Nat} {p : Pat} {psks : List Int} :
    Calls Tryz.prog 131 #[.agg #[.int .i64 0, .int .i64 at_, .int .i64 nx, .string (strO p.name), .slice a0 p.pre0.length c0, .slice a1 p.pre1.length c1, .slice am p.msgs.length cm, .int .i64 kS, .int .i64 kE, .int .i64 kRS, .int .i64 kRE, .slice bk psks.length dk, .int .i64 sk, .int .i64 sh, .int .i64 sc, .bool sb, .int .u64 sn], .int .i64 6] w fun e' w' => e' = .returned (.tuple #[.int .i64 (pOwn 0 kS kE 6), .int .i64 (pOther 0 kRS kRE 6)]) ∧ Below w.heap.size w w' := by
 have O0 := Own.start w
 replace O0 : Own w w (List.map Ent.t []) := O0
 refine gent O0 Tryz.func131 ?_
 refine sg2 [.n [], .p 8, .n [], .s 0 [], .d [1], .qs [0, 1], .q 2 (.r 0), .qs [3, 4], .q 5 (.r 0), .qs [6, 7], .z, .p 1, .a (.r 1), .p 1, .a (.r 0), .p 3, .a (.r 1), .p 2, .a (.r 1), .p 2, .a (.r 0), .p 3, .a (.r 1), .p 5] O0 fun b1 b2 w3 O4 => ?_
 exact gret [] O4 (⟨rfl, O4.below⟩)
set_option warningAsError false in
set_option maxRecDepth 100000 in
set_option maxHeartbeats 4000000 in
theorem pairE13 {w : World} {at_ nx kS kE kRS kRE sk sh sc sn : Int} {sb : Bool} {a0 a1 am bk : Option Addr} {c0 c1 cm dk : Nat} {p : Pat} {psks : List Int} :
    Calls Tryz.prog 131 #[.agg #[.int .i64 1, .int .i64 at_, .int .i64 nx, .string (strO p.name), .slice a0 p.pre0.length c0, .slice a1 p.pre1.length c1, .slice am p.msgs.length cm, .int .i64 kS, .int .i64 kE, .int .i64 kRS, .int .i64 kRE, .slice bk psks.length dk, .int .i64 sk, .int .i64 sh, .int .i64 sc, .bool sb, .int .u64 sn], .int .i64 3] w fun e' w' => e' = .returned (.tuple #[.int .i64 (pOwn 1 kS kE 3), .int .i64 (pOther 1 kRS kRE 3)]) ∧ Below w.heap.size w w' := by
 have O0 := Own.start w
 replace O0 : Own w w (List.map Ent.t []) := O0
 refine gent O0 Tryz.func131 ?_
 refine sg2 [.n [], .p 8, .n [], .s 0 [], .d [1], .qs [0, 1], .q 2 (.r 0), .qs [3, 4], .q 5 (.r 0), .qs [6, 7], .z, .p 1, .a (.r 1), .p 1, .a (.r 0), .p 2, .a (.r 1), .p 2, .a (.r 0), .p 5] O0 fun b1 b2 w3 O4 => ?_
 exact gret [] O4 (⟨rfl, O4.below⟩)
set_option warningAsError false in
set_option maxRecDepth 100000 in
set_option maxHeartbeats 4000000 in
theorem pairE14 {w : World} {at_ nx kS kE kRS kRE sk sh sc sn : Int} {sb : Bool} {a0 a1 am bk : Option Addr} {c0 c1 cm dk : Nat} {p : Pat} {psks : List Int} :
    Calls Tryz.prog 131 #[.agg #[.int .i64 1, .int .i64 at_, .int .i64 nx, .string (strO p.name), .slice a0 p.pre0.length c0, .slice a1 p.pre1.length c1, .slice am p.msgs.length cm, .int .i64 kS, .int .i64 kE, .int .i64 kRS, .int .i64 kRE, .slice bk psks.length dk, .int .i64 sk, .int .i64 sh, .int .i64 sc, .bool sb, .int .u64 sn], .int .i64 4] w fun e' w' => e' = .returned (.tuple #[.int .i64 (pOwn 1 kS kE 4), .int .i64 (pOther 1 kRS kRE 4)]) ∧ Below w.heap.size w w' := by
 have O0 := Own.start w
 replace O0 : Own w w (List.map Ent.t []) := O0
 refine gent O0 Tryz.func131 ?_
 refine sg2 [.n [], .p 8, .n [], .s 0 [], .d [1], .qs [0, 1], .q 2 (.r 0), .qs [3, 4], .q 5 (.r 0), .qs [6, 7], .z, .p 1, .a (.r 1), .p 1, .a (.r 0), .p 3, .a (.r 1), .p 2, .a (.r 1), .p 2, .a (.r 0), .p 5] O0 fun b1 b2 w3 O4 => ?_
 exact gret [] O4 (⟨rfl, O4.below⟩)
set_option warningAsError false in
set_option maxRecDepth 100000 in
set_option maxHeartbeats 4000000 in
theorem pairE15 {w : World} {at_ nx kS kE kRS kRE sk sh sc sn : Int} {sb : Bool} {a0 a1 am bk : Option Addr} {c0 c1 cm dk : Nat} {p : Pat} {psks : List Int} :
    Calls Tryz.prog 131 #[.agg #[.int .i64 1, .int .i64 at_, .int .i64 nx, .string (strO p.name), .slice a0 p.pre0.length c0, .slice a1 p.pre1.length c1, .slice am p.msgs.length cm, .int .i64 kS, .int .i64 kE, .int .i64 kRS, .int .i64 kRE, .slice bk psks.length dk, .int .i64 sk, .int .i64 sh, .int .i64 sc, .bool sb, .int .u64 sn], .int .i64 5] w fun e' w' => e' = .returned (.tuple #[.int .i64 (pOwn 1 kS kE 5), .int .i64 (pOther 1 kRS kRE 5)]) ∧ Below w.heap.size w w' := by
 have O0 := Own.start w
 replace O0 : Own w w (List.map Ent.t []) := O0
 refine gent O0 Tryz.func131 ?_
 refine sg2 [.n [], .p 8, .n [], .s 0 [], .d [1], .qs [0, 1], .q 2 (.r 0), .qs [3, 4], .q 5 (.r 0), .qs [6, 7], .z, .p 1, .a (.r 1), .p 1, .a (.r 0), .p 2, .a (.r 1), .p 2, .a (.r 0), .p 3, .a (.r 1), .p 5] O0 fun b1 b2 w3 O4 => ?_
 exact gret [] O4 (⟨rfl, O4.below⟩)
set_option warningAsError false in
set_option maxRecDepth 100000 in
set_option maxHeartbeats 4000000 in
theorem pairE16 {w : World} {at_ nx kS kE kRS kRE sk sh sc sn : Int} {sb : Bool} {a0 a1 am bk : Option Addr} {c0 c1 cm dk : Nat} {p : Pat} {psks : List Int} :
    Calls Tryz.prog 131 #[.agg #[.int .i64 1, .int .i64 at_, .int .i64 nx, .string (strO p.name), .slice a0 p.pre0.length c0, .slice a1 p.pre1.length c1, .slice am p.msgs.length cm, .int .i64 kS, .int .i64 kE, .int .i64 kRS, .int .i64 kRE, .slice bk psks.length dk, .int .i64 sk, .int .i64 sh, .int .i64 sc, .bool sb, .int .u64 sn], .int .i64 6] w fun e' w' => e' = .returned (.tuple #[.int .i64 (pOwn 1 kS kE 6), .int .i64 (pOther 1 kRS kRE 6)]) ∧ Below w.heap.size w w' := by
 have O0 := Own.start w
 replace O0 : Own w w (List.map Ent.t []) := O0
 refine gent O0 Tryz.func131 ?_
 refine sg2 [.n [], .p 8, .n [], .s 0 [], .d [1], .qs [0, 1], .q 2 (.r 0), .qs [3, 4], .q 5 (.r 0), .qs [6, 7], .z, .p 1, .a (.r 1), .p 1, .a (.r 0), .p 3, .a (.r 1), .p 2, .a (.r 1), .p 2, .a (.r 0), .p 3, .a (.r 1), .p 5] O0 fun b1 b2 w3 O4 => ?_
 exact gret [] O4 (⟨rfl, O4.below⟩)
end Go.Proofs.YtikimmgileffgaaGreatDoor
end
