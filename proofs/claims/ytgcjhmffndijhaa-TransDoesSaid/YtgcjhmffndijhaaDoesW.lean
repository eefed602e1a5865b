/- TransDoes answers true. -/
import Derived.Test.YtgcjhmffndijhaaAwake13
import Derived.Test.YtgcjhmffndijhaaRef12
import Derived.Test.YtgcjhmffndijhaaSame1
import Derived.Test.YtgcjhmffndijhaaBoth
import Derived.Deep.CutBlock
import Derived.Deep.DeepCutAuto
namespace Go.Proofs.Ytgcjhmffndijhaa
open Go.RowKit

/-- Two blocks are made. -/
theorem own_new2 {w0 w w' : World} {L : List Thing} {b c : Nat} {o o' : Obj} (h : Own w0 w L) (hu : Below w.heap.size w w') (h1 : w'.heap[b]? = some o) (h2 : w'.heap[c]? = some o') (hb : w.heap.size ≤ b) (hc : w.heap.size ≤ c) (hne : b ≠ c) : Own w0 w' (blk b o :: blk c o' :: L) := by
  have h3 := h.new hu (Q := blk c o') (S := fun k => k = c) ⟨h2, fun _ => Iff.rfl⟩ (fun k hk => by omega)
  obtain ⟨hbw, f, f1, f2, f3⟩ := h3
  have hlt : ∀ j k, j < L.length → f (j + 1) k → True := fun _ _ _ _ => trivial
  obtain ⟨hbw0, g, g1, g2, g3⟩ := h
  have hl : ∀ j k, j < L.length → g j k → k < w.heap.size := fun j k hj hf => (L[j]).lt w (g j) (g1 j _ (List.getElem?_eq_getElem hj)) k hf
  refine ⟨hbw, fun j => match j with | 0 => (fun k => k = b) | 1 => (fun k => k = c) | k + 2 => g k, ?_, ?_, ?_⟩
  · intro j R hj
    match j, hj with
    | 0, hj => cases hj; exact ⟨h1, fun _ => Iff.rfl⟩
    | 1, hj => cases hj; exact ⟨h2, fun _ => Iff.rfl⟩
    | k + 2, hj => exact R.keep _ _ _ _ (g1 k R (by simpa using hj)) (Upd.of_below (S := None) hu) (fun _ _ h => h)
  · intro j k x hj hk hfj hfk
    simp only [List.length_cons] at hj hk
    match j, k, hfj, hfk with
    | 0, 0, _, _ => rfl
    | 0, 1, hfj, hfk => exact absurd (hfj.symm.trans hfk) hne
    | 1, 0, hfj, hfk => exact absurd (hfk.symm.trans hfj) hne
    | 1, 1, _, _ => rfl
    | 0, k + 2, hfj, hfk => have := hl k x (by omega) hfk; have : x = b := hfj; omega
    | 1, k + 2, hfj, hfk => have := hl k x (by omega) hfk; have : x = c := hfj; omega
    | j + 2, 0, hfj, hfk => have := hl j x (by omega) hfj; have : x = b := hfk; omega
    | j + 2, 1, hfj, hfk => have := hl j x (by omega) hfj; have : x = c := hfk; omega
    | j + 2, k + 2, hfj, hfk => have := g2 j k x (by omega) (by omega) hfj hfk; omega
  · intro j x hj hf
    simp only [List.length_cons] at hj
    match j, hf with
    | 0, hf => have : x = b := hf; have := hbw0.size; omega
    | 1, hf => have : x = c := hf; have := hbw0.size; omega
    | k + 2, hf => exact g3 k x (by omega) hf
theorem own_from {w0 w w' : World} {L M : List Thing} (h : Own w0 w L) (h' : Own w w' M) : Own w0 w' (M ++ L) := by
  obtain ⟨hb, f, f1, f2, f3⟩ := h
  obtain ⟨hb', g, g1, g2, g3⟩ := h'
  have hl : ∀ j k, j < L.length → f j k → k < w.heap.size := fun j k hj hf => (L[j]).lt w (f j) (f1 j _ (List.getElem?_eq_getElem hj)) k hf
  refine ⟨hb.trans (hb'.mono hb.size), fun j => if j < M.length then g j else f (j - M.length), ?_, ?_, ?_⟩
  · intro j R hj
    show R.P w' (if j < M.length then g j else f (j - M.length))
    by_cases h : j < M.length
    · rw [if_pos h]; rw [List.getElem?_append_left h] at hj; exact g1 j R hj
    · rw [if_neg h]; rw [List.getElem?_append_right (by omega)] at hj
      exact R.keep _ _ _ _ (f1 _ R hj) (Upd.of_below (S := None) hb') (fun _ _ h => h)
  · intro j k b hj hk hfj hfk
    simp only [List.length_append] at hj hk
    by_cases h : j < M.length <;> by_cases h' : k < M.length <;> simp only [h, h', if_true, if_false] at hfj hfk
    · exact g2 j k b h h' hfj hfk
    · have := g3 j b h hfj; have := hl _ b (by omega) hfk; omega
    · have := g3 k b h' hfk; have := hl _ b (by omega) hfj; omega
    · have := f2 _ _ b (by omega) (by omega) hfj hfk; omega
  · intro j b hj hf
    simp only [List.length_append] at hj
    by_cases h : j < M.length <;> simp only [h, if_true, if_false] at hf
    · have := g3 j b h hf; have := hb.size; omega
    · exact f3 _ b (by omega) hf
theorem Own.perm4 {w0 w : World} {P Q R T : Thing} (h : Own w0 w [P, Q, R, T]) : Own w0 w [T, P, Q, R] := by
  obtain ⟨hb, f, h1, h2, h3⟩ := h
  have s : ∀ j, j < 4 → (match j with | 0 => 3 | k + 1 => k) < 4 := fun j hj => by
    match j, hj with
    | 0, _ => show 3 < 4; omega
    | k + 1, hj => show k < 4; omega
  refine ⟨hb, fun j => f (match j with | 0 => 3 | k + 1 => k), ?_, ?_, fun j b hj hf => h3 _ b (s j hj) hf⟩
  · intro j X hj
    match j, hj with
    | 0, hj => exact h1 3 X (by simpa using hj)
    | 1, hj => exact h1 0 X (by simpa using hj)
    | 2, hj => exact h1 1 X (by simpa using hj)
    | 3, hj => exact h1 2 X (by simpa using hj)
    | k + 4, hj => simp at hj
  · intro j k b hj hk hfj hfk
    have := h2 _ _ b (s j hj) (s k hk) hfj hfk
    match j, k, this with
    | 0, 0, _ => rfl
    | 0, k + 1, h => have hk : k + 1 < 4 := hk; have : 3 = k := h; omega
    | j + 1, 0, h => have hj : j + 1 < 4 := hj; have : j = 3 := h; omega
    | j + 1, k + 1, h => have : j = k := h; omega
def rciObj (c : Ci) : Obj := .cells #[.int .i64 c.key, .bool c.has, .int .u64 c.n] 56 (0, 0)
def rciZ : Obj := .cells #[.int .i64 0, .bool false, .int .u64 0] 56 (0, 0)
def opObj3 (k x : Int) : Obj := .cells #[.int .i64 k, .int .i64 x] 52 (0, 0)
def Tr.u64 (t : Tr) : Prop := (0 ≤ t.send.n ∧ t.send.n ≤ 18446744073709551615) ∧ (0 ≤ t.recv.n ∧ t.recv.n ≤ 18446744073709551615)
theorem own_set3 {w0 w : World} {L : List Thing} (i : Nat) {b : Nat} {a0 a1 a2 : Value} {e : TypeId} (h : Own w0 w L) (hi : L[i]? = some (blk b (.cells #[a0, a1, a2] e (0, 0)))) (v0 v1 v2 : Value) :
    Own w0 (((w.setCell ⟨b, 0, none⟩ v0).setCell ⟨b, 1, none⟩ v1).setCell ⟨b, 2, none⟩ v2) (L.set i (blk b (.cells #[v0, v1, v2] e (0, 0)))) :=
  h.store hi ((((Upd.refl (One b) w).setCell (fun _ => rfl) v0).setCell (fun _ => rfl) v1).setCell (fun _ => rfl) v2) (fin_set3 (h.blk hi) v0 v1 v2)
theorem own_set2 {w0 w : World} {L : List Thing} (i : Nat) {b : Nat} {a0 a1 : Value} {e : TypeId} (h : Own w0 w L) (hi : L[i]? = some (blk b (.cells #[a0, a1] e (0, 0)))) (v0 v1 : Value) :
    Own w0 ((w.setCell ⟨b, 0, none⟩ v0).setCell ⟨b, 1, none⟩ v1) (L.set i (blk b (.cells #[v0, v1] e (0, 0)))) :=
  h.store hi (((Upd.refl (One b) w).setCell (fun _ => rfl) v0).setCell (fun _ => rfl) v1) (heap_set2 (h.blk hi))
theorem seal_fact (A : Ar) (c : Ci) (ad p : Int) (h : 0 ≤ c.n ∧ c.n ≤ 18446744073709551615) : ((sealC A c ad p).2.2.2 ≠ 0 → (sealC A c ad p).2.2.1 = 0) ∧ ((sealC A c ad p).2.2.2 = 0 → 0 ≤ (sealC A c ad p).2.1.n ∧ (sealC A c ad p).2.1.n ≤ 18446744073709551615) := by
  unfold sealC
  by_cases h1 : mayC A.l c [ad, p] = 0
  · have hz := mayC_zero h1
    cases hc : c.has with
    | false => simp [h1]; exact h
    | true =>
      have hn := (hz.2.2 hc).2
      by_cases hf : (mk A ⟨7, c.n, c.key, ad, p⟩).2.2 = 0
      · simp [h1, hf, laterC]; omega
      · simp [h1, hf]
  · simp [h1]
theorem open_fact (l : List Nd) (c : Ci) (ad x : Int) (h : 0 ≤ c.n ∧ c.n ≤ 18446744073709551615) : ((openC l c ad x).2.2 ≠ 0 → (openC l c ad x).2.1 = 0) ∧ ((openC l c ad x).2.2 = 0 → 0 ≤ (openC l c ad x).1.n ∧ (openC l c ad x).1.n ≤ 18446744073709551615) := by
  unfold openC
  by_cases h1 : mayC l c [ad, x] = 0
  · have hz := mayC_zero h1
    cases hc : c.has with
    | false => simp [h1]; exact h
    | true =>
      have hn := (hz.2.2 hc).2
      by_cases hf : getNd l x = ⟨7, c.n, c.key, ad, (getNd l x).c⟩
      · rw [if_neg (by simp [h1]), if_neg (by simp), if_pos hf]
        simp [laterC]; omega
      · rw [if_neg (by simp [h1]), if_neg (by simp), if_neg hf]; simp
  · simp [h1]
theorem rek_fact (A : Ar) (c : Ci) (h : 0 ≤ c.n ∧ c.n ≤ 18446744073709551615) : (rekeyC A c).2.2 = 0 → 0 ≤ (rekeyC A c).2.1.n ∧ (rekeyC A c).2.1.n ≤ 18446744073709551615 := by
  unfold rekeyC
  cases hc : c.has with
  | false => simp
  | true =>
    by_cases hf : (mk A ⟨6, 4, c.key, 0, 0⟩).2.2 = 0
    · simp [hf]; exact h
    · simp [hf]
theorem does_seal (A : Ar) (t : Tr) (X : Int) (h : t.u64) : ∃ (A2 : Ar) (d1 : Int) (d2 : Bool) (d3 x2 f2 : Int) (a1 : Int) (a2 : Bool) (a3 a4 : Int) (a5 : Bool) (a6 : Int), sealT A t X = (A2, ⟨⟨a1, a2, a3⟩, ⟨a4, a5, a6⟩⟩, x2, f2) ∧ sealC A t.send 0 X = (A2, ⟨d1, d2, d3⟩, x2, f2) ∧ (f2 = 0 → (⟨⟨a1, a2, a3⟩, ⟨a4, a5, a6⟩⟩ : Tr) = ⟨⟨d1, d2, d3⟩, t.recv⟩ ∧ (⟨⟨a1, a2, a3⟩, ⟨a4, a5, a6⟩⟩ : Tr).u64) ∧ (f2 ≠ 0 → (⟨⟨a1, a2, a3⟩, ⟨a4, a5, a6⟩⟩ : Tr) = Tr.zero) := by
  have hf := seal_fact A t.send 0 X h.1
  obtain ⟨A2, c', x2, f2, hS⟩ : ∃ A2 c' x2 f2, sealC A t.send 0 X = (A2, c', x2, f2) := ⟨_, _, _, _, rfl⟩
  rw [hS] at hf
  dsimp only at hf
  by_cases h0 : f2 = 0
  · refine ⟨A2, c'.key, c'.has, c'.n, x2, f2, c'.key, c'.has, c'.n, t.recv.key, t.recv.has, t.recv.n, ?_, hS, fun _ => ⟨rfl, hf.2 h0, h.2⟩, fun h1 => absurd h0 h1⟩
    simp [sealT, hS, h0]
  · refine ⟨A2, c'.key, c'.has, c'.n, x2, f2, 0, false, 0, 0, false, 0, ?_, hS, fun h1 => absurd h1 h0, fun _ => rfl⟩
    have := hf.1 h0
    simp [sealT, hS, h0, this, Tr.zero, Ci.zero]
theorem does_open (l : List Nd) (t : Tr) (X : Int) (h : t.u64) : ∃ (d1 : Int) (d2 : Bool) (d3 x2 f2 : Int) (a1 : Int) (a2 : Bool) (a3 a4 : Int) (a5 : Bool) (a6 : Int), openT l t X = (⟨⟨a1, a2, a3⟩, ⟨a4, a5, a6⟩⟩, x2, f2) ∧ openC l t.recv 0 X = (⟨d1, d2, d3⟩, x2, f2) ∧ (f2 = 0 → (⟨⟨a1, a2, a3⟩, ⟨a4, a5, a6⟩⟩ : Tr) = ⟨t.send, ⟨d1, d2, d3⟩⟩ ∧ (⟨⟨a1, a2, a3⟩, ⟨a4, a5, a6⟩⟩ : Tr).u64) ∧ (f2 ≠ 0 → (⟨⟨a1, a2, a3⟩, ⟨a4, a5, a6⟩⟩ : Tr) = Tr.zero) := by
  have hf := open_fact l t.recv 0 X h.2
  obtain ⟨c', x2, f2, hS⟩ : ∃ c' x2 f2, openC l t.recv 0 X = (c', x2, f2) := ⟨_, _, _, rfl⟩
  rw [hS] at hf
  dsimp only at hf
  by_cases h0 : f2 = 0
  · refine ⟨c'.key, c'.has, c'.n, x2, f2, t.send.key, t.send.has, t.send.n, c'.key, c'.has, c'.n, ?_, hS, fun _ => ⟨rfl, h.1, hf.2 h0⟩, fun h1 => absurd h0 h1⟩
    simp [openT, hS, h0]
  · refine ⟨c'.key, c'.has, c'.n, x2, f2, 0, false, 0, 0, false, 0, ?_, hS, fun h1 => absurd h1 h0, fun _ => rfl⟩
    have := hf.1 h0
    simp [openT, hS, h0, this, Tr.zero, Ci.zero]
theorem does_rek (A : Ar) (t : Tr) (b : Bool) (h : t.u64) : ∃ (A2 : Ar) (d1 : Int) (d2 : Bool) (d3 f2 : Int) (a1 : Int) (a2 : Bool) (a3 a4 : Int) (a5 : Bool) (a6 : Int), rekeyT A t b = (A2, ⟨⟨a1, a2, a3⟩, ⟨a4, a5, a6⟩⟩, f2) ∧ rekeyC A (if b then t.send else t.recv) = (A2, ⟨d1, d2, d3⟩, f2) ∧ (f2 = 0 → (⟨⟨a1, a2, a3⟩, ⟨a4, a5, a6⟩⟩ : Tr) = (if b then ⟨⟨d1, d2, d3⟩, t.recv⟩ else ⟨t.send, ⟨d1, d2, d3⟩⟩) ∧ (⟨⟨a1, a2, a3⟩, ⟨a4, a5, a6⟩⟩ : Tr).u64) ∧ (f2 ≠ 0 → (⟨⟨a1, a2, a3⟩, ⟨a4, a5, a6⟩⟩ : Tr) = Tr.zero) := by
  cases b with
  | true =>
    have hf := rek_fact A t.send h.1
    obtain ⟨A2, c', f2, hS⟩ : ∃ A2 c' f2, rekeyC A t.send = (A2, c', f2) := ⟨_, _, _, rfl⟩
    rw [hS] at hf
    dsimp only at hf
    by_cases h0 : f2 = 0
    · refine ⟨A2, c'.key, c'.has, c'.n, f2, c'.key, c'.has, c'.n, t.recv.key, t.recv.has, t.recv.n, ?_, hS, fun _ => ⟨rfl, hf h0, h.2⟩, fun h1 => absurd h0 h1⟩
      simp [rekeyT, hS, h0]
    · refine ⟨A2, c'.key, c'.has, c'.n, f2, 0, false, 0, 0, false, 0, ?_, hS, fun h1 => absurd h1 h0, fun _ => rfl⟩
      simp [rekeyT, hS, h0, Tr.zero, Ci.zero]
  | false =>
    have hf := rek_fact A t.recv h.2
    obtain ⟨A2, c', f2, hS⟩ : ∃ A2 c' f2, rekeyC A t.recv = (A2, c', f2) := ⟨_, _, _, rfl⟩
    rw [hS] at hf
    dsimp only at hf
    by_cases h0 : f2 = 0
    · refine ⟨A2, c'.key, c'.has, c'.n, f2, t.send.key, t.send.has, t.send.n, c'.key, c'.has, c'.n, ?_, hS, fun _ => ⟨rfl, h.1, hf h0⟩, fun h1 => absurd h0 h1⟩
      simp [rekeyT, hS, h0]
    · refine ⟨A2, c'.key, c'.has, c'.n, f2, 0, false, 0, 0, false, 0, ?_, hS, fun h1 => absurd h1 h0, fun _ => rfl⟩
      simp [rekeyT, hS, h0, Tr.zero, Ci.zero]
theorem fin_a {wB w7 : World} {k1 k2 n1 n2 : Int} {h1 h2 : Bool} (hx : Below wB.heap.size wB w7) : ∃ b20 b21, Value.pointer (some ⟨w7.heap.size, 0, none⟩) = .pointer (some ⟨b20, 0, none⟩) ∧ Value.pointer (some ⟨w7.heap.size + 1, 0, none⟩) = .pointer (some ⟨b21, 0, none⟩) ∧ Below wB.heap.size wB ((w7.alloc (.cells #[.int .i64 k1, .bool h1, .int .u64 n1] 56)).alloc (.cells #[.int .i64 k2, .bool h2, .int .u64 n2] 56)) ∧ wB.heap.size ≤ b20 ∧ wB.heap.size ≤ b21 ∧ b20 ≠ b21 ∧ ((w7.alloc (.cells #[.int .i64 k1, .bool h1, .int .u64 n1] 56)).alloc (.cells #[.int .i64 k2, .bool h2, .int .u64 n2] 56)).heap[b20]? = some (rciObj ⟨k1, h1, n1⟩) ∧ ((w7.alloc (.cells #[.int .i64 k1, .bool h1, .int .u64 n1] 56)).alloc (.cells #[.int .i64 k2, .bool h2, .int .u64 n2] 56)).heap[b21]? = some (rciObj ⟨k2, h2, n2⟩) :=
  ⟨_, _, rfl, rfl, belowAlloc (belowAlloc hx _) _, hx.size, Nat.le_succ_of_le hx.size, by omega, old_at (new_at rfl), new_at (heap_size_alloc _ _).symm⟩
theorem fin_a' {wB w7 : World} {k1 k2 n1 n2 : Int} {h1 h2 : Bool} (hx : Below wB.heap.size wB w7) : ∃ b20 b21, Value.pointer (some ⟨w7.heap.size + 1, 0, none⟩) = .pointer (some ⟨b20, 0, none⟩) ∧ Value.pointer (some ⟨w7.heap.size, 0, none⟩) = .pointer (some ⟨b21, 0, none⟩) ∧ Below wB.heap.size wB ((w7.alloc (.cells #[.int .i64 k2, .bool h2, .int .u64 n2] 56)).alloc (.cells #[.int .i64 k1, .bool h1, .int .u64 n1] 56)) ∧ wB.heap.size ≤ b20 ∧ wB.heap.size ≤ b21 ∧ b20 ≠ b21 ∧ ((w7.alloc (.cells #[.int .i64 k2, .bool h2, .int .u64 n2] 56)).alloc (.cells #[.int .i64 k1, .bool h1, .int .u64 n1] 56)).heap[b20]? = some (rciObj ⟨k1, h1, n1⟩) ∧ ((w7.alloc (.cells #[.int .i64 k2, .bool h2, .int .u64 n2] 56)).alloc (.cells #[.int .i64 k1, .bool h1, .int .u64 n1] 56)).heap[b21]? = some (rciObj ⟨k2, h2, n2⟩) :=
  ⟨_, _, rfl, rfl, belowAlloc (belowAlloc hx _) _, Nat.le_succ_of_le hx.size, hx.size, by omega, new_at (heap_size_alloc _ _).symm, old_at (new_at rfl)⟩
theorem fin_b {wB w7 : World} {k1 k2 n1 n2 : Int} {h1 h2 : Bool} {b : Nat} {a0 a1 a2 : Value} (hx : Below wB.heap.size wB w7) (hz : w7.heap[b]? = some (.cells #[a0, a1, a2] 56 (0, 0))) (hb : wB.heap.size ≤ b) : ∃ b20 b21, Value.pointer (some ⟨b, 0, none⟩) = .pointer (some ⟨b20, 0, none⟩) ∧ Value.pointer (some ⟨w7.heap.size, 0, none⟩) = .pointer (some ⟨b21, 0, none⟩) ∧ Below wB.heap.size wB ((((w7.setCell ⟨b, 0, none⟩ (.int .i64 k1)).setCell ⟨b, 1, none⟩ (.bool h1)).setCell ⟨b, 2, none⟩ (.int .u64 n1)).alloc (.cells #[.int .i64 k2, .bool h2, .int .u64 n2] 56)) ∧ wB.heap.size ≤ b20 ∧ wB.heap.size ≤ b21 ∧ b20 ≠ b21 ∧ ((((w7.setCell ⟨b, 0, none⟩ (.int .i64 k1)).setCell ⟨b, 1, none⟩ (.bool h1)).setCell ⟨b, 2, none⟩ (.int .u64 n1)).alloc (.cells #[.int .i64 k2, .bool h2, .int .u64 n2] 56)).heap[b20]? = some (rciObj ⟨k1, h1, n1⟩) ∧ ((((w7.setCell ⟨b, 0, none⟩ (.int .i64 k1)).setCell ⟨b, 1, none⟩ (.bool h1)).setCell ⟨b, 2, none⟩ (.int .u64 n1)).alloc (.cells #[.int .i64 k2, .bool h2, .int .u64 n2] 56)).heap[b21]? = some (rciObj ⟨k2, h2, n2⟩) :=
  ⟨_, _, rfl, rfl, belowAlloc (((hx.setCell hb _).setCell hb _).setCell hb _) _, hb, hx.size, by have := lt_of_heap hz; omega, old_at (fin_set3 hz _ _ _), new_at (by simp)⟩
theorem fin_b' {wB w7 : World} {k1 k2 n1 n2 : Int} {h1 h2 : Bool} {b : Nat} {a0 a1 a2 : Value} (hx : Below wB.heap.size wB w7) (hz : w7.heap[b]? = some (.cells #[a0, a1, a2] 56 (0, 0))) (hb : wB.heap.size ≤ b) : ∃ b20 b21, Value.pointer (some ⟨w7.heap.size, 0, none⟩) = .pointer (some ⟨b20, 0, none⟩) ∧ Value.pointer (some ⟨b, 0, none⟩) = .pointer (some ⟨b21, 0, none⟩) ∧ Below wB.heap.size wB ((((w7.setCell ⟨b, 0, none⟩ (.int .i64 k2)).setCell ⟨b, 1, none⟩ (.bool h2)).setCell ⟨b, 2, none⟩ (.int .u64 n2)).alloc (.cells #[.int .i64 k1, .bool h1, .int .u64 n1] 56)) ∧ wB.heap.size ≤ b20 ∧ wB.heap.size ≤ b21 ∧ b20 ≠ b21 ∧ ((((w7.setCell ⟨b, 0, none⟩ (.int .i64 k2)).setCell ⟨b, 1, none⟩ (.bool h2)).setCell ⟨b, 2, none⟩ (.int .u64 n2)).alloc (.cells #[.int .i64 k1, .bool h1, .int .u64 n1] 56)).heap[b20]? = some (rciObj ⟨k1, h1, n1⟩) ∧ ((((w7.setCell ⟨b, 0, none⟩ (.int .i64 k2)).setCell ⟨b, 1, none⟩ (.bool h2)).setCell ⟨b, 2, none⟩ (.int .u64 n2)).alloc (.cells #[.int .i64 k1, .bool h1, .int .u64 n1] 56)).heap[b21]? = some (rciObj ⟨k2, h2, n2⟩) :=
  ⟨_, _, rfl, rfl, belowAlloc (((hx.setCell hb _).setCell hb _).setCell hb _) _, hx.size, hb, by have := lt_of_heap hz; omega, new_at (by simp), old_at (fin_set3 hz _ _ _)⟩
theorem fin_c {wB w7 : World} {k1 k2 n1 n2 : Int} {h1 h2 : Bool} {b c : Nat} {a0 a1 a2 b0 b1 b2 : Value} (hx : Below wB.heap.size wB w7) (hz : w7.heap[b]? = some (.cells #[a0, a1, a2] 56 (0, 0))) (hz' : w7.heap[c]? = some (.cells #[b0, b1, b2] 56 (0, 0))) (hb : wB.heap.size ≤ b) (hc : wB.heap.size ≤ c) (hne : b ≠ c) : ∃ b20 b21, Value.pointer (some ⟨b, 0, none⟩) = .pointer (some ⟨b20, 0, none⟩) ∧ Value.pointer (some ⟨c, 0, none⟩) = .pointer (some ⟨b21, 0, none⟩) ∧ Below wB.heap.size wB ((((((w7.setCell ⟨b, 0, none⟩ (.int .i64 k1)).setCell ⟨b, 1, none⟩ (.bool h1)).setCell ⟨b, 2, none⟩ (.int .u64 n1)).setCell ⟨c, 0, none⟩ (.int .i64 k2)).setCell ⟨c, 1, none⟩ (.bool h2)).setCell ⟨c, 2, none⟩ (.int .u64 n2)) ∧ wB.heap.size ≤ b20 ∧ wB.heap.size ≤ b21 ∧ b20 ≠ b21 ∧ ((((((w7.setCell ⟨b, 0, none⟩ (.int .i64 k1)).setCell ⟨b, 1, none⟩ (.bool h1)).setCell ⟨b, 2, none⟩ (.int .u64 n1)).setCell ⟨c, 0, none⟩ (.int .i64 k2)).setCell ⟨c, 1, none⟩ (.bool h2)).setCell ⟨c, 2, none⟩ (.int .u64 n2)).heap[b20]? = some (rciObj ⟨k1, h1, n1⟩) ∧ ((((((w7.setCell ⟨b, 0, none⟩ (.int .i64 k1)).setCell ⟨b, 1, none⟩ (.bool h1)).setCell ⟨b, 2, none⟩ (.int .u64 n1)).setCell ⟨c, 0, none⟩ (.int .i64 k2)).setCell ⟨c, 1, none⟩ (.bool h2)).setCell ⟨c, 2, none⟩ (.int .u64 n2)).heap[b21]? = some (rciObj ⟨k2, h2, n2⟩) :=
  ⟨_, _, rfl, rfl, (((((hx.setCell hb _).setCell hb _).setCell hb _).setCell hc _).setCell hc _).setCell hc _, hb, hc, hne, heap_other3 (fin_set3 hz _ _ _) (by omega), fin_set3 (heap_other3 hz' (by omega)) _ _ _⟩
def DoesTrue (w : World) (e : Ending) (w' : World) : Prop := e = .returned (.bool true) ∧ Below w.heap.size w w'
set_option maxHeartbeats 6400000 in
set_option maxRecDepth 100000 in
theorem does_walk (limit : Int) (Ax : Option Addr) (cx : Nat) (xs : List Nd) (t : Tr) (Ao : Option Addr) (co : Nat) (os : List (Int × Int)) (w : World) (hx : Holds w Ax (xs.flatMap Nd.cells)) (hmx : xs.length ≤ maxLen) (hu : ∀ x ∈ xs, x.u64) (ht : t.u64) (ho : Holds w Ao (os.flatMap two)) (hmo : os.length ≤ maxLen) :
    Calls Try.prog 7 #[.int .i64 limit, .slice Ax xs.length cx, t.val, .slice Ao os.length co] w (DoesTrue w) := by
  have Hx := Lib.hid hx
  have Ho := Lib.hid ho
  have Hu := Lib.hid hu
  have Ht := Lib.hid ht
  clear hx ho hu ht
  have hmx2 : xs.length ≤ 9223372036854775807 := by unfold maxLen at hmx; omega
  have hmo2 : os.length ≤ 9223372036854775807 := by unfold maxLen at hmo; omega
  have hb00 := (Below.refl w.heap.size w).alloc (Nat.le_refl _) (trObj t)
  unfold Tr.val
  by_cases hbad : 30 < xs.length ∨ 30 < os.length
  · have hd : (decide (30 < xs.length) = true ∧ decide ((30 : Int) < (xs.length : Int)) = true) ∨ ((decide (30 < xs.length) = false ∧ decide ((30 : Int) < (xs.length : Int)) = false) ∧ decide (30 < os.length) = true ∧ decide ((30 : Int) < (os.length : Int)) = true) := by
      by_cases h1 : 30 < xs.length
      · exact .inl ⟨decide_eq_true h1, decide_eq_true (by omega)⟩
      · exact .inr ⟨⟨decide_eq_false h1, decide_eq_false (by omega)⟩, decide_eq_true (by omega), decide_eq_true (by omega)⟩
    clear hbad
    rcases hd with ⟨d1, d2⟩ | ⟨⟨d1, d2⟩, d3, d4⟩
    all_goals
      go_enter Try.func7, Try.ntmps7
      go_wp2_with fail
      refine (awake _).mono ?_
      rintro e w9 ⟨rfl, b9⟩
      go_wp2_with fail
      go_ret
      exact ⟨rfl, below_call hb00 b9⟩
  · have d1 : decide (30 < xs.length) = false := decide_eq_false (by omega)
    have d2 : decide ((30 : Int) < (xs.length : Int)) = false := decide_eq_false (by omega)
    have d3 : decide (30 < os.length) = false := decide_eq_false (by omega)
    have d4 : decide ((30 : Int) < (os.length : Int)) = false := decide_eq_false (by omega)
    have hl : xs.length ≤ 30 := by omega
    have hlo : os.length ≤ 30 := by omega
    clear hbad
    go_enter Try.func7, Try.ntmps7
    go_wp2_with fail
    refine (built_calls (w.alloc (trObj t)) limit Ax cx xs (Hx.out.below hb00) (by omega) Hu.out).mono ?_
    rintro e w1 ⟨r, g, cap, rfl, o1⟩
    have o2 : Own w w1 [refT g cap (bA limit xs).l, arena r (bA limit xs), blk w.heap.size (trObj t)] := own_from ((Own.start w).alloc (trObj t)) o1
    generalize bA limit xs = A at *
    simp only [refV]
    go_wp2_with fail
    have o3 : Own w _ [blk w1.heap.size (refObj A g cap), refT g cap A.l, arena r A, blk w.heap.size (trObj t)] := o2.alloc (refObj A g cap)
    have O3 : Hid (Own w _ [blk w.heap.size (trObj t), blk w1.heap.size (refObj A g cap), refT g cap A.l, arena r A]) := Lib.hid (o3.perm4)
    clear o1 o2 o3 hb00
    generalize w.heap.size = BT at *
    generalize w1.heap.size = BA at *
    go_loopw [42] (fun i wr => ∃ (s : Nat) (A : Ar) (g cap : Nat) (t : Tr), s ≤ os.length ∧ i = .int .i64 s ∧ t.u64 ∧ Own w wr [blk BT (trObj t), blk BA (refObj A g cap), refT g cap A.l, arena r A])
      (fun i _ => (os.length - intOf i).toNat)
    case atStart => exact ⟨0, A, g, cap, t, by omega, rfl, Ht.out, O3.out⟩
    case round =>
      clear O3 Ht
      obtain ⟨s, A, g, cap, t, hsl, rfl, htu, ol⟩ := hrel
      obtain ⟨⟨k1, h1, n1⟩, ⟨k2, h2, n2⟩⟩ := t
      have OL := Lib.hid ol
      have HT := Lib.hid htu
      clear ol htu
      by_cases hlt : s < os.length
      · obtain ⟨o, hos⟩ : ∃ o, os[s]? = some o := ⟨_, List.getElem?_eq_getElem hlt⟩
        obtain ⟨ki, X⟩ := o
        have Hs := Lib.hid (show s < os.length ∧ s < 30 by omega)
        obtain ⟨ab, af, rfl, c0, c1⟩ := two_at (Ho.out.below OL.out.below) hos
        dsimp only at c0 c1
        have ik : (s : Int) < os.length := by omega
        clear hos hlt
        have o3 : Own w _ [blk ((wr.alloc (opObj3 ki X)).alloc (trObj Tr.zero)).heap.size rciZ, blk (wr.alloc (opObj3 ki X)).heap.size (trObj Tr.zero), blk wr.heap.size (opObj3 ki X), blk BT (trObj ⟨⟨k1, h1, n1⟩, ⟨k2, h2, n2⟩⟩), blk BA (refObj A g cap), refT g cap A.l, arena r A] := ((OL.out.alloc (opObj3 ki X)).alloc (trObj Tr.zero)).alloc rciZ
        rw [heap_size_alloc, heap_size_alloc] at o3
        obtain ⟨S, hA⟩ := o3.arena (i := 6) rfl
        have HA := Lib.hid (show Wf A.l ∧ A.l.length ≤ A.limit ∧ A.limit ≤ 65536 by obtain ⟨_, _, _, h, _⟩ := hA; exact ⟨h.wf, h.room⟩)
        clear hA
        go_upto_region 13 with fail
        generalize hBO : wr.heap.size = BO at *
        generalize hwB : ((wr.alloc (.cells #[.int .i64 ki, .int .i64 X] 52)).alloc (.cells #[.int .i64 0, .bool false, .int .u64 0, .int .i64 0, .bool false, .int .u64 0] 34)).alloc (.cells #[.int .i64 0, .bool false, .int .u64 0] 56) = wB at *
        have OB : Hid (Own w wB [blk (BO + 1 + 1) rciZ, blk (BO + 1) (trObj Tr.zero), blk BO (opObj3 ki X), blk BT (trObj ⟨⟨k1, h1, n1⟩, ⟨k2, h2, n2⟩⟩), blk BA (refObj A g cap), refT g cap A.l, arena r A]) := Lib.hid (by rw [← hwB]; exact o3)
        clear o3 c0 c1 ik hwB hBO
        have ht := OB.out.blk (i := 3) rfl
        have lt := lt_of_heap ht
        have ft := fun o => frozen_of_heap (o := o) ht
        obtain ⟨t0, t1, t2, t3, t4, t5⟩ := TrAt.cells ht
        dsimp only at t0 t1 t2 t3 t4 t5
        clear ht
        have hbb : Below wB.heap.size wB wB := Below.refl _ _
        go_cut [20, 21] (fun p q wx => ∃ b20 b21, p = .pointer (some ⟨b20, 0, none⟩) ∧ q = .pointer (some ⟨b21, 0, none⟩) ∧ Below wB.heap.size wB wx ∧ wB.heap.size ≤ b20 ∧ wB.heap.size ≤ b21 ∧ b20 ≠ b21 ∧ wx.heap[b20]? = some (rciObj ⟨k1, h1, n1⟩) ∧ wx.heap[b21]? = some (rciObj ⟨k2, h2, n2⟩))
        case first =>
          have KS := Lib.hid (show ∀ w', Below wB.heap.size wB w' → (Below wB.heap.size wB w' ∧ w'.cell? ⟨BT, 0, none⟩ = some (.int .i64 k1) ∧ w'.cell? ⟨BT, 1, none⟩ = some (.bool h1) ∧ w'.cell? ⟨BT, 2, none⟩ = some (.int .u64 n1) ∧ w'.cell? ⟨BT, 3, none⟩ = some (.int .i64 k2) ∧ w'.cell? ⟨BT, 4, none⟩ = some (.bool h2) ∧ w'.cell? ⟨BT, 5, none⟩ = some (.int .u64 n2)) from fun w' h => by
            obtain ⟨t0, t1, t2, t3, t4, t5⟩ := TrAt.cells ((h.block _ lt).trans (OB.out.blk (i := 3) rfl))
            exact ⟨h, t0, t1, t2, t3, t4, t5⟩)
          clear HA HT Hx Ho Hu ft
          go_region_held3 (fun w' => Below wB.heap.size wB w' ∧ w'.cell? ⟨BT, 0, none⟩ = some (.int .i64 k1) ∧ w'.cell? ⟨BT, 1, none⟩ = some (.bool h1) ∧ w'.cell? ⟨BT, 2, none⟩ = some (.int .u64 n1) ∧ w'.cell? ⟨BT, 3, none⟩ = some (.int .i64 k2) ∧ w'.cell? ⟨BT, 4, none⟩ = some (.bool h2) ∧ w'.cell? ⟨BT, 5, none⟩ = some (.int .u64 n2))
            (first | exact KS.out _ (by repeat (first | with_reducible assumption | with_reducible refine Below.drew ?_ | with_reducible refine belowAlloc ?_ _ | with_reducible refine Below.setCell ?_ (by first | exact Nat.le_refl _ | assumption | exact Nat.le_succ _ | exact Nat.le_succ_of_le (by assumption)) _)))
            (first
              | (go_at_call 19; have hq6 := hx6; refine (of_calls ⟨_, _, _⟩ _).mono ?_; rintro e w7 ⟨rfl, hb7⟩
                 have hx7 : Below wB.heap.size wB w7 := below_call (by repeat (first | with_reducible assumption | with_reducible refine Below.drew ?_ | with_reducible refine belowAlloc ?_ _)) hb7
                 obtain ⟨t0, t1, t2, t3, t4, t5⟩ := TrAt.cells ((hx7.block _ lt).trans (OB.out.blk (i := 3) rfl))
                 dsimp only at t0 t1 t2 t3 t4 t5
                 have l7 := hx7.size
                 have lt7 : BT < w7.heap.size := by omega
                 have ne7 : ¬ BT = w7.heap.size ∧ ¬ w7.heap.size = BT := by omega
                 obtain ⟨ne71, ne72⟩ := ne7
                 have kk7 := fun (k : Nat) (o : Obj) h => (hb7.block k (lt_of_heap (o := o) h)).trans h
                 first | have za := kk7 _ _ za | have za := kk7 _ _ (old_at za) | have za := kk7 _ _ (old_at (old_at za)) | skip
                 first | have zb := kk7 _ _ zb | have zb := kk7 _ _ (old_at zb) | have zb := kk7 _ _ (old_at (old_at zb)) | skip
                 first | have zd := kk7 w6.heap.size _ (new_at rfl) | have zd := kk7 w6.heap.size _ (old_at (new_at rfl)) | skip
                 first | have ze := kk7 (w6.heap.size + 1) _ (new_at (heap_size_alloc _ _).symm) | skip
                 try (have za0 := cell_of_heap (o := 0) za; have za1 := cell_of_heap (o := 1) za; have za2 := cell_of_heap (o := 2) za; have zaf := fun o => frozen_of_heap (o := o) za; have zal := lt_of_heap za; simp only [List.getElem?_toArray, List.getElem?_cons_zero, List.getElem?_cons_succ] at za0 za1 za2)
                 try (have zb0 := cell_of_heap (o := 0) zb; have zb1 := cell_of_heap (o := 1) zb; have zb2 := cell_of_heap (o := 2) zb; have zbf := fun o => frozen_of_heap (o := o) zb; have zbl := lt_of_heap zb; simp only [List.getElem?_toArray, List.getElem?_cons_zero, List.getElem?_cons_succ] at zb0 zb1 zb2)
                 try (have zd0 := cell_of_heap (o := 0) zd; have zd1 := cell_of_heap (o := 1) zd; have zd2 := cell_of_heap (o := 2) zd; have zdf := fun o => frozen_of_heap (o := o) zd; have zdl := lt_of_heap zd; simp only [List.getElem?_toArray, List.getElem?_cons_zero, List.getElem?_cons_succ] at zd0 zd1 zd2)
                 try (have ze0 := cell_of_heap (o := 0) ze; have ze1 := cell_of_heap (o := 1) ze; have ze2 := cell_of_heap (o := 2) ze; have zef := fun o => frozen_of_heap (o := o) ze; have zel := lt_of_heap ze; simp only [List.getElem?_toArray, List.getElem?_cons_zero, List.getElem?_cons_succ] at ze0 ze1 ze2)
                 clear kk7
                 simp only [Ci.val])
              | (go_at_call 19; refine (of_calls ⟨_, _, _⟩ _).mono ?_; rintro e w6 ⟨rfl, hb6⟩
                 have hx6 : Below wB.heap.size wB w6 := below_call (by repeat (first | with_reducible assumption | with_reducible refine Below.drew ?_ | with_reducible refine belowAlloc ?_ _)) hb6
                 obtain ⟨t0, t1, t2, t3, t4, t5⟩ := TrAt.cells ((hx6.block _ lt).trans (OB.out.blk (i := 3) rfl))
                 dsimp only at t0 t1 t2 t3 t4 t5
                 have l6 := hx6.size
                 have lt6 : BT < w6.heap.size := by omega
                 have ne6 : ¬ BT = w6.heap.size ∧ ¬ w6.heap.size = BT := by omega
                 obtain ⟨ne61, ne62⟩ := ne6
                 have kk6 := fun (k : Nat) (o : Obj) h => (hb6.block k (lt_of_heap (o := o) h)).trans h
                 first | have za := kk6 wB.heap.size _ (new_at rfl) | have za := kk6 wB.heap.size _ (old_at (new_at rfl)) | skip
                 first | have zb := kk6 (wB.heap.size + 1) _ (new_at (heap_size_alloc _ _).symm) | skip
                 try (have za0 := cell_of_heap (o := 0) za; have za1 := cell_of_heap (o := 1) za; have za2 := cell_of_heap (o := 2) za; have zaf := fun o => frozen_of_heap (o := o) za; have zal := lt_of_heap za; simp only [List.getElem?_toArray, List.getElem?_cons_zero, List.getElem?_cons_succ] at za0 za1 za2)
                 try (have zb0 := cell_of_heap (o := 0) zb; have zb1 := cell_of_heap (o := 1) zb; have zb2 := cell_of_heap (o := 2) zb; have zbf := fun o => frozen_of_heap (o := o) zb; have zbl := lt_of_heap zb; simp only [List.getElem?_toArray, List.getElem?_cons_zero, List.getElem?_cons_succ] at zb0 zb1 zb2)
                 clear kk6
                 simp only [Ci.val]))
          all_goals go_wp2_with fail
          all_goals go_meet
          all_goals first
            | with_reducible exact fin_a hx7
            | with_reducible exact fin_a' hx7
            | with_reducible exact fin_b hx7 (by with_reducible assumption) (by first | exact Nat.le_refl _ | (with_reducible assumption) | (simp only [Nat.le_add_right]; done) | omega)
            | with_reducible exact fin_b' hx7 (by with_reducible assumption) (by first | exact Nat.le_refl _ | (with_reducible assumption) | (simp only [Nat.le_add_right]; done) | omega)
            | with_reducible exact fin_c hx7 (by with_reducible assumption) (by with_reducible assumption) (by first | exact Nat.le_refl _ | (with_reducible assumption) | (simp only [Nat.le_add_right]; done) | omega) (by first | exact Nat.le_refl _ | (with_reducible assumption) | (simp only [Nat.le_add_right]; done) | omega) (by omega)
        case rest =>
          obtain ⟨b20, b21, rfl, rfl, hbx, h20, h21, hne, hz20, hz21⟩ := hcut
          have OC : Hid (Own w wc [blk b20 (rciObj ⟨k1, h1, n1⟩), blk b21 (rciObj ⟨k2, h2, n2⟩), blk (BO + 1 + 1) (rciObj ⟨0, false, 0⟩), blk (BO + 1) (trObj ⟨⟨0, false, 0⟩, ⟨0, false, 0⟩⟩), blk BO (opObj3 ki X), blk BT (trObj ⟨⟨k1, h1, n1⟩, ⟨k2, h2, n2⟩⟩), blk BA (refObj A g cap), refT g cap A.l, arena r A]) := Lib.hid (own_new2 OB.out hbx hz20 hz21 h20 h21 hne)
          clear lt ft t0 t1 t2 t3 t4 t5
          clear hbx h20 h21 hne hz20 hz21 hbb
          have hop := OC.out.blk (i := 4) rfl
          have p0 := cell_of_heap (o := 0) hop
          have p1 := cell_of_heap (o := 1) hop
          simp only [List.getElem?_toArray, List.getElem?_cons_zero, List.getElem?_cons_succ] at p0 p1
          have lp := lt_of_heap hop
          clear hop
          go_upto_block 2 with fail
          go_cut [16, 17, 18, 19] (fun e f x y wx => ∃ (A2 : Ar) (g2 cap2 : Nat) (snd rcv : Ci) (nt : Tr) (E XX : Int) (c15 : Ci), e = .int .i64 E ∧ f = .int .i64 E ∧ x = .int .i64 XX ∧ y = .int .i64 XX ∧ (E = 0 → nt = ⟨snd, rcv⟩ ∧ nt.u64) ∧ (E ≠ 0 → nt = Tr.zero) ∧ Own w wx [blk b20 (rciObj snd), blk b21 (rciObj rcv), blk (BO + 1 + 1) (rciObj c15), blk (BO + 1) (trObj nt), blk BO (opObj3 ki X), blk BT (trObj ⟨⟨k1, h1, n1⟩, ⟨k2, h2, n2⟩⟩), blk BA (refObj A2 g2 cap2), refT g2 cap2 A2.l, arena r A2])
          case first =>
            clear p0 p1 lp
            by_cases hk0 : ki = 0
            · subst hk0
              obtain ⟨A2, d1, d2, d3, x2, f2, a1, a2, a3, a4, a5, a6, e1, e2, hE, hZ⟩ := does_seal A ⟨⟨k1, h1, n1⟩, ⟨k2, h2, n2⟩⟩ X HT.out
              try dsimp only at e1 e2
              have HE := Lib.hid (And.intro hE hZ)
              clear hE hZ
              have ht := OC.out.blk (i := 5) rfl
              have lt := lt_of_heap ht
              have ft := fun o => frozen_of_heap (o := o) ht
              obtain ⟨t0, t1, t2, t3, t4, t5⟩ := TrAt.cells ht
              dsimp only at t0 t1 t2 t3 t4 t5
              clear ht
              have hv := OC.out.blk (i := 3) rfl
              have lv := lt_of_heap hv
              have fv := fun o => frozen_of_heap (o := o) hv
              obtain ⟨v0, v1, v2, v3, v4, v5⟩ := TrAt.cells hv
              dsimp only at v0 v1 v2 v3 v4 v5
              clear hv
              have hop := OC.out.blk (i := 4) rfl
              have p0 := cell_of_heap (o := 0) hop
              have p1 := cell_of_heap (o := 1) hop
              simp only [List.getElem?_toArray, List.getElem?_cons_zero, List.getElem?_cons_succ] at p0 p1
              have lp := lt_of_heap hop
              clear hop
              go_wp2_with fail
              refine (tSeal_own OC.out 8 rfl ⟨⟨k1, h1, n1⟩, ⟨k2, h2, n2⟩⟩ X HT.out.1.1 HT.out.1.2).mono ?_
              rintro e w8 ⟨rfl, o8⟩
              rw [e1] at o8 ⊢
              have O8 : Hid (Own w w8 [blk b20 (rciObj ⟨k1, h1, n1⟩), blk b21 (rciObj ⟨k2, h2, n2⟩), blk (BO + 1 + 1) (rciObj ⟨0, false, 0⟩), blk (BO + 1) (trObj ⟨⟨0, false, 0⟩, ⟨0, false, 0⟩⟩), blk BO (opObj3 0 X), blk BT (trObj ⟨⟨k1, h1, n1⟩, ⟨k2, h2, n2⟩⟩), blk BA (refObj A g cap), refT g cap A.l, arena r A2]) := Lib.hid o8
              clear o8 e1 p0 p1 lp
              clear lt ft t0 t1 t2 t3 t4 t5 lv fv v0 v1 v2 v3 v4 v5
              simp only [Tr.val]
              have hv := O8.out.blk (i := 3) rfl
              have lv := lt_of_heap hv
              have fv := fun o => frozen_of_heap (o := o) hv
              obtain ⟨v0, v1, v2, v3, v4, v5⟩ := TrAt.cells hv
              dsimp only at v0 v1 v2 v3 v4 v5
              clear hv
              have hop := O8.out.blk (i := 4) rfl
              have p0 := cell_of_heap (o := 0) hop
              have p1 := cell_of_heap (o := 1) hop
              simp only [List.getElem?_toArray, List.getElem?_cons_zero, List.getElem?_cons_succ] at p0 p1
              have lp := lt_of_heap hop
              clear hop
              have hb := O8.out.blk (i := 0) rfl
              have lb := lt_of_heap hb
              have fb := fun o => frozen_of_heap (o := o) hb
              have b0 := cell_of_heap (o := 0) hb
              have b1 := cell_of_heap (o := 1) hb
              have b2 := cell_of_heap (o := 2) hb
              simp only [List.getElem?_toArray, List.getElem?_cons_zero, List.getElem?_cons_succ] at b0 b1 b2
              clear hb
              have hz := O8.out.blk (i := 2) rfl
              have lz := lt_of_heap hz
              have fz := fun o => frozen_of_heap (o := o) hz
              have z0 := cell_of_heap (o := 0) hz
              have z1 := cell_of_heap (o := 1) hz
              have z2 := cell_of_heap (o := 2) hz
              simp only [List.getElem?_toArray, List.getElem?_cons_zero, List.getElem?_cons_succ] at z0 z1 z2
              clear hz
              have hq := O8.out.blk (i := 6) rfl
              have lq := lt_of_heap hq
              have fq := fun o => frozen_of_heap (o := o) hq
              have q0 := cell_of_heap (o := 0) hq
              have q1 := cell_of_heap (o := 1) hq
              simp only [List.getElem?_toArray, List.getElem?_cons_zero, List.getElem?_cons_succ] at q0 q1
              clear hq
              have O9 : Hid (Own w _ [blk b20 (rciObj ⟨k1, h1, n1⟩), blk b21 (rciObj ⟨k2, h2, n2⟩), blk (BO + 1 + 1) (rciObj ⟨0, false, 0⟩), blk (BO + 1) (trObj ⟨⟨a1, a2, a3⟩, ⟨a4, a5, a6⟩⟩), blk BO (opObj3 0 X), blk BT (trObj ⟨⟨k1, h1, n1⟩, ⟨k2, h2, n2⟩⟩), blk BA (refObj A g cap), refT g cap A.l, arena r A2]) := Lib.hid (Own.set6 3 O8.out rfl (.int .i64 a1) (.bool a2) (.int .u64 a3) (.int .i64 a4) (.bool a5) (.int .u64 a6))
              have n83 := O8.out.ne (i := 3) (j := 4) rfl rfl (by decide)
              have n83' := Ne.symm n83
              have m01 := O8.out.ne (i := 0) (j := 1) rfl rfl (by decide)
              have m10 := Ne.symm m01
              have m02 := O8.out.ne (i := 0) (j := 2) rfl rfl (by decide)
              have m20 := Ne.symm m02
              have m03 := O8.out.ne (i := 0) (j := 3) rfl rfl (by decide)
              have m30 := Ne.symm m03
              have m06 := O8.out.ne (i := 0) (j := 6) rfl rfl (by decide)
              have m60 := Ne.symm m06
              have m12 := O8.out.ne (i := 1) (j := 2) rfl rfl (by decide)
              have m21 := Ne.symm m12
              have m13 := O8.out.ne (i := 1) (j := 3) rfl rfl (by decide)
              have m31 := Ne.symm m13
              have m16 := O8.out.ne (i := 1) (j := 6) rfl rfl (by decide)
              have m61 := Ne.symm m16
              have m23 := O8.out.ne (i := 2) (j := 3) rfl rfl (by decide)
              have m32 := Ne.symm m23
              have m26 := O8.out.ne (i := 2) (j := 6) rfl rfl (by decide)
              have m62 := Ne.symm m26
              have m36 := O8.out.ne (i := 3) (j := 6) rfl rfl (by decide)
              have m63 := Ne.symm m36
              have m24 := O8.out.ne (i := 2) (j := 4) rfl rfl (by decide)
              have m42 := Ne.symm m24
              have m64 := O8.out.ne (i := 6) (j := 4) rfl rfl (by decide)
              have m46 := Ne.symm m64
              go_wp2_with fail
              refine (rSeal_calls (A := A) (g := g) (cap := cap) (c := ⟨k1, h1, n1⟩) (O9.out.ref (i := 7) rfl) HA.out.1 HA.out.2 HT.out.1.1 HT.out.1.2 0 X).mono ?_
              rintro e w9 ⟨g2, cap2, rfl, hr9, hb9, hg9⟩
              rw [e2] at hr9 ⊢
              have O10 : Hid (Own w w9 [blk b20 (rciObj ⟨k1, h1, n1⟩), blk b21 (rciObj ⟨k2, h2, n2⟩), blk (BO + 1 + 1) (rciObj ⟨0, false, 0⟩), blk (BO + 1) (trObj ⟨⟨a1, a2, a3⟩, ⟨a4, a5, a6⟩⟩), blk BO (opObj3 0 X), blk BT (trObj ⟨⟨k1, h1, n1⟩, ⟨k2, h2, n2⟩⟩), blk BA (refObj A g cap), refT g2 cap2 A2.l, arena r A2]) := Lib.hid (O9.out.newRef (i := 7) rfl hb9 hr9 hg9)
              clear hr9 hg9
              clear hb9 e2 p0 p1 lp
              clear lv fv v0 v1 v2 v3 v4 v5
              clear lb fb b0 b1 b2 lz fz z0 z1 z2
              clear lq fq q0 q1
              simp only [refV, Ci.val]
              have hb := O10.out.blk (i := 0) rfl
              have lb := lt_of_heap hb
              have fb := fun o => frozen_of_heap (o := o) hb
              have b0 := cell_of_heap (o := 0) hb
              have b1 := cell_of_heap (o := 1) hb
              have b2 := cell_of_heap (o := 2) hb
              simp only [List.getElem?_toArray, List.getElem?_cons_zero, List.getElem?_cons_succ] at b0 b1 b2
              clear hb
              have hz := O10.out.blk (i := 2) rfl
              have lz := lt_of_heap hz
              have fz := fun o => frozen_of_heap (o := o) hz
              have z0 := cell_of_heap (o := 0) hz
              have z1 := cell_of_heap (o := 1) hz
              have z2 := cell_of_heap (o := 2) hz
              simp only [List.getElem?_toArray, List.getElem?_cons_zero, List.getElem?_cons_succ] at z0 z1 z2
              clear hz
              have hq := O10.out.blk (i := 6) rfl
              have lq := lt_of_heap hq
              have fq := fun o => frozen_of_heap (o := o) hq
              have q0 := cell_of_heap (o := 0) hq
              have q1 := cell_of_heap (o := 1) hq
              simp only [List.getElem?_toArray, List.getElem?_cons_zero, List.getElem?_cons_succ] at q0 q1
              clear hq
              have O11 : Hid (Own w _ [blk b20 (rciObj ⟨d1, d2, d3⟩), blk b21 (rciObj ⟨k2, h2, n2⟩), blk (BO + 1 + 1) (rciObj ⟨d1, d2, d3⟩), blk (BO + 1) (trObj ⟨⟨a1, a2, a3⟩, ⟨a4, a5, a6⟩⟩), blk BO (opObj3 0 X), blk BT (trObj ⟨⟨k1, h1, n1⟩, ⟨k2, h2, n2⟩⟩), blk BA (refObj A2 g2 cap2), refT g2 cap2 A2.l, arena r A2]) := Lib.hid (own_set3 0 (own_set3 2 (own_set2 6 O10.out rfl (.int .i64 A2.limit) (.slice (some ⟨g2, 0, none⟩) A2.l.length cap2)) rfl (.int .i64 d1) (.bool d2) (.int .u64 d3)) rfl (.int .i64 d1) (.bool d2) (.int .u64 d3))
              go_wp2_with fail
              go_meet
              exact ⟨A2, g2, cap2, ⟨d1, d2, d3⟩, ⟨k2, h2, n2⟩, ⟨⟨a1, a2, a3⟩, ⟨a4, a5, a6⟩⟩, f2, x2, ⟨d1, d2, d3⟩, rfl, rfl, rfl, rfl, HE.out.1, HE.out.2, O11.out⟩
            · have he0 : (ki == 0) = false := by simpa using hk0
              by_cases hk1 : ki = 1
              · subst hk1
                obtain ⟨d1, d2, d3, x2, f2, a1, a2, a3, a4, a5, a6, e1, e2, hE, hZ⟩ := does_open A.l ⟨⟨k1, h1, n1⟩, ⟨k2, h2, n2⟩⟩ X HT.out
                try dsimp only at e1 e2
                have HE := Lib.hid (And.intro hE hZ)
                clear hE hZ
                have ht := OC.out.blk (i := 5) rfl
                have lt := lt_of_heap ht
                have ft := fun o => frozen_of_heap (o := o) ht
                obtain ⟨t0, t1, t2, t3, t4, t5⟩ := TrAt.cells ht
                dsimp only at t0 t1 t2 t3 t4 t5
                clear ht
                have hv := OC.out.blk (i := 3) rfl
                have lv := lt_of_heap hv
                have fv := fun o => frozen_of_heap (o := o) hv
                obtain ⟨v0, v1, v2, v3, v4, v5⟩ := TrAt.cells hv
                dsimp only at v0 v1 v2 v3 v4 v5
                clear hv
                have hop := OC.out.blk (i := 4) rfl
                have p0 := cell_of_heap (o := 0) hop
                have p1 := cell_of_heap (o := 1) hop
                simp only [List.getElem?_toArray, List.getElem?_cons_zero, List.getElem?_cons_succ] at p0 p1
                have lp := lt_of_heap hop
                clear hop
                go_wp2_with fail
                refine (tOpen_own OC.out 8 rfl ⟨⟨k1, h1, n1⟩, ⟨k2, h2, n2⟩⟩ X HT.out.2.1 HT.out.2.2).mono ?_
                rintro e w8 ⟨rfl, o8⟩
                rw [e1]
                have O8 : Hid (Own w w8 [blk b20 (rciObj ⟨k1, h1, n1⟩), blk b21 (rciObj ⟨k2, h2, n2⟩), blk (BO + 1 + 1) (rciObj ⟨0, false, 0⟩), blk (BO + 1) (trObj ⟨⟨0, false, 0⟩, ⟨0, false, 0⟩⟩), blk BO (opObj3 1 X), blk BT (trObj ⟨⟨k1, h1, n1⟩, ⟨k2, h2, n2⟩⟩), blk BA (refObj A g cap), refT g cap A.l, arena r A]) := Lib.hid o8
                clear o8 e1 p0 p1 lp
                clear lt ft t0 t1 t2 t3 t4 t5 lv fv v0 v1 v2 v3 v4 v5
                simp only [Tr.val]
                have hv := O8.out.blk (i := 3) rfl
                have lv := lt_of_heap hv
                have fv := fun o => frozen_of_heap (o := o) hv
                obtain ⟨v0, v1, v2, v3, v4, v5⟩ := TrAt.cells hv
                dsimp only at v0 v1 v2 v3 v4 v5
                clear hv
                have hop := O8.out.blk (i := 4) rfl
                have p0 := cell_of_heap (o := 0) hop
                have p1 := cell_of_heap (o := 1) hop
                simp only [List.getElem?_toArray, List.getElem?_cons_zero, List.getElem?_cons_succ] at p0 p1
                have lp := lt_of_heap hop
                clear hop
                have hb := O8.out.blk (i := 1) rfl
                have lb := lt_of_heap hb
                have fb := fun o => frozen_of_heap (o := o) hb
                have b0 := cell_of_heap (o := 0) hb
                have b1 := cell_of_heap (o := 1) hb
                have b2 := cell_of_heap (o := 2) hb
                simp only [List.getElem?_toArray, List.getElem?_cons_zero, List.getElem?_cons_succ] at b0 b1 b2
                clear hb
                have hz := O8.out.blk (i := 2) rfl
                have lz := lt_of_heap hz
                have fz := fun o => frozen_of_heap (o := o) hz
                have z0 := cell_of_heap (o := 0) hz
                have z1 := cell_of_heap (o := 1) hz
                have z2 := cell_of_heap (o := 2) hz
                simp only [List.getElem?_toArray, List.getElem?_cons_zero, List.getElem?_cons_succ] at z0 z1 z2
                clear hz
                have hq := O8.out.blk (i := 6) rfl
                have lq := lt_of_heap hq
                have fq := fun o => frozen_of_heap (o := o) hq
                have q0 := cell_of_heap (o := 0) hq
                have q1 := cell_of_heap (o := 1) hq
                simp only [List.getElem?_toArray, List.getElem?_cons_zero, List.getElem?_cons_succ] at q0 q1
                clear hq
                have O9 : Hid (Own w _ [blk b20 (rciObj ⟨k1, h1, n1⟩), blk b21 (rciObj ⟨k2, h2, n2⟩), blk (BO + 1 + 1) (rciObj ⟨0, false, 0⟩), blk (BO + 1) (trObj ⟨⟨a1, a2, a3⟩, ⟨a4, a5, a6⟩⟩), blk BO (opObj3 1 X), blk BT (trObj ⟨⟨k1, h1, n1⟩, ⟨k2, h2, n2⟩⟩), blk BA (refObj A g cap), refT g cap A.l, arena r A]) := Lib.hid (Own.set6 3 O8.out rfl (.int .i64 a1) (.bool a2) (.int .u64 a3) (.int .i64 a4) (.bool a5) (.int .u64 a6))
                have n83 := O8.out.ne (i := 3) (j := 4) rfl rfl (by decide)
                have n83' := Ne.symm n83
                have m01 := O8.out.ne (i := 0) (j := 1) rfl rfl (by decide)
                have m10 := Ne.symm m01
                have m02 := O8.out.ne (i := 0) (j := 2) rfl rfl (by decide)
                have m20 := Ne.symm m02
                have m03 := O8.out.ne (i := 0) (j := 3) rfl rfl (by decide)
                have m30 := Ne.symm m03
                have m06 := O8.out.ne (i := 0) (j := 6) rfl rfl (by decide)
                have m60 := Ne.symm m06
                have m12 := O8.out.ne (i := 1) (j := 2) rfl rfl (by decide)
                have m21 := Ne.symm m12
                have m13 := O8.out.ne (i := 1) (j := 3) rfl rfl (by decide)
                have m31 := Ne.symm m13
                have m16 := O8.out.ne (i := 1) (j := 6) rfl rfl (by decide)
                have m61 := Ne.symm m16
                have m23 := O8.out.ne (i := 2) (j := 3) rfl rfl (by decide)
                have m32 := Ne.symm m23
                have m26 := O8.out.ne (i := 2) (j := 6) rfl rfl (by decide)
                have m62 := Ne.symm m26
                have m36 := O8.out.ne (i := 3) (j := 6) rfl rfl (by decide)
                have m63 := Ne.symm m36
                have m24 := O8.out.ne (i := 2) (j := 4) rfl rfl (by decide)
                have m42 := Ne.symm m24
                have m64 := O8.out.ne (i := 6) (j := 4) rfl rfl (by decide)
                have m46 := Ne.symm m64
                go_wp2_with fail
                refine (rOpen_calls (A := A) (g := g) (cap := cap) (c := ⟨k2, h2, n2⟩) (O9.out.ref (i := 7) rfl) HA.out.2 HT.out.2.1 HT.out.2.2 0 X).mono ?_
                rintro e w9 ⟨rfl, hb9⟩
                rw [e2]
                have O10 : Hid (Own w w9 [blk b20 (rciObj ⟨k1, h1, n1⟩), blk b21 (rciObj ⟨k2, h2, n2⟩), blk (BO + 1 + 1) (rciObj ⟨0, false, 0⟩), blk (BO + 1) (trObj ⟨⟨a1, a2, a3⟩, ⟨a4, a5, a6⟩⟩), blk BO (opObj3 1 X), blk BT (trObj ⟨⟨k1, h1, n1⟩, ⟨k2, h2, n2⟩⟩), blk BA (refObj A g cap), refT g cap A.l, arena r A]) := Lib.hid (O9.out.call hb9)
                clear hb9 e2 p0 p1 lp
                clear lv fv v0 v1 v2 v3 v4 v5
                clear lb fb b0 b1 b2 lz fz z0 z1 z2
                clear lq fq q0 q1
                simp only [refV, Ci.val]
                have hb := O10.out.blk (i := 1) rfl
                have lb := lt_of_heap hb
                have fb := fun o => frozen_of_heap (o := o) hb
                have b0 := cell_of_heap (o := 0) hb
                have b1 := cell_of_heap (o := 1) hb
                have b2 := cell_of_heap (o := 2) hb
                simp only [List.getElem?_toArray, List.getElem?_cons_zero, List.getElem?_cons_succ] at b0 b1 b2
                clear hb
                have hz := O10.out.blk (i := 2) rfl
                have lz := lt_of_heap hz
                have fz := fun o => frozen_of_heap (o := o) hz
                have z0 := cell_of_heap (o := 0) hz
                have z1 := cell_of_heap (o := 1) hz
                have z2 := cell_of_heap (o := 2) hz
                simp only [List.getElem?_toArray, List.getElem?_cons_zero, List.getElem?_cons_succ] at z0 z1 z2
                clear hz
                have hq := O10.out.blk (i := 6) rfl
                have lq := lt_of_heap hq
                have fq := fun o => frozen_of_heap (o := o) hq
                have q0 := cell_of_heap (o := 0) hq
                have q1 := cell_of_heap (o := 1) hq
                simp only [List.getElem?_toArray, List.getElem?_cons_zero, List.getElem?_cons_succ] at q0 q1
                clear hq
                have O11 : Hid (Own w _ [blk b20 (rciObj ⟨k1, h1, n1⟩), blk b21 (rciObj ⟨d1, d2, d3⟩), blk (BO + 1 + 1) (rciObj ⟨d1, d2, d3⟩), blk (BO + 1) (trObj ⟨⟨a1, a2, a3⟩, ⟨a4, a5, a6⟩⟩), blk BO (opObj3 1 X), blk BT (trObj ⟨⟨k1, h1, n1⟩, ⟨k2, h2, n2⟩⟩), blk BA (refObj A g cap), refT g cap A.l, arena r A]) := Lib.hid (own_set3 1 (own_set3 2 O10.out rfl (.int .i64 d1) (.bool d2) (.int .u64 d3)) rfl (.int .i64 d1) (.bool d2) (.int .u64 d3))
                go_wp2_with fail
                go_meet
                exact ⟨A, g, cap, ⟨k1, h1, n1⟩, ⟨d1, d2, d3⟩, ⟨⟨a1, a2, a3⟩, ⟨a4, a5, a6⟩⟩, f2, x2, ⟨d1, d2, d3⟩, rfl, rfl, rfl, rfl, HE.out.1, HE.out.2, O11.out⟩
              · have he1 : (ki == 1) = false := by simpa using hk1
                by_cases hk2 : ki = 2
                · subst hk2
                  obtain ⟨A2, d1, d2, d3, f2, a1, a2, a3, a4, a5, a6, e1, e2, hE, hZ⟩ := does_rek A ⟨⟨k1, h1, n1⟩, ⟨k2, h2, n2⟩⟩ true HT.out
                  simp only [if_true, Bool.false_eq_true, if_false] at e2 hE
                  try dsimp only at e1 e2
                  have HE := Lib.hid (And.intro hE hZ)
                  clear hE hZ
                  have ht := OC.out.blk (i := 5) rfl
                  have lt := lt_of_heap ht
                  have ft := fun o => frozen_of_heap (o := o) ht
                  obtain ⟨t0, t1, t2, t3, t4, t5⟩ := TrAt.cells ht
                  dsimp only at t0 t1 t2 t3 t4 t5
                  clear ht
                  have hv := OC.out.blk (i := 3) rfl
                  have lv := lt_of_heap hv
                  have fv := fun o => frozen_of_heap (o := o) hv
                  obtain ⟨v0, v1, v2, v3, v4, v5⟩ := TrAt.cells hv
                  dsimp only at v0 v1 v2 v3 v4 v5
                  clear hv
                  have hop := OC.out.blk (i := 4) rfl
                  have p0 := cell_of_heap (o := 0) hop
                  have p1 := cell_of_heap (o := 1) hop
                  simp only [List.getElem?_toArray, List.getElem?_cons_zero, List.getElem?_cons_succ] at p0 p1
                  have lp := lt_of_heap hop
                  clear hop
                  go_wp2_with fail
                  refine (tRekey_own OC.out 8 rfl ⟨⟨k1, h1, n1⟩, ⟨k2, h2, n2⟩⟩ true).mono ?_
                  rintro e w8 ⟨rfl, o8⟩
                  rw [e1] at o8 ⊢
                  have O8 : Hid (Own w w8 [blk b20 (rciObj ⟨k1, h1, n1⟩), blk b21 (rciObj ⟨k2, h2, n2⟩), blk (BO + 1 + 1) (rciObj ⟨0, false, 0⟩), blk (BO + 1) (trObj ⟨⟨0, false, 0⟩, ⟨0, false, 0⟩⟩), blk BO (opObj3 2 X), blk BT (trObj ⟨⟨k1, h1, n1⟩, ⟨k2, h2, n2⟩⟩), blk BA (refObj A g cap), refT g cap A.l, arena r A2]) := Lib.hid o8
                  clear o8 e1 p0 p1 lp
                  clear lt ft t0 t1 t2 t3 t4 t5 lv fv v0 v1 v2 v3 v4 v5
                  simp only [Tr.val]
                  have hv := O8.out.blk (i := 3) rfl
                  have lv := lt_of_heap hv
                  have fv := fun o => frozen_of_heap (o := o) hv
                  obtain ⟨v0, v1, v2, v3, v4, v5⟩ := TrAt.cells hv
                  dsimp only at v0 v1 v2 v3 v4 v5
                  clear hv
                  have hop := O8.out.blk (i := 4) rfl
                  have p0 := cell_of_heap (o := 0) hop
                  have p1 := cell_of_heap (o := 1) hop
                  simp only [List.getElem?_toArray, List.getElem?_cons_zero, List.getElem?_cons_succ] at p0 p1
                  have lp := lt_of_heap hop
                  clear hop
                  have hb := O8.out.blk (i := 0) rfl
                  have lb := lt_of_heap hb
                  have fb := fun o => frozen_of_heap (o := o) hb
                  have b0 := cell_of_heap (o := 0) hb
                  have b1 := cell_of_heap (o := 1) hb
                  have b2 := cell_of_heap (o := 2) hb
                  simp only [List.getElem?_toArray, List.getElem?_cons_zero, List.getElem?_cons_succ] at b0 b1 b2
                  clear hb
                  have hz := O8.out.blk (i := 2) rfl
                  have lz := lt_of_heap hz
                  have fz := fun o => frozen_of_heap (o := o) hz
                  have z0 := cell_of_heap (o := 0) hz
                  have z1 := cell_of_heap (o := 1) hz
                  have z2 := cell_of_heap (o := 2) hz
                  simp only [List.getElem?_toArray, List.getElem?_cons_zero, List.getElem?_cons_succ] at z0 z1 z2
                  clear hz
                  have hq := O8.out.blk (i := 6) rfl
                  have lq := lt_of_heap hq
                  have fq := fun o => frozen_of_heap (o := o) hq
                  have q0 := cell_of_heap (o := 0) hq
                  have q1 := cell_of_heap (o := 1) hq
                  simp only [List.getElem?_toArray, List.getElem?_cons_zero, List.getElem?_cons_succ] at q0 q1
                  clear hq
                  have O9 : Hid (Own w _ [blk b20 (rciObj ⟨k1, h1, n1⟩), blk b21 (rciObj ⟨k2, h2, n2⟩), blk (BO + 1 + 1) (rciObj ⟨0, false, 0⟩), blk (BO + 1) (trObj ⟨⟨a1, a2, a3⟩, ⟨a4, a5, a6⟩⟩), blk BO (opObj3 2 X), blk BT (trObj ⟨⟨k1, h1, n1⟩, ⟨k2, h2, n2⟩⟩), blk BA (refObj A g cap), refT g cap A.l, arena r A2]) := Lib.hid (Own.set6 3 O8.out rfl (.int .i64 a1) (.bool a2) (.int .u64 a3) (.int .i64 a4) (.bool a5) (.int .u64 a6))
                  have n83 := O8.out.ne (i := 3) (j := 4) rfl rfl (by decide)
                  have n83' := Ne.symm n83
                  have m01 := O8.out.ne (i := 0) (j := 1) rfl rfl (by decide)
                  have m10 := Ne.symm m01
                  have m02 := O8.out.ne (i := 0) (j := 2) rfl rfl (by decide)
                  have m20 := Ne.symm m02
                  have m03 := O8.out.ne (i := 0) (j := 3) rfl rfl (by decide)
                  have m30 := Ne.symm m03
                  have m06 := O8.out.ne (i := 0) (j := 6) rfl rfl (by decide)
                  have m60 := Ne.symm m06
                  have m12 := O8.out.ne (i := 1) (j := 2) rfl rfl (by decide)
                  have m21 := Ne.symm m12
                  have m13 := O8.out.ne (i := 1) (j := 3) rfl rfl (by decide)
                  have m31 := Ne.symm m13
                  have m16 := O8.out.ne (i := 1) (j := 6) rfl rfl (by decide)
                  have m61 := Ne.symm m16
                  have m23 := O8.out.ne (i := 2) (j := 3) rfl rfl (by decide)
                  have m32 := Ne.symm m23
                  have m26 := O8.out.ne (i := 2) (j := 6) rfl rfl (by decide)
                  have m62 := Ne.symm m26
                  have m36 := O8.out.ne (i := 3) (j := 6) rfl rfl (by decide)
                  have m63 := Ne.symm m36
                  have m24 := O8.out.ne (i := 2) (j := 4) rfl rfl (by decide)
                  have m42 := Ne.symm m24
                  have m64 := O8.out.ne (i := 6) (j := 4) rfl rfl (by decide)
                  have m46 := Ne.symm m64
                  go_wp2_with fail
                  refine (rRekey_calls (A := A) (g := g) (cap := cap) (c := ⟨k1, h1, n1⟩) (O9.out.ref (i := 7) rfl) HA.out.1 HA.out.2).mono ?_
                  rintro e w9 ⟨g2, cap2, rfl, hr9, hb9, hg9⟩
                  rw [e2] at hr9 ⊢
                  have O10 : Hid (Own w w9 [blk b20 (rciObj ⟨k1, h1, n1⟩), blk b21 (rciObj ⟨k2, h2, n2⟩), blk (BO + 1 + 1) (rciObj ⟨0, false, 0⟩), blk (BO + 1) (trObj ⟨⟨a1, a2, a3⟩, ⟨a4, a5, a6⟩⟩), blk BO (opObj3 2 X), blk BT (trObj ⟨⟨k1, h1, n1⟩, ⟨k2, h2, n2⟩⟩), blk BA (refObj A g cap), refT g2 cap2 A2.l, arena r A2]) := Lib.hid (O9.out.newRef (i := 7) rfl hb9 hr9 hg9)
                  clear hr9 hg9
                  clear hb9 e2 p0 p1 lp
                  clear lv fv v0 v1 v2 v3 v4 v5
                  clear lb fb b0 b1 b2 lz fz z0 z1 z2
                  clear lq fq q0 q1
                  simp only [refV, Ci.val]
                  have hb := O10.out.blk (i := 0) rfl
                  have lb := lt_of_heap hb
                  have fb := fun o => frozen_of_heap (o := o) hb
                  have b0 := cell_of_heap (o := 0) hb
                  have b1 := cell_of_heap (o := 1) hb
                  have b2 := cell_of_heap (o := 2) hb
                  simp only [List.getElem?_toArray, List.getElem?_cons_zero, List.getElem?_cons_succ] at b0 b1 b2
                  clear hb
                  have hz := O10.out.blk (i := 2) rfl
                  have lz := lt_of_heap hz
                  have fz := fun o => frozen_of_heap (o := o) hz
                  have z0 := cell_of_heap (o := 0) hz
                  have z1 := cell_of_heap (o := 1) hz
                  have z2 := cell_of_heap (o := 2) hz
                  simp only [List.getElem?_toArray, List.getElem?_cons_zero, List.getElem?_cons_succ] at z0 z1 z2
                  clear hz
                  have hq := O10.out.blk (i := 6) rfl
                  have lq := lt_of_heap hq
                  have fq := fun o => frozen_of_heap (o := o) hq
                  have q0 := cell_of_heap (o := 0) hq
                  have q1 := cell_of_heap (o := 1) hq
                  simp only [List.getElem?_toArray, List.getElem?_cons_zero, List.getElem?_cons_succ] at q0 q1
                  clear hq
                  have O11 : Hid (Own w _ [blk b20 (rciObj ⟨d1, d2, d3⟩), blk b21 (rciObj ⟨k2, h2, n2⟩), blk (BO + 1 + 1) (rciObj ⟨d1, d2, d3⟩), blk (BO + 1) (trObj ⟨⟨a1, a2, a3⟩, ⟨a4, a5, a6⟩⟩), blk BO (opObj3 2 X), blk BT (trObj ⟨⟨k1, h1, n1⟩, ⟨k2, h2, n2⟩⟩), blk BA (refObj A2 g2 cap2), refT g2 cap2 A2.l, arena r A2]) := Lib.hid (own_set3 0 (own_set3 2 (own_set2 6 O10.out rfl (.int .i64 A2.limit) (.slice (some ⟨g2, 0, none⟩) A2.l.length cap2)) rfl (.int .i64 d1) (.bool d2) (.int .u64 d3)) rfl (.int .i64 d1) (.bool d2) (.int .u64 d3))
                  go_wp2_with fail
                  go_meet
                  exact ⟨A2, g2, cap2, ⟨d1, d2, d3⟩, ⟨k2, h2, n2⟩, ⟨⟨a1, a2, a3⟩, ⟨a4, a5, a6⟩⟩, f2, 0, ⟨d1, d2, d3⟩, rfl, rfl, rfl, rfl, HE.out.1, HE.out.2, O11.out⟩
                · have he2 : (ki == 2) = false := by simpa using hk2
                  clear hk0 hk1 hk2
                  obtain ⟨A2, d1, d2, d3, f2, a1, a2, a3, a4, a5, a6, e1, e2, hE, hZ⟩ := does_rek A ⟨⟨k1, h1, n1⟩, ⟨k2, h2, n2⟩⟩ false HT.out
                  simp only [if_true, Bool.false_eq_true, if_false] at e2 hE
                  try dsimp only at e1 e2
                  have HE := Lib.hid (And.intro hE hZ)
                  clear hE hZ
                  have ht := OC.out.blk (i := 5) rfl
                  have lt := lt_of_heap ht
                  have ft := fun o => frozen_of_heap (o := o) ht
                  obtain ⟨t0, t1, t2, t3, t4, t5⟩ := TrAt.cells ht
                  dsimp only at t0 t1 t2 t3 t4 t5
                  clear ht
                  have hv := OC.out.blk (i := 3) rfl
                  have lv := lt_of_heap hv
                  have fv := fun o => frozen_of_heap (o := o) hv
                  obtain ⟨v0, v1, v2, v3, v4, v5⟩ := TrAt.cells hv
                  dsimp only at v0 v1 v2 v3 v4 v5
                  clear hv
                  have hop := OC.out.blk (i := 4) rfl
                  have p0 := cell_of_heap (o := 0) hop
                  have p1 := cell_of_heap (o := 1) hop
                  simp only [List.getElem?_toArray, List.getElem?_cons_zero, List.getElem?_cons_succ] at p0 p1
                  have lp := lt_of_heap hop
                  clear hop
                  go_wp2_with fail
                  refine (tRekey_own OC.out 8 rfl ⟨⟨k1, h1, n1⟩, ⟨k2, h2, n2⟩⟩ false).mono ?_
                  rintro e w8 ⟨rfl, o8⟩
                  rw [e1] at o8 ⊢
                  have O8 : Hid (Own w w8 [blk b20 (rciObj ⟨k1, h1, n1⟩), blk b21 (rciObj ⟨k2, h2, n2⟩), blk (BO + 1 + 1) (rciObj ⟨0, false, 0⟩), blk (BO + 1) (trObj ⟨⟨0, false, 0⟩, ⟨0, false, 0⟩⟩), blk BO (opObj3 ki X), blk BT (trObj ⟨⟨k1, h1, n1⟩, ⟨k2, h2, n2⟩⟩), blk BA (refObj A g cap), refT g cap A.l, arena r A2]) := Lib.hid o8
                  clear o8 e1 p0 p1 lp
                  clear lt ft t0 t1 t2 t3 t4 t5 lv fv v0 v1 v2 v3 v4 v5
                  simp only [Tr.val]
                  have hv := O8.out.blk (i := 3) rfl
                  have lv := lt_of_heap hv
                  have fv := fun o => frozen_of_heap (o := o) hv
                  obtain ⟨v0, v1, v2, v3, v4, v5⟩ := TrAt.cells hv
                  dsimp only at v0 v1 v2 v3 v4 v5
                  clear hv
                  have hop := O8.out.blk (i := 4) rfl
                  have p0 := cell_of_heap (o := 0) hop
                  have p1 := cell_of_heap (o := 1) hop
                  simp only [List.getElem?_toArray, List.getElem?_cons_zero, List.getElem?_cons_succ] at p0 p1
                  have lp := lt_of_heap hop
                  clear hop
                  have hb := O8.out.blk (i := 1) rfl
                  have lb := lt_of_heap hb
                  have fb := fun o => frozen_of_heap (o := o) hb
                  have b0 := cell_of_heap (o := 0) hb
                  have b1 := cell_of_heap (o := 1) hb
                  have b2 := cell_of_heap (o := 2) hb
                  simp only [List.getElem?_toArray, List.getElem?_cons_zero, List.getElem?_cons_succ] at b0 b1 b2
                  clear hb
                  have hz := O8.out.blk (i := 2) rfl
                  have lz := lt_of_heap hz
                  have fz := fun o => frozen_of_heap (o := o) hz
                  have z0 := cell_of_heap (o := 0) hz
                  have z1 := cell_of_heap (o := 1) hz
                  have z2 := cell_of_heap (o := 2) hz
                  simp only [List.getElem?_toArray, List.getElem?_cons_zero, List.getElem?_cons_succ] at z0 z1 z2
                  clear hz
                  have hq := O8.out.blk (i := 6) rfl
                  have lq := lt_of_heap hq
                  have fq := fun o => frozen_of_heap (o := o) hq
                  have q0 := cell_of_heap (o := 0) hq
                  have q1 := cell_of_heap (o := 1) hq
                  simp only [List.getElem?_toArray, List.getElem?_cons_zero, List.getElem?_cons_succ] at q0 q1
                  clear hq
                  have O9 : Hid (Own w _ [blk b20 (rciObj ⟨k1, h1, n1⟩), blk b21 (rciObj ⟨k2, h2, n2⟩), blk (BO + 1 + 1) (rciObj ⟨0, false, 0⟩), blk (BO + 1) (trObj ⟨⟨a1, a2, a3⟩, ⟨a4, a5, a6⟩⟩), blk BO (opObj3 ki X), blk BT (trObj ⟨⟨k1, h1, n1⟩, ⟨k2, h2, n2⟩⟩), blk BA (refObj A g cap), refT g cap A.l, arena r A2]) := Lib.hid (Own.set6 3 O8.out rfl (.int .i64 a1) (.bool a2) (.int .u64 a3) (.int .i64 a4) (.bool a5) (.int .u64 a6))
                  have n83 := O8.out.ne (i := 3) (j := 4) rfl rfl (by decide)
                  have n83' := Ne.symm n83
                  have m01 := O8.out.ne (i := 0) (j := 1) rfl rfl (by decide)
                  have m10 := Ne.symm m01
                  have m02 := O8.out.ne (i := 0) (j := 2) rfl rfl (by decide)
                  have m20 := Ne.symm m02
                  have m03 := O8.out.ne (i := 0) (j := 3) rfl rfl (by decide)
                  have m30 := Ne.symm m03
                  have m06 := O8.out.ne (i := 0) (j := 6) rfl rfl (by decide)
                  have m60 := Ne.symm m06
                  have m12 := O8.out.ne (i := 1) (j := 2) rfl rfl (by decide)
                  have m21 := Ne.symm m12
                  have m13 := O8.out.ne (i := 1) (j := 3) rfl rfl (by decide)
                  have m31 := Ne.symm m13
                  have m16 := O8.out.ne (i := 1) (j := 6) rfl rfl (by decide)
                  have m61 := Ne.symm m16
                  have m23 := O8.out.ne (i := 2) (j := 3) rfl rfl (by decide)
                  have m32 := Ne.symm m23
                  have m26 := O8.out.ne (i := 2) (j := 6) rfl rfl (by decide)
                  have m62 := Ne.symm m26
                  have m36 := O8.out.ne (i := 3) (j := 6) rfl rfl (by decide)
                  have m63 := Ne.symm m36
                  have m24 := O8.out.ne (i := 2) (j := 4) rfl rfl (by decide)
                  have m42 := Ne.symm m24
                  have m64 := O8.out.ne (i := 6) (j := 4) rfl rfl (by decide)
                  have m46 := Ne.symm m64
                  go_wp2_with fail
                  refine (rRekey_calls (A := A) (g := g) (cap := cap) (c := ⟨k2, h2, n2⟩) (O9.out.ref (i := 7) rfl) HA.out.1 HA.out.2).mono ?_
                  rintro e w9 ⟨g2, cap2, rfl, hr9, hb9, hg9⟩
                  rw [e2] at hr9 ⊢
                  have O10 : Hid (Own w w9 [blk b20 (rciObj ⟨k1, h1, n1⟩), blk b21 (rciObj ⟨k2, h2, n2⟩), blk (BO + 1 + 1) (rciObj ⟨0, false, 0⟩), blk (BO + 1) (trObj ⟨⟨a1, a2, a3⟩, ⟨a4, a5, a6⟩⟩), blk BO (opObj3 ki X), blk BT (trObj ⟨⟨k1, h1, n1⟩, ⟨k2, h2, n2⟩⟩), blk BA (refObj A g cap), refT g2 cap2 A2.l, arena r A2]) := Lib.hid (O9.out.newRef (i := 7) rfl hb9 hr9 hg9)
                  clear hr9 hg9
                  clear hb9 e2 p0 p1 lp
                  clear lv fv v0 v1 v2 v3 v4 v5
                  clear lb fb b0 b1 b2 lz fz z0 z1 z2
                  clear lq fq q0 q1
                  simp only [refV, Ci.val]
                  have hb := O10.out.blk (i := 1) rfl
                  have lb := lt_of_heap hb
                  have fb := fun o => frozen_of_heap (o := o) hb
                  have b0 := cell_of_heap (o := 0) hb
                  have b1 := cell_of_heap (o := 1) hb
                  have b2 := cell_of_heap (o := 2) hb
                  simp only [List.getElem?_toArray, List.getElem?_cons_zero, List.getElem?_cons_succ] at b0 b1 b2
                  clear hb
                  have hz := O10.out.blk (i := 2) rfl
                  have lz := lt_of_heap hz
                  have fz := fun o => frozen_of_heap (o := o) hz
                  have z0 := cell_of_heap (o := 0) hz
                  have z1 := cell_of_heap (o := 1) hz
                  have z2 := cell_of_heap (o := 2) hz
                  simp only [List.getElem?_toArray, List.getElem?_cons_zero, List.getElem?_cons_succ] at z0 z1 z2
                  clear hz
                  have hq := O10.out.blk (i := 6) rfl
                  have lq := lt_of_heap hq
                  have fq := fun o => frozen_of_heap (o := o) hq
                  have q0 := cell_of_heap (o := 0) hq
                  have q1 := cell_of_heap (o := 1) hq
                  simp only [List.getElem?_toArray, List.getElem?_cons_zero, List.getElem?_cons_succ] at q0 q1
                  clear hq
                  have O11 : Hid (Own w _ [blk b20 (rciObj ⟨k1, h1, n1⟩), blk b21 (rciObj ⟨d1, d2, d3⟩), blk (BO + 1 + 1) (rciObj ⟨d1, d2, d3⟩), blk (BO + 1) (trObj ⟨⟨a1, a2, a3⟩, ⟨a4, a5, a6⟩⟩), blk BO (opObj3 ki X), blk BT (trObj ⟨⟨k1, h1, n1⟩, ⟨k2, h2, n2⟩⟩), blk BA (refObj A2 g2 cap2), refT g2 cap2 A2.l, arena r A2]) := Lib.hid (own_set3 1 (own_set3 2 (own_set2 6 O10.out rfl (.int .i64 A2.limit) (.slice (some ⟨g2, 0, none⟩) A2.l.length cap2)) rfl (.int .i64 d1) (.bool d2) (.int .u64 d3)) rfl (.int .i64 d1) (.bool d2) (.int .u64 d3))
                  go_wp2_with fail
                  go_meet
                  exact ⟨A2, g2, cap2, ⟨k1, h1, n1⟩, ⟨d1, d2, d3⟩, ⟨⟨a1, a2, a3⟩, ⟨a4, a5, a6⟩⟩, f2, 0, ⟨d1, d2, d3⟩, rfl, rfl, rfl, rfl, HE.out.1, HE.out.2, O11.out⟩
          case rest =>
            clear p0 p1 lp
            obtain ⟨A2, g2, cap2, snd, rcv, nt, E, XX, c15, rfl, rfl, rfl, rfl, hE, hZ, oc⟩ := hcut
            have OD := Lib.hid oc
            have HE := Lib.hid (And.intro hE hZ)
            have hself1 : (E != E) = false := by simp
            have hself2 : (XX != XX) = false := by simp
            obtain ⟨S2, hA2⟩ := oc.arena (i := 8) rfl
            have Hsame := Lib.hid (same_calls hA2 (oc.ref (i := 7) rfl))
            clear oc hE hZ hA2
            have hq := OD.out.blk (i := 6) rfl
            have lq := lt_of_heap hq
            have fq := fun o => frozen_of_heap (o := o) hq
            have q0 := cell_of_heap (o := 0) hq
            have q1 := cell_of_heap (o := 1) hq
            simp only [List.getElem?_toArray, List.getElem?_cons_zero, List.getElem?_cons_succ] at q0 q1
            clear hq
            unfold refV at Hsame
            go_wp2_with fail
            refine Hsame.out.mono ?_
            rintro e w10 ⟨rfl, hb10⟩
            have OE := Lib.hid (OD.out.call hb10)
            clear hb10 lq fq q0 q1
            by_cases hE0 : E = 0
            · subst hE0
              obtain ⟨rfl, hnu⟩ := HE.out.1 rfl
              obtain ⟨a1, a2, a3⟩ := snd
              obtain ⟨a4, a5, a6⟩ := rcv
              have OF : Hid (Own w w10 [blk b20 (rciObj ⟨a1, a2, a3⟩), blk b21 (rciObj ⟨a4, a5, a6⟩), blk (BO + 1 + 1) (rciObj c15), blk (BO + 1) (trObj ⟨⟨a1, a2, a3⟩, ⟨a4, a5, a6⟩⟩), blk BO (opObj3 ki X), blk BT (trObj ⟨⟨k1, h1, n1⟩, ⟨k2, h2, n2⟩⟩), blk BA (refObj A2 g2 cap2), refT g2 cap2 A2.l, arena r A2]) := Lib.hid OE.out
              have HN := Lib.hid hnu
              clear hnu
              have hv := OF.out.blk (i := 3) rfl
              have lv := lt_of_heap hv
              have fv := fun o => frozen_of_heap (o := o) hv
              obtain ⟨v0, v1, v2, v3, v4, v5⟩ := TrAt.cells hv
              dsimp only at v0 v1 v2 v3 v4 v5
              clear hv
              have hb := OF.out.blk (i := 0) rfl
              have lb := lt_of_heap hb
              have fb := fun o => frozen_of_heap (o := o) hb
              have b0 := cell_of_heap (o := 0) hb
              have b1 := cell_of_heap (o := 1) hb
              have b2 := cell_of_heap (o := 2) hb
              simp only [List.getElem?_toArray, List.getElem?_cons_zero, List.getElem?_cons_succ] at b0 b1 b2
              clear hb
              have hd := OF.out.blk (i := 1) rfl
              have ld := lt_of_heap hd
              have fd := fun o => frozen_of_heap (o := o) hd
              have d0 := cell_of_heap (o := 0) hd
              have d1 := cell_of_heap (o := 1) hd
              have d2 := cell_of_heap (o := 2) hd
              simp only [List.getElem?_toArray, List.getElem?_cons_zero, List.getElem?_cons_succ] at d0 d1 d2
              clear hd
              go_upto_region 35 with fail
              go_cut [157] (fun s wx => s = .bool false ∧ Below w10.heap.size w10 wx)
              case first =>
                have hbb : Below w10.heap.size w10 w10 := Below.refl _ _
                go_region_held3 (fun w' => Below w10.heap.size w10 w' ∧ w'.cell? ⟨BO + 1, 0, none⟩ = some (.int .i64 a1) ∧ w'.cell? ⟨BO + 1, 1, none⟩ = some (.bool a2) ∧ w'.cell? ⟨BO + 1, 2, none⟩ = some (.int .u64 a3) ∧ w'.cell? ⟨BO + 1, 3, none⟩ = some (.int .i64 a4) ∧ w'.cell? ⟨BO + 1, 4, none⟩ = some (.bool a5) ∧ w'.cell? ⟨BO + 1, 5, none⟩ = some (.int .u64 a6) ∧ w'.cell? ⟨b20, 0, none⟩ = some (.int .i64 a1) ∧ w'.cell? ⟨b20, 1, none⟩ = some (.bool a2) ∧ w'.cell? ⟨b20, 2, none⟩ = some (.int .u64 a3) ∧ w'.cell? ⟨b21, 0, none⟩ = some (.int .i64 a4) ∧ w'.cell? ⟨b21, 1, none⟩ = some (.bool a5) ∧ w'.cell? ⟨b21, 2, none⟩ = some (.int .u64 a6))
                  (first | (refine ⟨(by first | assumption | exact Below.drew (by assumption)), ?_⟩; go_keep))
                  (first
                    | (go_at_call 19; refine (of_calls ⟨_, _, _⟩ _).mono ?_; rintro e w6 ⟨rfl, hb6⟩
                       have hx6 : Below w10.heap.size w10 w6 := below_call (by first | assumption | exact Below.drew (by assumption)) hb6
                       have OG := OF.out.call hx6
                       have hv := OG.blk (i := 3) rfl
                       have lv := lt_of_heap hv
                       have fv := fun o => frozen_of_heap (o := o) hv
                       obtain ⟨v0, v1, v2, v3, v4, v5⟩ := TrAt.cells hv
                       dsimp only at v0 v1 v2 v3 v4 v5
                       clear hv
                       have hb := OG.blk (i := 0) rfl
                       have lb := lt_of_heap hb
                       have fb := fun o => frozen_of_heap (o := o) hb
                       have b0 := cell_of_heap (o := 0) hb
                       have b1 := cell_of_heap (o := 1) hb
                       have b2 := cell_of_heap (o := 2) hb
                       simp only [List.getElem?_toArray, List.getElem?_cons_zero, List.getElem?_cons_succ] at b0 b1 b2
                       clear hb
                       have hd := OG.blk (i := 1) rfl
                       have ld := lt_of_heap hd
                       have fd := fun o => frozen_of_heap (o := o) hd
                       have d0 := cell_of_heap (o := 0) hd
                       have d1 := cell_of_heap (o := 1) hd
                       have d2 := cell_of_heap (o := 2) hd
                       simp only [List.getElem?_toArray, List.getElem?_cons_zero, List.getElem?_cons_succ] at d0 d1 d2
                       clear hd
                       simp only [Ci.val]))
                all_goals go_wp2_with fail
                all_goals go_meet
                all_goals exact ⟨by simp, by first | assumption | exact Below.drew (by assumption)⟩
              case rest =>
                obtain ⟨rfl, hbx⟩ := hcut
                have OG := Lib.hid (OF.out.call hbx)
                clear hbx lv fv v0 v1 v2 v3 v4 v5 lb fb b0 b1 b2 ld fd d0 d1 d2
                have hv := OG.out.blk (i := 3) rfl
                have lv := lt_of_heap hv
                have fv := fun o => frozen_of_heap (o := o) hv
                obtain ⟨v0, v1, v2, v3, v4, v5⟩ := TrAt.cells hv
                dsimp only at v0 v1 v2 v3 v4 v5
                clear hv
                have ht := OG.out.blk (i := 5) rfl
                have lt := lt_of_heap ht
                have ft := fun o => frozen_of_heap (o := o) ht
                obtain ⟨t0, t1, t2, t3, t4, t5⟩ := TrAt.cells ht
                dsimp only at t0 t1 t2 t3 t4 t5
                clear ht
                go_wp2_with fail
                refine ⟨⟨s + 1, A2, g2, cap2, ⟨⟨a1, a2, a3⟩, ⟨a4, a5, a6⟩⟩, by have := Hs.out; omega, by simp, HN.out, (Own.set6 5 OG.out rfl (.int .i64 a1) (.bool a2) (.int .u64 a3) (.int .i64 a4) (.bool a5) (.int .u64 a6)).tail.tail.tail.tail.tail⟩, ?_⟩
                have := Hs.out
                simp only [intOf]; omega
            · obtain rfl := HE.out.2 hE0
              have hd1 : (E != 0) = true := by simpa using hE0
              have hd2 : (E == 0) = false := by simpa using hE0
              have OF : Hid (Own w w10 [blk b20 (rciObj snd), blk b21 (rciObj rcv), blk (BO + 1 + 1) (rciObj c15), blk (BO + 1) (trObj ⟨⟨0, false, 0⟩, ⟨0, false, 0⟩⟩), blk BO (opObj3 ki X), blk BT (trObj ⟨⟨k1, h1, n1⟩, ⟨k2, h2, n2⟩⟩), blk BA (refObj A2 g2 cap2), refT g2 cap2 A2.l, arena r A2]) := Lib.hid OE.out
              have hv := OF.out.blk (i := 3) rfl
              have lv := lt_of_heap hv
              have fv := fun o => frozen_of_heap (o := o) hv
              obtain ⟨v0, v1, v2, v3, v4, v5⟩ := TrAt.cells hv
              dsimp only at v0 v1 v2 v3 v4 v5
              clear hv
              go_wp2_with fail
              refine ⟨⟨s + 1, A2, g2, cap2, ⟨⟨k1, h1, n1⟩, ⟨k2, h2, n2⟩⟩, by have := Hs.out; omega, by simp, HT.out, OF.out.tail.tail.tail.tail.tail⟩, ?_⟩
              have := Hs.out
              simp only [intOf]; omega
      · obtain rfl : s = os.length := by omega
        go_wp2_with fail
        refine (awake _).mono ?_
        rintro e w9 ⟨rfl, b9⟩
        go_wp2_with fail
        go_ret
        exact ⟨rfl, (OL.out.call b9).below⟩
end Go.Proofs.Ytgcjhmffndijhaa
