/- The peers that the law of layer 15 keeps: a row of three ints each; where one is. -/
import Derived.Test.YtlpcjngclgncmaaCat
import Derived.Test.YtlpcjngclgncmaaOwnS
import Derived.Test.YtlpcjngclgncmaaOpen
import Derived.Lib.Hide
import Derived.Deep.QuietTactic
import Derived.BigQuiet
import Derived.Deep.CutBlock
import Derived.Deep.DeepCutAuto
namespace Go.Proofs.Ytlpcjngclgncmaa
open Go.RowKit

structure Pr where
  id : Int
  key : Int
  psk : Int
  deriving DecidableEq, Inhabited
def Pr.cells (p : Pr) : List Value := [.int .i64 p.id, .int .i64 p.key, .int .i64 p.psk]
def PeersAt (w : World) (B : Nat) (v : Value) (l : List Pr) : Prop := w.ownsRow B 40 3 v l.length (l.flatMap Pr.cells)
theorem PeersAt.below {w w' : World} {B : Nat} {v : Value} {l : List Pr} (h : PeersAt w B v l) (u : Below w.heap.size w w') : PeersAt w' B v l := ownsRow_upd' (S := None) h (Upd.of_below u) (fun _ _ h => h)
theorem PeersAt.nil {w : World} {B : Nat} {v : Value} {l : List Pr} (h : PeersAt w B v l) : (v = .slice none 0 0 ∧ l = []) ∨ ∃ g cap, v = .slice (some ⟨g, 0, none⟩) l.length cap := by
  rcases h.2 with ⟨h1, h2⟩ | ⟨g, cap, cur, h1, _⟩
  · exact .inl ⟨h1, List.eq_nil_of_length_eq_zero h2⟩
  · exact .inr ⟨g, cap, h1⟩
theorem PeersAt.peer {w : World} {B g cap : Nat} {l : List Pr} (h : PeersAt w B (.slice (some ⟨g, 0, none⟩) l.length cap) l) {i : Nat} {p : Pr} (hi : l[i]? = some p) :
    w.cell? ⟨g, i * 3, none⟩ = some (.int .i64 p.id) ∧ w.cell? ⟨g, i * 3 + 1, none⟩ = some (.int .i64 p.key) ∧ w.cell? ⟨g, i * 3 + 2, none⟩ = some (.int .i64 p.psk) := by
  have hc := h.cells (g := g) rfl
  have at_ : ∀ j u, p.cells[j]? = some u → w.cell? ⟨g, i * 3 + j, none⟩ = some u := fun j u hj => by
    have hj5 : j < 3 := (List.getElem?_eq_some_iff.1 hj).1
    have := hc (i * 3 + j) u (by
      rw [flatMap_at Pr.cells 3 (by decide) (fun _ => rfl), show (i * 3 + j) / 3 = i by omega, show (i * 3 + j) % 3 = j by omega, hi]
      exact hj)
    rwa [add_off, Nat.zero_add] at this
  exact ⟨at_ 0 _ rfl, at_ 1 _ rfl, at_ 2 _ rfl⟩
/-- Where the first one is of whom something holds; -1: nowhere. -/
def atP (p : Pr → Bool) (l : List Pr) : Int := match l.findIdx? p with | some i => i | none => -1
theorem atP_some {p : Pr → Bool} {l : List Pr} {k : Nat} {x : Pr} (hz : ∀ j y, j < k → l[j]? = some y → p y = false) (hk : l[k]? = some x) (hx : p x = true) : atP p l = k := by
  have : l.findIdx? p = some k := by
    rw [List.findIdx?_eq_some_iff_getElem]
    obtain ⟨h1, h2⟩ := List.getElem?_eq_some_iff.1 hk
    refine ⟨h1, by rw [h2]; exact hx, fun j hj => ?_⟩
    have := hz j l[j] hj (List.getElem?_eq_getElem (by omega))
    simp [this]
  simp [atP, this]
theorem atP_none {p : Pr → Bool} {l : List Pr} (hz : ∀ (j : Nat) (y : Pr), l[j]? = some y → p y = false) : atP p l = -1 := by
  have : l.findIdx? p = none := by
    rw [List.findIdx?_eq_none_iff]
    intro x hx
    obtain ⟨i, hi⟩ := List.getElem?_of_mem hx
    exact hz i x hi
  simp [atP, this]
theorem atP_cases (p : Pr → Bool) (l : List Pr) : atP p l = -1 ∨ ∃ i : Nat, ∃ x, atP p l = i ∧ l[i]? = some x ∧ p x = true := by
  unfold atP
  cases h : l.findIdx? p with
  | none => exact .inl rfl
  | some i =>
    rw [List.findIdx?_eq_some_iff_getElem] at h
    obtain ⟨h1, h2, _⟩ := h
    exact .inr ⟨i, l[i], rfl, List.getElem?_eq_getElem h1, h2⟩

set_option maxHeartbeats 800000 in
set_option maxRecDepth 100000 in
theorem at15_calls {w : World} {B : Nat} {v : Value} {l : List Pr} (h : PeersAt w B v l) (hm : l.length ≤ 1000) (x : Int) :
    Calls Try.prog 30 #[v, .int .i64 x] w fun e w' => e = .returned (.int .i64 (atP (fun p => p.id == x) l)) ∧ Below w.heap.size w w' := by
  have Hr := Lib.hid h
  rcases h.nil with ⟨rfl, rfl⟩ | ⟨g, cap, rfl⟩
  · clear h
    go_enter Try.func30, Try.ntmps30
    go_wp2_with fail
    go_loopw [9] (fun i wr => i = .int .i64 0 ∧ wr = w) (fun i _ => 0)
    case atStart => exact ⟨rfl, rfl⟩
    case round =>
      obtain ⟨rfl, rfl⟩ := hrel
      go_wp2_with fail
      go_ret
      exact ⟨rfl, Below.refl _ _⟩
  · clear h
    go_enter Try.func30, Try.ntmps30
    go_wp2_with fail
    go_loopw [9] (fun i wr => ∃ k : Nat, k ≤ l.length ∧ i = .int .i64 k ∧ (∀ j y, j < k → l[j]? = some y → (y.id == x) = false) ∧ Below w.heap.size w wr) (fun i _ => (l.length - intOf i).toNat)
    case atStart => exact ⟨0, by omega, rfl, fun j y hj => absurd hj (Nat.not_lt_zero _), Below.refl _ _⟩
    case round =>
      obtain ⟨k, hk, rfl, hz, hbr⟩ := hrel
      have HZ := Lib.hid hz
      clear hz
      by_cases hlt : k < l.length
      · obtain ⟨y, hy⟩ : ∃ y, l[k]? = some y := ⟨_, List.getElem?_eq_getElem hlt⟩
        obtain ⟨q0, q1, q2⟩ := (Hr.out.below hbr).peer hy
        have ik : (k : Int) < l.length := by omega
        have lg := ((Hr.out.below hbr).lt g rfl).2
        have Hy := Lib.hid hy
        clear hy
        cases hd : (y.id == x) with
        | true =>
          have Hf := Lib.hid (show atP (fun p => p.id == x) l = k from atP_some HZ.out Hy.out hd)
          go_wp2_with fail
          go_ret
          exact ⟨by rw [Hf.out]; rfl, hbr.alloc hbr.size _⟩
        | false =>
          have HZ2 := Lib.hid (show ∀ j y, j < k + 1 → l[j]? = some y → (y.id == x) = false from fun j y' hj hy' => by
            by_cases hjk : j < k
            · exact HZ.out j y' hjk hy'
            · rw [show j = k by omega, Hy.out] at hy'
              obtain rfl := Option.some.inj hy'
              exact hd)
          clear HZ
          go_wp2_with fail
          refine ⟨⟨k + 1, by omega, by simp, HZ2.out, hbr.alloc hbr.size _⟩, ?_⟩
          simp only [intOf]; omega
      · obtain rfl : k = l.length := by omega
        have Hf := Lib.hid (show atP (fun p => p.id == x) l = -1 from atP_none fun j y hy => HZ.out j y (List.getElem?_eq_some_iff.1 hy).1 hy)
        go_wp2_with fail
        go_ret
        exact ⟨by rw [Hf.out]; rfl, hbr⟩
set_option maxHeartbeats 800000 in
set_option maxRecDepth 100000 in
theorem who15_calls {w : World} {B : Nat} {v : Value} {l : List Pr} (h : PeersAt w B v l) (hm : l.length ≤ 1000) (x : Int) :
    Calls Try.prog 12 #[v, .int .i64 x] w fun e w' => e = .returned (.int .i64 (atP (fun p => p.key == x) l)) ∧ Below w.heap.size w w' := by
  have Hr := Lib.hid h
  rcases h.nil with ⟨rfl, rfl⟩ | ⟨g, cap, rfl⟩
  · clear h
    go_enter Try.func12, Try.ntmps12
    go_wp2_with fail
    go_loopw [9] (fun i wr => i = .int .i64 0 ∧ wr = w) (fun i _ => 0)
    case atStart => exact ⟨rfl, rfl⟩
    case round =>
      obtain ⟨rfl, rfl⟩ := hrel
      go_wp2_with fail
      go_ret
      exact ⟨rfl, Below.refl _ _⟩
  · clear h
    go_enter Try.func12, Try.ntmps12
    go_wp2_with fail
    go_loopw [9] (fun i wr => ∃ k : Nat, k ≤ l.length ∧ i = .int .i64 k ∧ (∀ j y, j < k → l[j]? = some y → (y.key == x) = false) ∧ Below w.heap.size w wr) (fun i _ => (l.length - intOf i).toNat)
    case atStart => exact ⟨0, by omega, rfl, fun j y hj => absurd hj (Nat.not_lt_zero _), Below.refl _ _⟩
    case round =>
      obtain ⟨k, hk, rfl, hz, hbr⟩ := hrel
      have HZ := Lib.hid hz
      clear hz
      by_cases hlt : k < l.length
      · obtain ⟨y, hy⟩ : ∃ y, l[k]? = some y := ⟨_, List.getElem?_eq_getElem hlt⟩
        obtain ⟨q0, q1, q2⟩ := (Hr.out.below hbr).peer hy
        have ik : (k : Int) < l.length := by omega
        have lg := ((Hr.out.below hbr).lt g rfl).2
        have Hy := Lib.hid hy
        clear hy
        cases hd : (y.key == x) with
        | true =>
          have Hf := Lib.hid (show atP (fun p => p.key == x) l = k from atP_some HZ.out Hy.out hd)
          go_wp2_with fail
          go_ret
          exact ⟨by rw [Hf.out]; rfl, hbr.alloc hbr.size _⟩
        | false =>
          have HZ2 := Lib.hid (show ∀ j y, j < k + 1 → l[j]? = some y → (y.key == x) = false from fun j y' hj hy' => by
            by_cases hjk : j < k
            · exact HZ.out j y' hjk hy'
            · rw [show j = k by omega, Hy.out] at hy'
              obtain rfl := Option.some.inj hy'
              exact hd)
          clear HZ
          go_wp2_with fail
          refine ⟨⟨k + 1, by omega, by simp, HZ2.out, hbr.alloc hbr.size _⟩, ?_⟩
          simp only [intOf]; omega
      · obtain rfl : k = l.length := by omega
        have Hf := Lib.hid (show atP (fun p => p.key == x) l = -1 from atP_none fun j y hy => HZ.out j y (List.getElem?_eq_some_iff.1 hy).1 hy)
        go_wp2_with fail
        go_ret
        exact ⟨by rw [Hf.out]; rfl, hbr⟩
end Go.Proofs.Ytlpcjngclgncmaa
