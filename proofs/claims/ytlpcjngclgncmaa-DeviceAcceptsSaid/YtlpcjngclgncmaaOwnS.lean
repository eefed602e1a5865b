/- A store among the things that a law has made; the calls of layer 14. -/
import Derived.Test.YtlpcjngclgncmaaStore2
import Derived.Test.YtlpcjngclgncmaaOwn
namespace Go.Proofs.Ytlpcjngclgncmaa
open Go.RowKit

def storeT (r : Nat) (s : St) : Thing where
  P w S := IsStore w r s S
  lt _ _ h := h.lt
  keep _ _ _ _ h u hd := h.keep u hd
/-- A row of its own. -/
def rowT (e : TypeId) (size : Nat) (v : Value) (n : Nat) (xs : List Value) : Thing where
  P w S := w.ownsRow 0 e size v n xs ∧ ∀ k, S k ↔ v.ownBlock = some k
  lt w S h k hk := (h.1.lt k ((h.2 k).1 hk)).2
  keep w w' S T h u hd := ⟨ownsRow_upd' h.1 u (fun k hk => hd k ((h.2 k).2 hk)), h.2⟩
theorem ownsRow_zero {w : World} {base : Nat} {e : TypeId} {size : Nat} {v : Value} {n : Nat} {xs : List Value} (h : w.ownsRow base e size v n xs) : w.ownsRow 0 e size v n xs := by
  refine ⟨h.1, ?_⟩
  rcases h.2 with hn | ⟨g, cap, cur, rfl, hb, rest⟩
  · exact .inl hn
  · exact .inr ⟨g, cap, cur, rfl, Nat.zero_le _, rest⟩
theorem Own.newRow {w0 w w' : World} {L : List Thing} (h : Own w0 w L) (hu : Below w.heap.size w w') {e : TypeId} {size n : Nat} {v : Value} {xs : List Value} (hr : w'.ownsRow w.heap.size e size v n xs) : Own w0 w' (rowT e size v n xs :: L) :=
  h.new hu (Q := rowT e size v n xs) (S := fun k => v.ownBlock = some k) ⟨ownsRow_zero hr, fun _ => Iff.rfl⟩ (fun b hb => (hr.lt b hb).1)
theorem Own.row {w0 w : World} {L : List Thing} {i : Nat} {e : TypeId} {size n : Nat} {v : Value} {xs : List Value} (h : Own w0 w L) (hi : L[i]? = some (rowT e size v n xs)) : w.ownsRow 0 e size v n xs := by
  obtain ⟨S, h1, _⟩ := h.at hi; exact h1.1

theorem Own.storeAt {w0 w : World} {L : List Thing} {i r : Nat} {s : St} (h : Own w0 w L) (hi : L[i]? = some (storeT r s)) : ∃ S, IsStore w r s S := by
  obtain ⟨S, h1, _⟩ := h.at hi; exact ⟨S, h1⟩
theorem Own.sleft {w0 w : World} {L : List Thing} {i r : Nat} {s : St} (h : Own w0 w L) (hi : L[i]? = some (storeT r s)) : ∃ S, IsStore w r s S ∧ ∀ s' w', SLeft w r S s' w' → Own w0 w' (L.set i (storeT r s')) := by
  obtain ⟨S, hp, hk⟩ := h.upd hi
  exact ⟨S, hp, fun s' w' ⟨S', h1, h2, h3⟩ => hk w' (storeT r s') S' h2 h1 h3⟩
theorem sNew_own {w0 w : World} {L : List Thing} (h : Own w0 w L) (n : Int) (hn : n ≤ 65536) : Calls Try.prog 14 #[.int .i64 n] w fun e w' => ∃ r, e = .returned (.pointer (some ⟨r, 0, none⟩)) ∧ Own w0 w' (storeT r (newS n) :: L) :=
  (sNew_calls n w hn).mono fun _ _ ⟨r, _, he, hr, hb, hs⟩ => ⟨r, he, h.new hb (Q := storeT r (newS n)) hr hs⟩
theorem sGet_own {w0 w : World} {L : List Thing} {r : Nat} {s : St} (h : Own w0 w L) (i : Nat) (hi : L[i]? = some (storeT r s)) (k : Int) :
    Calls Try.prog 23 #[.pointer (some ⟨r, 0, none⟩), .int .i64 k] w fun e w' => e = .returned (.tuple #[getS s k, .bool (hasS s k)]) ∧ w = w' := by
  obtain ⟨S, hs⟩ := h.storeAt hi
  exact sGet_calls hs k
theorem sAdd_own {w0 w : World} {L : List Thing} {r : Nat} {s : St} (h : Own w0 w L) (i : Nat) (hi : L[i]? = some (storeT r s)) (k : Int) (v : Value) :
    Calls Try.prog 18 #[.pointer (some ⟨r, 0, none⟩), .int .i64 k, v] w fun e w' => e = .returned (.int .i64 (addS s k v).2) ∧ Own w0 w' (L.set i (storeT r (addS s k v).1)) := by
  obtain ⟨S, hs, hk⟩ := h.sleft hi
  exact (sAdd_calls hs k v).mono fun _ _ h2 => ⟨h2.1, hk _ _ h2.2⟩
theorem sPut_own {w0 w : World} {L : List Thing} {r : Nat} {s : St} (h : Own w0 w L) (i : Nat) (hi : L[i]? = some (storeT r s)) (k : Int) (v : Value) :
    Calls Try.prog 26 #[.pointer (some ⟨r, 0, none⟩), .int .i64 k, v] w fun e w' => e = .returned (.int .i64 (putS s k v).2) ∧ Own w0 w' (L.set i (storeT r (putS s k v).1)) := by
  obtain ⟨S, hs, hk⟩ := h.sleft hi
  exact (sPut_calls hs k v).mono fun _ _ h2 => ⟨h2.1, hk _ _ h2.2⟩
theorem sDrop_own {w0 w : World} {L : List Thing} {r : Nat} {s : St} (h : Own w0 w L) (i : Nat) (hi : L[i]? = some (storeT r s)) (k : Int) :
    Calls Try.prog 19 #[.pointer (some ⟨r, 0, none⟩), .int .i64 k] w fun e w' => e = .returned (.int .i64 (dropS s k).2) ∧ Own w0 w' (L.set i (storeT r (dropS s k).1)) := by
  obtain ⟨S, hs, hk⟩ := h.sleft hi
  exact (sDrop_calls hs k).mono fun _ _ h2 => ⟨h2.1, hk _ _ h2.2⟩

def SKeysPost (s : St) (w : World) (e : Ending) (w' : World) : Prop := ∃ v, e = .returned v ∧ w'.ownsRow w.heap.size 3 1 v s.l.length (keysV s.l) ∧ Below w.heap.size w w'
theorem clone_calls {w : World} {v : Value} {ks : List Int} (h : w.ownsRow 0 3 1 v ks.length (ks.map (Value.int .i64))) (hm : ks.length ≤ 65536) :
    Calls Try.prog 29 #[v] w fun e w' => ∃ v', e = .returned v' ∧ w'.ownsRow w.heap.size 3 1 v' ks.length (ks.map (Value.int .i64)) ∧ Below w.heap.size w w' := by
  rcases h.2 with ⟨rfl, h0⟩ | ⟨g, cap, cur, rfl, _, hg, hnc, hmax, hcs, hcur⟩
  · refine (Sh.slices_Clone_int_nil 0 0 w).mono fun e w' ⟨he, hw⟩ => ⟨_, he, ?_, hw ▸ Below.refl _ _⟩
    rw [h0, List.eq_nil_of_length_eq_zero h0]; exact World.ownsRow_nil _ _ _ _
  · by_cases h0 : ks.length = 0
    · rw [h0, List.eq_nil_of_length_eq_zero h0]
      exact (Sh.slices_Clone_int_zero ⟨g, 0, none⟩ cap w).mono fun e w' ⟨v', he, hr, _, hb⟩ => ⟨v', he, hr, hb⟩
    · refine (Sh.slices_Clone_int g 0 ks.length cap ks w (Nat.le_refl _) (by omega) (fun j hj => ?_)).mono fun e w' ⟨v', he, hr, _, hb⟩ => ⟨v', he, by rwa [List.take_length] at hr, hb⟩
      rw [Nat.zero_add, cell_of_heap hg]
      have : cur[j]? = (ks.map (Value.int .i64))[j]? := by
        rw [← hcur, List.getElem?_take, if_pos (by omega), Array.getElem?_toList]
      rw [this]
      simp [List.getD, hj]
set_option maxHeartbeats 800000 in
theorem sKeys_calls {S : Nat → Prop} {r : Nat} {s : St} {w : World} (h : IsStore w r s S) :
    Calls Try.prog 20 #[.pointer (some ⟨r, 0, none⟩)] w (SKeysPost s w) := by
  obtain ⟨bm, kv, hs, -⟩ := h
  obtain ⟨c0, c1, c2⟩ := hs.cells
  have hk : keysV s.l = (s.l.map (·.1)).map (Value.int .i64) := by simp [keysV, keyV]
  have hl : (s.l.map (·.1)).length = s.l.length := List.length_map ..
  have hc := clone_calls (w := w) (v := kv) (ks := s.l.map (·.1)) (by rw [hl, ← hk]; exact hs.row) (by rw [hl]; have := hs.room; omega)
  rw [hl, ← hk] at hc
  have Hc := Lib.hid hc
  clear hs hk hl hc
  go_enter Try.func20, Try.ntmps20
  go_wp2_with fail
  refine Hc.out.mono ?_
  rintro e w1 ⟨v, rfl, h1, h2⟩
  go_wp2_with fail
  go_ret
  exact ⟨v, rfl, h1, h2⟩
theorem sKeys_own {w0 w : World} {L : List Thing} {r : Nat} {s : St} (h : Own w0 w L) (i : Nat) (hi : L[i]? = some (storeT r s)) :
    Calls Try.prog 20 #[.pointer (some ⟨r, 0, none⟩)] w fun e w' => ∃ v, e = .returned v ∧ Own w0 w' (rowT 3 1 v s.l.length (keysV s.l) :: L) := by
  obtain ⟨S, hs⟩ := h.storeAt hi
  exact (sKeys_calls hs).mono fun _ _ ⟨v, he, hr, hb⟩ => ⟨v, he, h.newRow hb hr⟩
end Go.Proofs.Ytlpcjngclgncmaa
