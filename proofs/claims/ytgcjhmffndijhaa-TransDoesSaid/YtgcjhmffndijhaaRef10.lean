/- The document's calls of layer 10. -/
import Derived.Test.YtgcjhmffndijhaaRef6
import Derived.Test.YtgcjhmffndijhaaCip
namespace Go.Proofs.Ytgcjhmffndijhaa
open Go.RowKit

def RCiAt (w : World) (b : Nat) (c : Ci) : Prop := w.heap[b]? = some (.cells #[.int .i64 c.key, .bool c.has, .int .u64 c.n] 56 (0, 0))
theorem RCiAt.below {w w' : World} {b : Nat} {c : Ci} (h : RCiAt w b c) (u : Below w.heap.size w w') : RCiAt w' b c := (u.block b (lt_of_heap h)).trans h
theorem RCiAt.cells {w : World} {b : Nat} {c : Ci} (h : RCiAt w b c) : w.cell? ⟨b, 0, none⟩ = some (.int .i64 c.key) ∧ w.cell? ⟨b, 1, none⟩ = some (.bool c.has) ∧ w.cell? ⟨b, 2, none⟩ = some (.int .u64 c.n) := ⟨cell_of_heap h, cell_of_heap h, cell_of_heap h⟩
def RMayPost (A : Ar) (c : Ci) (ad x : Int) (w : World) (e : Ending) (w' : World) : Prop := e = .returned (.int .i64 (mayC A.l c [ad, x])) ∧ Below w.heap.size w w'
set_option maxHeartbeats 1600000 in
set_option maxRecDepth 100000 in
theorem rMay_calls (A : Ar) (g cap : Nat) (c : Ci) (ad x : Int) (w : World) : Calls Try.prog 36 #[refV A g cap, c.val, .int .i64 ad, .int .i64 x] w (RMayPost A c ad x w) := by
  have Hm := Lib.hid (mayC_two A.l c ad x)
  have Hh := Lib.hid (fun (y : Int) (v : World) => rHas_calls A g cap y v)
  obtain ⟨key, hc, n⟩ := c
  dsimp only at Hm
  have hb0 := below2 w (.cells #[.int .i64 A.limit, .slice (some ⟨g, 0, none⟩) A.l.length cap] 46) (.cells #[.int .i64 key, .bool hc, .int .u64 n] 56)
  have hn0 := two_new w (.cells #[.int .i64 A.limit, .slice (some ⟨g, 0, none⟩) A.l.length cap] 46) (.cells #[.int .i64 key, .bool hc, .int .u64 n] 56)
  unfold refV Ci.val
  go_enter Try.func36, Try.ntmps36
  go_wp2_with fail
  refine (Hh.out ad _).mono ?_
  rintro e w1 ⟨rfl, hb1⟩
  have hbw := below_call hb0 hb1
  have bx : RBox w1 w.heap.size A g cap := (hb1.block _ (by simp; omega)).trans hn0.1
  have cx : RCiAt w1 (w.heap.size + 1) ⟨key, hc, n⟩ := (hb1.block _ (by simp)).trans hn0.2
  have Hx := Lib.hid (And.intro bx cx)
  obtain ⟨b0, b1⟩ := bx.cells
  obtain ⟨c0, c1, c2⟩ := cx.cells
  dsimp only at c0 c1 c2
  clear bx cx hb1 hn0 hb0
  have fin : ∀ (a b k : Bool) (m : Int), has A.l ad = a → has A.l x = b → has A.l key = k → (if (a && b) = false ∨ (hc = true ∧ k = false) then (1 : Int) else if hc = true ∧ n = 18446744073709551615 then 8 else 0) = m → mayC A.l ⟨key, hc, n⟩ [ad, x] = m := fun a b k m h1 h2 h3 h4 => by rw [Hm.out, h1, h2, h3, h4]
  have Hf := Lib.hid fin
  clear fin Hm
  cases ha : has A.l ad with
  | false =>
    go_wp2_with fail
    go_ret
    exact ⟨by rw [Hf.out false (has A.l x) (has A.l key) 1 ha rfl rfl (by simp)]; rfl, hbw⟩
  | true =>
    go_wp2_with fail
    refine (Hh.out x _).mono ?_
    rintro e w2 ⟨rfl, hb2⟩
    have hbw2 := below_call hbw hb2
    have Hx2 := Lib.hid (And.intro (Hx.out.1.below hb2) (Hx.out.2.below hb2))
    obtain ⟨b0, b1⟩ := Hx2.out.1.cells
    obtain ⟨c0, c1, c2⟩ := Hx2.out.2.cells
    dsimp only at c0 c1 c2
    clear hb2 Hx
    cases hxx : has A.l x with
    | false =>
      go_wp2_with fail
      go_ret
      exact ⟨by rw [Hf.out true false (has A.l key) 1 ha hxx rfl (by simp)]; rfl, hbw2⟩
    | true =>
      cases hc with
      | false =>
        go_wp2_with fail
        go_ret
        exact ⟨by rw [Hf.out true true (has A.l key) 0 ha hxx rfl (by simp)]; rfl, hbw2⟩
      | true =>
        go_wp2_with fail
        refine (Hh.out key _).mono ?_
        rintro e w3 ⟨rfl, hb3⟩
        have hbw3 := below_call hbw2 hb3
        obtain ⟨b0, b1⟩ := (Hx2.out.1.below hb3).cells
        obtain ⟨c0, c1, c2⟩ := (Hx2.out.2.below hb3).cells
        dsimp only at c0 c1 c2
        clear hb3 Hx2
        cases hk : has A.l key with
        | false =>
          go_wp2_with fail
          go_ret
          exact ⟨by rw [Hf.out true true false 1 ha hxx hk (by simp)]; rfl, hbw3⟩
        | true =>
          by_cases hn : n = 18446744073709551615
          · have hd : (n == 18446744073709551615) = true := by simpa using hn
            have Hv := Lib.hid (Hf.out true true true 8 ha hxx hk (by simp [hn]))
            clear hn
            go_wp2_with fail
            go_ret
            exact ⟨by rw [Hv.out]; rfl, hbw3⟩
          · have hd : (n == 18446744073709551615) = false := by simpa using hn
            have Hv := Lib.hid (Hf.out true true true 0 ha hxx hk (by simp [hn]))
            clear hn
            go_wp2_with fail
            go_ret
            exact ⟨by rw [Hv.out]; rfl, hbw3⟩
end Go.Proofs.Ytgcjhmffndijhaa
