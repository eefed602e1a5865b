/- The document's calls of layer 2 that only read: digits, part, at. -/
import Derived.Test.YtfelbecofbdeaaaDoorRef2
import Derived.Test.YtfelbecofbdeaaaDoorCApartW
namespace Go.Proofs.YtfelbecofbdeaaaDoor
open Go.RowKit

set_option maxHeartbeats 1600000 in
set_option maxRecDepth 100000 in
theorem r2digit (u : Nat) (h : u < 10) (w : World) : Calls Tryd.prog 35 #[.int .u64 u] w fun e w' => e = .returned (.string (strO (digs u))) ∧ w = w' := by
  have : u = 0 ∨ u = 1 ∨ u = 2 ∨ u = 3 ∨ u = 4 ∨ u = 5 ∨ u = 6 ∨ u = 7 ∨ u = 8 ∨ u = 9 := by omega
  rcases this with rfl | rfl | rfl | rfl | rfl | rfl | rfl | rfl | rfl | rfl
  all_goals
    go_enter Tryd.func35, Tryd.ntmps35
    go_wp2
    go_ret
    refine ⟨?_, rfl⟩
    unfold digs
    rw [Lib.decDigits_one (by decide)]
    exact congrArg (fun s => Ending.returned (Value.string s)) (by decide +kernel)
set_option maxHeartbeats 1600000 in
set_option maxRecDepth 100000 in
theorem r2digits_calls : ∀ (n u : Nat) (w : World), u < n → u < 18446744073709551616 → Calls Tryd.prog 35 #[.int .u64 u] w fun e w' => e = .returned (.string (strO (digs u))) ∧ w = w' := by
  intro n
  induction n with
  | zero => intro u w h; omega
  | succ n ih =>
    intro u w h h64
    by_cases h10 : u < 10
    · exact r2digit u h10 w
    · have hd : decide (u < 10) = false := decide_eq_false h10
      have hd2 : decide ((u : Int) < 10) = false := decide_eq_false (by omega)
      have hs : digs u = digs (u / 10) ++ digs (u % 10) := by
        unfold digs
        rw [Lib.decDigits, dif_neg h10, Lib.decDigits_one (Nat.mod_lt _ (by decide))]
      have Hs := Lib.hid hs
      have hl := digs_len (u / 10) (by omega)
      have hl2 := digs_len (u % 10) (by omega)
      have IH := Lib.hid ih
      have e1 : Int.tdiv (u : Int) 10 = ((u / 10 : Nat) : Int) := by rw [Int.tdiv_eq_ediv_of_nonneg (by omega)]; rfl
      have e2 : Int.tmod (u : Int) 10 = ((u % 10 : Nat) : Int) := by rw [Int.tmod_eq_emod_of_nonneg (by omega)]; rfl
      have hq := Lib.hid (show u / 10 < n ∧ u / 10 < 18446744073709551616 by omega)
      have hr : u % 10 < 10 := by omega
      have Hr := Lib.hid hr
      have ha : ∀ w, (Op.stringOp .add (strO (digs (u / 10))) (strO (digs (u % 10)))).run Tryd.prog w = .ok (.string (strO (digs u))) w := fun w => by rw [Hs.out]; exact addS _ _ (by omega) (by omega) w
      clear hs ih h
      go_enter Tryd.func35, Tryd.ntmps35
      go_wp2_with fail
      refine (IH.out (u / 10) w hq.out.1 hq.out.2).mono ?_
      rintro e w1 ⟨rfl, rfl⟩
      go_wp2_with fail
      refine (r2digit (u % 10) Hr.out w).mono ?_
      rintro e w1 ⟨rfl, rfl⟩
      go_wp2_with fail
      go_ret
      exact ⟨rfl, rfl⟩
set_option maxHeartbeats 400000 in
theorem r2part_calls (x : Nd) (k : Nat) (w : World) : Calls Tryd.prog 34 #[x.val, .int .i64 k] w fun e w' => e = .returned (.int .i64 (x.part k)) ∧ Below w.heap.size w w' := by
  unfold Nd.val
  have hb := (Below.refl w.heap.size w).alloc (Nat.le_refl _) (.cells #[.int .i64 x.kind, .int .u64 x.n, .int .i64 x.a, .int .i64 x.b, .int .i64 x.c] 59)
  match k with
  | 0 =>
    go_enter Tryd.func34, Tryd.ntmps34
    go_wp2
    go_ret
    exact ⟨rfl, hb⟩
  | 1 =>
    go_enter Tryd.func34, Tryd.ntmps34
    go_wp2
    go_ret
    exact ⟨rfl, hb⟩
  | k + 2 =>
    have h0 : (((k + 2 : Nat) : Int) == 0) = false := by simp; omega
    have h1 : (((k + 2 : Nat) : Int) == 1) = false := by simp; omega
    have Hp := Lib.hid (show x.part (k + 2) = x.c from rfl)
    generalize ((k + 2 : Nat) : Int) = q at *
    go_enter Tryd.func34, Tryd.ntmps34
    go_wp2
    go_ret
    exact ⟨by rw [Hp.out]; rfl, hb⟩
/-- Where a ref is in a row. -/
def atI (l : List Int) (x : Int) : Int := if x ∈ l then (l.idxOf x : Nat) else -1
set_option maxHeartbeats 800000 in
set_option maxRecDepth 100000 in
theorem r2at_calls (A : Option Addr) (c : Nat) (l : List Int) (x : Int) (w : World) (hl : l.length ≤ 65536) (hA : Holds w A (intsV l)) : Calls Tryd.prog 33 #[.slice A l.length c, .int .i64 x] w fun e w' => e = .returned (.int .i64 (atI l x)) ∧ w = w' := by
  have HA := Lib.hid hA
  clear hA
  go_enter Tryd.func33, Tryd.ntmps33
  go_wp2_with fail
  go_loopw [5] (fun i wr => ∃ k : Nat, k ≤ l.length ∧ i = .int .i64 k ∧ Hid (x ∉ l.take k) ∧ w = wr) (fun i _ => l.length - (intOf i).toNat)
  case atStart => exact ⟨0, by omega, rfl, Lib.hid (by simp), rfl⟩
  case round =>
    obtain ⟨k, hk, rfl, hn, rfl⟩ := hrel
    by_cases hlt : k < l.length
    · obtain ⟨y, hy⟩ : ∃ y, l[k]? = some y := ⟨_, List.getElem?_eq_getElem hlt⟩
      obtain ⟨gb, gk, rfl, hc⟩ : ∃ b o, A = some ⟨b, o, none⟩ ∧ w.cell? ⟨b, o + k, none⟩ = some (.int .i64 y) := by
        obtain ⟨b, o, e3, e4⟩ := intsV_at HA.out hlt
        rw [List.getElem?_eq_getElem hlt] at hy
        exact ⟨b, o, e3, by rw [e4]; exact congrArg (fun z => some (Value.int .i64 z)) (by cases hy; rfl)⟩
      have hik : (k : Int) < l.length := by omega
      have Hy := Lib.hid hy
      have Hlt := Lib.hid hlt
      clear hy hk hlt
      by_cases hxy : y = x
      · subst hxy
        have hidx : Hid (atI l y = k) := Lib.hid (by
          have hm := List.mem_of_getElem? Hy.out
          unfold atI
          rw [if_pos hm]
          have h1 : l = l.take k ++ y :: l.drop (k + 1) := by
            conv => lhs; rw [← List.take_append_drop k l]
            congr 1
            rw [List.drop_eq_getElem_cons Hlt.out]
            have := Hy.out; rw [List.getElem?_eq_getElem Hlt.out] at this; cases this; rfl
          rw [h1, List.idxOf_append, if_neg hn.out]
          have : (l.take k).length = k := by have := Hlt.out; simp; omega
          simp [this])
        go_wp2_with fail
        go_ret
        exact ⟨by rw [hidx.out]; rfl, rfl⟩
      · have hne : (y == x) = false := by simpa using hxy
        have hn2 : Hid (x ∉ l.take (k + 1)) := Lib.hid (by
          rw [List.take_add_one, Hy.out]
          intro h
          rcases List.mem_append.1 h with h | h
          · exact hn.out h
          · simp at h; exact hxy h.symm)
        have hk1 := Hlt.out
        clear hn hxy
        go_wp2_with fail
        refine ⟨⟨k + 1, by omega, by go_num, hn2, trivial⟩, ?_⟩
        simp [intOf]; omega
    · obtain rfl : k = l.length := by omega
      have hidx : Hid (atI l x = -1) := Lib.hid (by
        have h := hn.out
        rw [List.take_length] at h
        unfold atI; rw [if_neg h])
      clear hn hk hlt
      go_wp2_with fail
      go_ret
      exact ⟨by rw [hidx.out]; rfl, rfl⟩
end Go.Proofs.YtfelbecofbdeaaaDoor
