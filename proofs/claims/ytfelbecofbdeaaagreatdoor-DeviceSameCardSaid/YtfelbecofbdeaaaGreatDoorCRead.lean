/- Read and Size of layer 2. -/
import Derived.Test.YtfelbecofbdeaaaGreatDoorCBuild
import Derived.Test.YtfelbecofbdeaaaGreatDoorCCopy
import Derived.Test.YtfelbecofbdeaaaGreatDoorCWrite
namespace Go.Proofs.YtfelbecofbdeaaaGreatDoor
open Go.RowKit

theorem copy_own {w0 w : World} {L : List Thing} (h : Own w0 w L) (i : Nat) {r : Nat} {A : Ar} (hi : L[i]? = some (arena r A)) : Calls Tryz.prog 31 #[.pointer (some ⟨r, 0, none⟩)] w fun e w' => ∃ r', e = .returned (.pointer (some ⟨r', 0, none⟩)) ∧ Own w0 w' (arena r' A :: L) := by
  obtain ⟨S, hr⟩ := h.arena hi
  exact (copy_calls hr).mono fun e w' ⟨r', S', h1, h2, h3, h4⟩ => ⟨r', h1, h.new h3 (Q := arena r' A) h2 h4⟩
theorem write_own {w0 w : World} {L : List Thing} (h : Own w0 w L) (he : Env w0) (i : Nat) {r : Nat} {A : Ar} (hi : L[i]? = some (arena r A)) (x : Int) : Calls Tryz.prog 24 #[.pointer (some ⟨r, 0, none⟩), .int .i64 x] w fun e w' => e = .returned (.string (strO (text A.l x))) ∧ Own w0 w' L := by
  obtain ⟨S, hr⟩ := h.arena hi
  exact (write_calls hr (he.below h.below) x).mono fun e w' ⟨h1, h2⟩ => ⟨h1, h.call h2⟩
theorem rows_own {w0 w : World} {L : List Thing} (h : Own w0 w L) (i : Nat) {r : Nat} {A : Ar} (hi : L[i]? = some (arena r A)) (x : Int) : Calls Tryz.prog 55 #[.pointer (some ⟨r, 0, none⟩), .int .i64 x] w fun e w' => ∃ v, e = .returned v ∧ Own w0 w' (rowT 3 1 v (rowsA A.l [] x).length (intsV (rowsA A.l [] x)) :: L) := by
  obtain ⟨S, hr⟩ := h.arena hi
  exact (rows_calls hr x).mono fun e w' ⟨v, h1, h2, h3⟩ => ⟨v, h1, h.newRow h3 h2⟩
set_option maxHeartbeats 400000 in
theorem size_calls {w : World} {r : Nat} {A : Ar} {S : Nat → Prop} (hA : IsArena w r A S) (x : Int) : Calls Tryz.prog 25 #[.pointer (some ⟨r, 0, none⟩), .int .i64 x] w fun e w' => e = .returned (.int .i64 (rowsA A.l [] x).length) ∧ Below w.heap.size w w' := by
  have HA := Lib.hid hA
  clear hA
  go_enter Tryz.func25, Tryz.ntmps25
  go_wp2_with fail
  refine (rows_calls HA.out x).mono ?_
  rintro e w1 ⟨v, rfl, hr, hb⟩
  obtain ⟨Av, cv, rfl⟩ := row_form' hr
  clear hr
  go_wp2_with fail
  go_ret
  exact ⟨rfl, hb⟩
theorem size_own {w0 w : World} {L : List Thing} (h : Own w0 w L) (i : Nat) {r : Nat} {A : Ar} (hi : L[i]? = some (arena r A)) (x : Int) : Calls Tryz.prog 25 #[.pointer (some ⟨r, 0, none⟩), .int .i64 x] w fun e w' => e = .returned (.int .i64 (rowsA A.l [] x).length) ∧ Own w0 w' L := by
  obtain ⟨S, hr⟩ := h.arena hi
  exact (size_calls hr x).mono fun e w' ⟨h1, h2⟩ => ⟨h1, h.call h2⟩
theorem build_own {w0 w : World} {r : Nat} {A : Ar} {M : List Thing} (h : Own w0 w (arena r A :: M)) (he : Env w0) (s : ByteArray) (hs : s.size ≤ 16384) :
    Calls Tryz.prog 30 #[.pointer (some ⟨r, 0, none⟩), .string s] w fun e w' => e = .returned (.tuple #[.int .i64 (buildA A s).2.1, .int .i64 (buildA A s).2.2]) ∧ Own w0 w' (arena r (buildA A s).1 :: M) :=
  (build_calls h he s hs).mono fun _ _ ⟨h1, h2⟩ => ⟨h1, h2⟩
def ReadPost (w0 : World) (r : Nat) (R : Ar × Int × Int) (M : List Thing) (e : Ending) (w' : World) : Prop :=
  e = .returned (.tuple #[.int .i64 R.2.1, .int .i64 R.2.2]) ∧ Own w0 w' (arena r R.1 :: M)
theorem str_eq (a : List UInt8) (s : ByteArray) : (strO a == s) = decide (a = s.data.toList) := by
  obtain ⟨⟨l⟩⟩ := s
  rw [bytes_beq, Bool.eq_iff_iff, decide_eq_true_iff, decide_eq_true_iff]
  constructor
  · intro h; have := congrArg (fun b : ByteArray => b.data.toList) h; simpa [strO] using this
  · intro h; rw [h]; rfl
set_option maxHeartbeats 1600000 in
set_option maxRecDepth 100000 in
theorem read_calls {w0 w : World} {r : Nat} {A : Ar} {M : List Thing} (h : Own w0 w (arena r A :: M)) (he : Env w0) (s : ByteArray) (hs : s.size ≤ maxLen) :
    Calls Tryz.prog 8 #[.pointer (some ⟨r, 0, none⟩), .string s] w (ReadPost w0 r (readA A s) M) := by
  have H := Lib.hid h
  have HE := Lib.hid he
  clear h he
  have hs' : s.size ≤ 9223372036854775807 := by unfold maxLen at hs; omega
  clear hs
  by_cases hl : 16384 < s.size
  · have d0 : decide ((16384 : Int) < (s.size : Int)) = true := decide_eq_true (by omega)
    have d1 : decide (16384 < s.size) = true := decide_eq_true hl
    have Hr := Lib.hid (show readA A s = (A, 0, 2) by unfold readA; rw [if_pos hl])
    go_enter Tryz.func8, Tryz.ntmps8
    go_wp2_with fail
    go_ret2
    exact ⟨by rw [Hr.out]; rfl, by rw [Hr.out]; exact H.out⟩
  · have d0 : decide ((16384 : Int) < (s.size : Int)) = false := decide_eq_false (by omega)
    have d1 : decide (16384 < s.size) = false := decide_eq_false hl
    have Hr := Lib.hid (show readA A s = if (buildA (newAr 65536) s).2.2 ≠ 0 ∨ text (buildA (newAr 65536) s).1.l (buildA (newAr 65536) s).2.1 ≠ s.data.toList then (A, 0, 2) else if (buildA A s).2.2 ≠ 0 then (A, 0, (buildA A s).2.2) else buildA A s by unfold readA; rw [if_neg hl])
    have hsz : s.size ≤ 16384 := by omega
    clear hl
    go_enter Tryz.func8, Tryz.ntmps8
    go_wp2_with fail
    refine (new_own H.out 65536).mono ?_
    rintro e w1 ⟨r1, rfl, o1⟩
    have O1 := Lib.hid o1
    clear o1
    go_wp2_with fail
    refine (build_own O1.out HE.out s hsz).mono ?_
    rintro e w2 ⟨rfl, o2⟩
    have O2 := Lib.hid o2
    clear o2
    generalize buildA (newAr 65536) s = R1 at *
    obtain ⟨A1, x1, e1⟩ := R1
    dsimp only at *
    by_cases he1 : e1 = 0
    · subst he1
      go_wp2_with fail
      refine (write_own O2.out HE.out 0 rfl x1).mono ?_
      rintro e w3 ⟨rfl, o3⟩
      have O3 := Lib.hid o3
      clear o3
      have heq := str_eq (text A1.l x1) s
      generalize text A1.l x1 = T at *
      by_cases hT : T = s.data.toList
      · have d2 : (strO T == s) = true := by rw [heq]; exact decide_eq_true hT
        have d3 : ((strO T).toList == s.toList) = true := by rw [← beq_toListBytes]; exact d2
        have Hr1 := Lib.hid (show readA A s = if (buildA A s).2.2 ≠ 0 then (A, 0, (buildA A s).2.2) else buildA A s by rw [Hr.out, if_neg (by simp [hT])])
        clear hT heq
        go_wp2_with fail
        refine (copy_own O3.out 1 rfl).mono ?_
        rintro e w4 ⟨r4, rfl, o4⟩
        have O4 := Lib.hid o4
        clear o4
        go_wp2_with fail
        refine (build_own O4.out HE.out s hsz).mono ?_
        rintro e w5 ⟨rfl, o5⟩
        have o5' : Own w0 w5 (arena r A :: M) := o5.tail.tail
        have O5 := Lib.hid o5'
        clear o5 o5'
        generalize hB : buildA A s = R5 at *
        have HB := Lib.hid hB
        obtain ⟨A5, x5, e5⟩ := R5
        clear hB
        dsimp only at *
        by_cases he5 : e5 = 0
        · subst he5
          have Hr2 := Lib.hid (show readA A s = (A5, x5, 0) by rw [Hr1.out, if_neg (by simp)])
          go_wp2_with fail
          refine (build_own O5.out HE.out s hsz).mono ?_
          rintro e w6 ⟨rfl, o6⟩
          rw [HB.out] at o6 ⊢
          have O6 := Lib.hid o6
          clear o6
          dsimp only
          go_wp2_with fail
          go_ret2
          exact ⟨by rw [Hr2.out]; rfl, by rw [Hr2.out]; exact O6.out⟩
        · have d4 : (e5 != 0) = true := by rw [bne_iff_ne]; exact he5
          have Hr2 := Lib.hid (show readA A s = (A, 0, e5) by rw [Hr1.out, if_pos he5])
          clear he5
          go_wp2_with fail
          go_ret2
          exact ⟨by rw [Hr2.out]; rfl, by rw [Hr2.out]; exact O5.out⟩
      · have d2 : (strO T == s) = false := by rw [heq]; exact decide_eq_false hT
        have d3 : ((strO T).toList == s.toList) = false := by rw [← beq_toListBytes]; exact d2
        have Hr1 := Lib.hid (show readA A s = (A, 0, 2) by rw [Hr.out, if_pos (.inr hT)])
        clear hT heq
        go_wp2_with fail
        go_ret2
        exact ⟨by rw [Hr1.out]; rfl, by rw [Hr1.out]; exact O3.out.tail⟩
    · have d2 : (e1 != 0) = true := by rw [bne_iff_ne]; exact he1
      have Hr1 := Lib.hid (show readA A s = (A, 0, 2) by rw [Hr.out, if_pos (.inl he1)])
      clear he1
      go_wp2_with fail
      go_ret2
      exact ⟨by rw [Hr1.out]; rfl, by rw [Hr1.out]; exact O2.out.tail⟩
end Go.Proofs.YtfelbecofbdeaaaGreatDoor
