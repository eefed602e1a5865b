/- What is written of a ref is read in its own arena as the ref, and nothing is made. No program in sight. -/
import Derived.Test.YtfelbecofbdeaaaGreatDoorR2
import Derived.Test.YtfelbecofbdeaaaGreatDoorCRead
namespace Go.Proofs.YtfelbecofbdeaaaGreatDoor
open Go.RowKit

theorem build_self {A : Ar} (hA : ArOk A) {rows : List Int} (hr : Refs A.l rows) (hcl : ∀ (k : Nat) (y : Int), rows[k]? = some y → ∀ p ∈ kids (nd A.l y), p ∈ rows.take k) (hlen : rows.length ≤ 65536) :
    ∀ (ys had : List Int), rows = had ++ ys → buildF (ys.map fun y => strO (rowB rows (nd A.l y))) A had = (A, rows.getLastD 0, 0)
  | [], had, h => by rw [List.append_nil] at h; subst h; rfl
  | y :: ys, had, h => by
    have hat : rows[had.length]? = some y := by rw [h]; simp
    have htk : rows.take had.length = had := by rw [h]; simp
    have hyl := hr.has y (List.mem_of_getElem? hat)
    have hkd := hcl _ _ hat
    have hfit := hA.wf.fits _ (nd_mem hyl)
    have hval := hA.wf.valid _ (nd_mem hyl)
    have hhl : had.length ≤ 65536 := by have := congrArg List.length h; rw [List.length_append] at this; omega
    have hrow := row_digs (rows := rows) (had := had) (n := nd A.l y) hhl hfit (fun p hp => idx_take (hkd p hp))
    have hp : ∀ p ∈ kids (nd A.l y), mp rows had p = p := fun p hp => by
      have hm := hkd p hp
      rw [htk] at hm
      have h2 : rows.idxOf p = had.idxOf p := by rw [h, List.idxOf_append, if_pos hm]
      have h3 := List.idxOf_lt_length_of_mem hm
      unfold mp
      rw [h2, List.getD_eq_getElem?_getD, List.getElem?_eq_getElem h3]
      simp
    have hmk : mk A (nd A.l y) = (A, y, 0) := mk_there hA.wf (hA.right _ (nd_mem hyl)) hyl rfl
    have hmp : mpN rows had (nd A.l y) = nd A.l y := by
      generalize nd A.l y = n at *
      refine nd_ext rfl ?_ (fun k hk => ?_)
      · show ((n.n.toNat : Nat) : Int) = n.n; omega
      · rw [mpN_part _ _ _ _ hk]
        by_cases hkm : k < many n.kind
        · rw [if_pos hkm]; exact hp _ (List.mem_of_getElem? (kid_part hkm))
        · rw [if_neg hkm]
          match k, hk with
          | 0, _ => exact (hval.2.1 (by omega)).symm
          | 1, _ => exact (hval.2.2.1 (by omega)).symm
          | 2, _ => exact (hval.2.2.2 (by omega)).symm
    rw [List.map_cons, buildF, hrow]
    simp only [hmp, hmk]
    rw [if_neg (by decide), if_neg (by decide)]
    exact build_self hA hr hcl hlen ys (had ++ [y]) (by rw [h]; simp)
theorem buildA_self {A : Ar} (hA : ArOk A) (hl : A.l.length ≤ 65536) {x : Int} (hx : has A.l x = true) : buildA A (strO (text A.l x)) = (A, x, 0) := by
  have hr := rows_refs hA.wf (Refs.nil A.l) x
  obtain ⟨t, ht⟩ := rows_last hA.wf hx
  have hsp : splitL 59 (text A.l x) = ((rowsA A.l [] x).map fun y => rowB (rowsA A.l [] x) (nd A.l y)) ++ [[]] := by unfold text; rw [split_text]
  have hb : buildA A (strO (text A.l x)) = buildF ((rowsA A.l [] x).map fun y => strO (rowB (rowsA A.l [] x) (nd A.l y))) A [] := by
    unfold buildA
    rw [splitS_eq, hsp, List.map_append, List.map_map, if_neg]
    · rw [show ([[]] : List (List UInt8)).map strO = [strO []] from rfl, List.dropLast_concat]; rfl
    · rw [not_or]
      refine ⟨by rw [ht]; simp, ?_⟩
      rw [List.getLastD_eq_getLast?]; simp [strO]
  rw [hb, build_self hA hr (rows_closed hA.wf x) (Nat.le_trans hr.length hl) (rowsA A.l [] x) [] (List.nil_append _).symm, ht]
  simp [List.getLastD_eq_getLast?]
theorem read_self {A : Ar} (hA : ArOk A) (hl : A.l.length ≤ 60) (hroom : A.l.length + A.l.length ≤ A.limit) {x : Int} (hx : has A.l x = true) : readA A (strO (text A.l x)) = (A, x, 0) := by
  obtain ⟨B, hB⟩ := read_own hA hl hroom hx
  have hs := buildA_self hA (by omega) hx
  unfold readA at hB ⊢
  simp only [hs] at hB ⊢
  by_cases h1 : 16384 < (strO (text A.l x)).size
  · rw [if_pos h1] at hB; simp at hB
  · rw [if_neg h1] at hB ⊢
    by_cases h2 : (buildA (newAr 65536) (strO (text A.l x))).2.2 ≠ 0 ∨ text (buildA (newAr 65536) (strO (text A.l x))).1.l (buildA (newAr 65536) (strO (text A.l x))).2.1 ≠ (strO (text A.l x)).data.toList
    · rw [if_pos h2] at hB; simp at hB
    · rw [if_neg h2]; simp
/-! A thing put to the front, and back in its place; Read of layer 2 wherever the arena stands. -/
theorem Own.toFront {w0 w : World} {L : List Thing} {P : Thing} (h : Own w0 w L) (i : Nat) (hi : L[i]? = some P) : Own w0 w (P :: L.eraseIdx i) := by
  have hil := idx_lt hi
  refine h.pull (fun j => if j = 0 then i else if j - 1 < i then j - 1 else j) (fun j Q hj => ?_) (fun j k hj hk => ?_)
  · match j, hj with
    | 0, hj => simp only [if_true]; rw [hi]; simpa using hj
    | j + 1, hj =>
      rw [List.getElem?_cons_succ, List.getElem?_eraseIdx] at hj
      simp only [Nat.add_eq_zero_iff, Nat.succ_ne_self, and_false, if_false, Nat.add_sub_cancel]
      split at hj
      · rename_i h1; rw [if_pos h1]; exact hj
      · rename_i h1; rw [if_neg h1]; exact hj
  · intro he
    split at he <;> split at he <;> (try split at he) <;> (try split at he) <;> omega
theorem Own.unfront {w0 w : World} {L : List Thing} {Q : Thing} (i : Nat) (h : Own w0 w (Q :: L.eraseIdx i)) (hil : i < L.length) : Own w0 w (L.set i Q) := by
  refine h.pull (fun j => if j = i then 0 else if j < i then j + 1 else j) (fun j P hj => ?_) (fun j k hj hk => ?_)
  · rw [List.getElem?_set] at hj
    by_cases e : i = j
    · subst e
      rw [if_pos rfl, if_pos hil] at hj
      simpa using hj
    · rw [if_neg e] at hj
      simp only [if_neg (Ne.symm e)]
      by_cases h1 : j < i
      · rw [if_pos h1, List.getElem?_cons_succ, List.getElem?_eraseIdx, if_pos h1]; exact hj
      · rw [if_neg h1]
        obtain ⟨m, rfl⟩ : ∃ m, j = m + 1 := ⟨j - 1, by omega⟩
        rw [List.getElem?_cons_succ, List.getElem?_eraseIdx, if_neg (by omega)]; exact hj
  · intro he
    split at he <;> split at he <;> (try split at he) <;> (try split at he) <;> omega
theorem readI_calls {w0 w : World} {L : List Thing} {r : Nat} {A : Ar} (h : Own w0 w L) (he : Env w0) (i : Nat) (hi : L[i]? = some (arena r A)) (s : ByteArray) (hs : s.size ≤ maxLen) :
    Calls Tryz.prog 8 #[.pointer (some ⟨r, 0, none⟩), .string s] w fun e w' => e = .returned (.tuple #[.int .i64 (readA A s).2.1, .int .i64 (readA A s).2.2]) ∧ Own w0 w' (L.set i (arena r (readA A s).1)) :=
  (read_calls (h.toFront i hi) he s hs).mono fun _ _ ⟨h1, h2⟩ => ⟨h1, h2.unfront i (idx_lt hi)⟩
end Go.Proofs.YtfelbecofbdeaaaGreatDoor
