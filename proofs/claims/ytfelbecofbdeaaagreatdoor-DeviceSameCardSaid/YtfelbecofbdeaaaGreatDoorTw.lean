/- Reading what was written; reading again. No program in sight. -/
import Derived.Test.YtfelbecofbdeaaaGreatDoorDg
import Derived.Test.YtfelbecofbdeaaaGreatDoorRef6
namespace Go.Proofs.YtfelbecofbdeaaaGreatDoor
open Go.RowKit

theorem arOk_bA (limit : Int) : ∀ (xs : List Nd), (∀ x ∈ xs, x.u64) → ∀ A, ArOk A → ArOk (xs.foldl (fun A x => (mk A x).1) A) ∧ (xs.foldl (fun A x => (mk A x).1) A).l.length ≤ A.l.length + xs.length ∧ (xs.foldl (fun A x => (mk A x).1) A).limit = A.limit
  | [], _, A, h => ⟨h, by simp, rfl⟩
  | x :: xs, hu, A, h => by
    have hx := hu x (by simp)
    have h1 := arOk_mk h hx.1 hx.2
    have h2 := arOk_bA limit xs (fun y hy => hu y (by simp [hy])) _ h1.1
    have h3 : (mk A x).1.l.length ≤ A.l.length + 1 := by
      unfold mk
      split
      · exact Nat.le_succ _
      · split
        · exact Nat.le_succ _
        · split
          · exact Nat.le_succ _
          · simp
    simp only [List.foldl_cons, List.length_cons]
    exact ⟨h2.1, by omega, h2.2.2.trans h1.2.2⟩
theorem text_none {l : List Nd} {x : Int} (w : Wf l) (h : has l x = false) : text l x = [] := by unfold text; rw [rows_none w h]; rfl
theorem build_empty (A : Ar) : buildA A (strO []) = (A, 0, 2) := by
  unfold buildA
  rw [splitS_eq, if_pos (.inl (by simp [splitL]))]
theorem read_empty (A : Ar) : readA A (strO []) = (A, 0, 2) := by
  unfold readA
  rw [if_neg (by simp [strO, ByteArray.size])]
  simp only [build_empty]
  rw [if_pos (.inl (by simp))]
theorem read_written {l : List Nd} (w : Wf l) (hR : ∀ n ∈ l, right l n = true) (hl : l.length ≤ 60) {x : Int} (hx : has l x = true) {A : Ar} (hA : ArOk A) (hroom : A.l.length + l.length ≤ A.limit) :
    ∃ A' φ, readA A (strO (text l x)) = (A', φ x, 0) ∧ ArOk A' ∧ A.l <+: A'.l ∧ Emb l A'.l φ (fun y => y ∈ rowsA l [] x) := by
  have hr := rows_refs w (Refs.nil l) x
  have hlen := hr.length
  have htl := textR_len w (rows := rowsA l [] x) (by omega) (rowsA l [] x) hr.has
  obtain ⟨O, ψ, o1, o2, o3, o4⟩ := back_buildA w hR (by omega) hx (arOk_new 65536) (.inl (by show 1 + _ ≤ 65536; omega))
  obtain ⟨A', φ, a1, a2, a3, a4⟩ := back_buildA w hR (by omega) hx hA (.inl (by omega))
  refine ⟨A', φ, ?_, a2, a3, a4⟩
  have ht := o4.text w o2.wf (rows_mem w hx)
  unfold readA
  rw [if_neg (by rw [size_str]; unfold text; omega)]
  simp only [o1, a1]
  rw [if_neg (by rw [ht, strO_data]; simp), if_neg (by simp)]
theorem mk_zero {A : Ar} {x : Nd} (h : (mk A x).2.2 = 0) : right A.l x = true := by
  unfold mk at h
  by_cases hr : right A.l x = false
  · rw [if_pos hr] at h; cases h
  · simpa using hr
theorem mk_room (A : Ar) (x : Nd) : (A.l.length ≤ A.limit → (mk A x).1.l.length ≤ A.limit) ∧ (mk A x).1.limit = A.limit := by
  unfold mk
  split
  · exact ⟨id, rfl⟩
  · split
    · exact ⟨id, rfl⟩
    · split
      · exact ⟨id, rfl⟩
      · refine ⟨fun _ => ?_, rfl⟩
        simp only [List.length_append, List.length_singleton]; omega
theorem mk_there {A : Ar} (w : Wf A.l) {x : Nd} {r : Int} (hr : right A.l x = true) (hh : has A.l r = true) (hx : nd A.l r = x) : mk A x = (A, r, 0) := by
  have hg := getElem?_of_has hh
  rw [hx] at hg
  have h0 := has_iff.1 hh
  have := mk_first (k := r.toNat) hr (fun j hj he => by
    have hjl := (List.getElem?_eq_some_iff.1 he).1
    have := (List.getElem?_inj hjl w.nodup).1 (he.trans hg.symm)
    omega) hg
  rw [this, show ((r.toNat : Nat) : Int) = r by omega]
theorem build_again : ∀ (ss : List ByteArray) (A : Ar) (had : List Int), ArOk A → (buildF ss A had).2.2 = 0 →
    ArOk (buildF ss A had).1 ∧ A.l <+: (buildF ss A had).1.l ∧ (buildF ss A had).1.limit = A.limit ∧ (A.l.length ≤ A.limit → (buildF ss A had).1.l.length ≤ A.limit) ∧
    ∀ B : Ar, Wf B.l → (buildF ss A had).1.l <+: B.l → buildF ss B had = (B, (buildF ss A had).2.1, 0)
  | [], A, had, hA, _ => ⟨hA, List.prefix_rfl, rfl, id, fun B _ _ => rfl⟩
  | s :: ss, A, had, hA, h => by
    simp only [buildF] at h ⊢
    cases hp : rowP had (splitS 32 s) with
    | none => rw [hp] at h; cases h
    | some n =>
      rw [hp] at h
      simp only at h ⊢
      have hu := rowP_u64 hp
      have hmk := arOk_mk hA hu.1 hu.2
      have hrm := mk_room A n
      by_cases h1 : (mk A n).2.2 = 1
      · rw [if_pos h1] at h; cases h
      · rw [if_neg h1] at h ⊢
        by_cases h2 : (mk A n).2.2 ≠ 0
        · rw [if_pos h2] at h; exact absurd h h2
        · rw [if_neg h2] at h ⊢
          have h3 : (mk A n).2.2 = 0 := by simpa using h2
          have hright := mk_zero h3
          obtain ⟨i1, i2, i3, i4, i5⟩ := build_again ss _ _ hmk.1 h
          have hpre := hmk.2.1.trans i2
          refine ⟨i1, hpre, i3.trans hrm.2, fun hl => by rw [hrm.2] at i4; exact i4 (hrm.1 hl), fun B hB hpB => ?_⟩
          rcases mk_right hright with ⟨e, _⟩ | ⟨_, hh, hn, _⟩
          · rw [h3] at e; cases e
          · have hpB2 := i2.trans hpB
            have hrB := right_pre hA.wf hB (hpre.trans hpB) hright
            have hm := mk_there hB hrB (has_pre hpB2 hh) (by rw [nd_pre hpB2 hh]; exact hn)
            rw [hm]
            simp only [show ¬ ((0 : Int) = 1) by decide, if_false, ne_eq, not_true_eq_false]
            exact i5 B hB hpB
theorem buildA_again {A : Ar} {s : ByteArray} (hA : ArOk A) (h : (buildA A s).2.2 = 0) :
    ArOk (buildA A s).1 ∧ (buildA A s).1.limit = A.limit ∧ (A.l.length ≤ A.limit → (buildA A s).1.l.length ≤ A.limit) ∧ buildA (buildA A s).1 s = ((buildA A s).1, (buildA A s).2.1, 0) := by
  unfold buildA at h ⊢
  by_cases hc : (splitS 59 s).length < 2 ∨ (splitS 59 s).getLastD ⟨#[]⟩ ≠ ⟨#[]⟩
  · rw [if_pos hc] at h; cases h
  · simp only [if_neg hc] at h ⊢
    obtain ⟨h1, _, h3, h4, h5⟩ := build_again _ A [] hA h
    exact ⟨h1, h3, h4, h5 _ h1.wf List.prefix_rfl⟩
/-- What was read is read again the same; and it is the text of what was read. -/
theorem read_twice {A : Ar} (hA : ArOk A) (s : ByteArray) : readA (readA A s).1 s = readA A s ∧ ((readA A s).2.2 = 0 → strO (text (readA A s).1.l (readA A s).2.1) = s) := by
  by_cases h1 : 16384 < s.size
  · have e : ∀ B : Ar, readA B s = (B, 0, 2) := fun B => by unfold readA; rw [if_pos h1]
    rw [e A]; exact ⟨e A, fun h => by cases h⟩
  · by_cases h2 : (buildA (newAr 65536) s).2.2 ≠ 0 ∨ text (buildA (newAr 65536) s).1.l (buildA (newAr 65536) s).2.1 ≠ s.data.toList
    · have e : ∀ B : Ar, readA B s = (B, 0, 2) := fun B => by unfold readA; rw [if_neg h1]; simp only; rw [if_pos h2]
      rw [e A]; exact ⟨e A, fun h => by cases h⟩
    · have e : ∀ B : Ar, readA B s = if (buildA B s).2.2 ≠ 0 then (B, 0, (buildA B s).2.2) else buildA B s := fun B => by unfold readA; rw [if_neg h1]; simp only; rw [if_neg h2]
      by_cases h3 : (buildA A s).2.2 ≠ 0
      · have ea : readA A s = (A, 0, (buildA A s).2.2) := by rw [e, if_pos h3]
        rw [ea]; exact ⟨ea, fun h => absurd h h3⟩
      · have ea : readA A s = buildA A s := by rw [e, if_neg h3]
        have h3 : (buildA A s).2.2 = 0 := by simpa using h3
        obtain ⟨b1, b2, b3, b4⟩ := buildA_again hA h3
        rw [ea]
        refine ⟨?_, fun _ => ?_⟩
        · rw [e, b4, if_neg (by simp)]
          exact Prod.ext rfl (Prod.ext rfl h3.symm)
        · rw [not_or] at h2
          have h4 : (buildA (newAr 65536) s).2.2 = 0 := by simpa using h2.1
          have h5 : text (buildA (newAr 65536) s).1.l (buildA (newAr 65536) s).2.1 = s.data.toList := by simpa using h2.2
          obtain ⟨o1, o2, o3, -⟩ := buildA_again (arOk_new 65536) h4
          have o4 : (buildA (newAr 65536) s).1.l.length ≤ 65536 := o3 (by decide)
          generalize hO : (buildA (newAr 65536) s).1 = O at *
          generalize hX : (buildA (newAr 65536) s).2.1 = X at *
          have hs : s = strO (text O.l X) := by rw [h5, strO_toList]
          cases hh : has O.l X with
          | false =>
            rw [text_none o1.wf hh] at hs
            rw [hs, build_empty] at h4; cases h4
          | true =>
            rw [hs] at h3
            obtain ⟨A', φ, a1, a2, a3, a4⟩ := back_buildA o1.wf o1.right o4 hh hA (.inr h3)
            rw [hs, a1]
            rw [a4.text o1.wf a2.wf (rows_mem o1.wf hh)]
/-- Two of one arena have one text just if they are the same. -/
theorem text_apart {A : Ar} (hA : ArOk A) (hl : A.l.length ≤ 60) (hroom : A.l.length + A.l.length ≤ A.limit) {x y : Int} (hx : has A.l x = true) (hy : has A.l y = true) : text A.l x = text A.l y ↔ x = y := by
  refine ⟨fun h => ?_, fun h => by rw [h]⟩
  obtain ⟨B, φ, b1, b2, b3, b4⟩ := read_written hA.wf hA.right hl hx hA hroom
  obtain ⟨C, ψ, c1, c2, c3, c4⟩ := read_written hA.wf hA.right hl hy hA hroom
  rw [h, c1] at b1
  have e1 := b4.own hA.wf b2.wf b3 (x.toNat + 1) x (by omega) (rows_mem hA.wf hx)
  have e2 := c4.own hA.wf c2.wf c3 (y.toNat + 1) y (by omega) (rows_mem hA.wf hy)
  rw [Prod.mk.injEq, Prod.mk.injEq] at b1
  rw [← e1, ← e2]; exact b1.2.1.symm
theorem read_own {A : Ar} (hA : ArOk A) (hl : A.l.length ≤ 60) (hroom : A.l.length + A.l.length ≤ A.limit) {x : Int} (hx : has A.l x = true) : ∃ B, readA A (strO (text A.l x)) = (B, x, 0) := by
  obtain ⟨B, φ, b1, b2, b3, b4⟩ := read_written hA.wf hA.right hl hx hA hroom
  have e1 := b4.own hA.wf b2.wf b3 (x.toNat + 1) x (by omega) (rows_mem hA.wf hx)
  exact ⟨B, by rw [b1, e1]⟩
theorem read_other {A C : Ar} (hA : ArOk A) (hl : A.l.length ≤ 60) (hC : ArOk C) (hroom : C.l.length + A.l.length ≤ C.limit) {x : Int} (hx : has A.l x = true) :
    ∃ D y, readA C (strO (text A.l x)) = (D, y, 0) ∧ text D.l y = text A.l x := by
  obtain ⟨B, φ, b1, b2, b3, b4⟩ := read_written hA.wf hA.right hl hx hC hroom
  exact ⟨B, φ x, b1, b4.text hA.wf b2.wf (rows_mem hA.wf hx)⟩
theorem bA_ok (limit : Int) (xs : List Nd) (hu : ∀ x ∈ xs, x.u64) : ArOk (bA limit xs) ∧ (bA limit xs).l.length ≤ 1 + xs.length ∧ (bA limit xs).limit = (newAr limit).limit :=
  arOk_bA limit xs hu (newAr limit) (arOk_new limit)
end Go.Proofs.YtfelbecofbdeaaaGreatDoor
