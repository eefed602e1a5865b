/- A device's text, as plain data: what is written is read. No program in sight. -/
import Derived.Test.YtfelbecofbdeaaaGreatDoorSelf
import Derived.Test.YtfelbecofbdeaaaGreatDoorDevRun
import Derived.Test.YtfelbecofbdeaaaGreatDoorSpL
import Derived.Test.YtfelbecofbdeaaaGreatDoorCSz
import Derived.Deep.CutBlock
import Derived.Deep.DeepCutAuto
namespace Go.Proofs.YtfelbecofbdeaaaGreatDoor
open Go.RowKit

theorem split_lines (c : UInt8) : ∀ (ls : List (List UInt8)) (x : List UInt8), (∀ y ∈ x :: ls, ∀ b ∈ y, b ≠ c) → ∃ t, ((x :: ls).flatMap fun l => l ++ [c]) = t ++ [c] ∧ splitL c t = x :: ls
  | [], x, h => ⟨x, by simp, split_one c x (h x (by simp))⟩
  | y :: ls, x, h => by
    obtain ⟨t, h1, h2⟩ := split_lines c ls y (fun z hz => h z (List.mem_cons_of_mem _ hz))
    refine ⟨x ++ c :: t, ?_, ?_⟩
    · rw [List.flatMap_cons, h1]; simp
    · rw [split_app c x t (h x (by simp)), h2]
theorem trim_end (t : List UInt8) (c : UInt8) : Lib.trimSuffix (t ++ [c]) [c] = t := by
  unfold Lib.trimSuffix Lib.hasSuffix
  rw [if_pos (by rw [List.isSuffixOf_iff_suffix]; exact List.suffix_append _ _)]
  simp
theorem index_app (c : UInt8) : ∀ (a r : List UInt8), (∀ b ∈ a, b ≠ c) → Lib.index (a ++ c :: r) [c] = (a.length : Int)
  | [], r, _ => index_hit c r
  | b :: a, r, h => by
    have ih := index_app c a r (fun x hx => h x (by simp [hx]))
    rw [List.cons_append, index_other (h b (by simp)), ih, if_neg (by omega)]
    simp
theorem splitN3 (a b r : List UInt8) (ha : ∀ x ∈ a, x ≠ 32) (hb : ∀ x ∈ b, x ≠ 32) : Lib.splitN (a ++ 32 :: (b ++ 32 :: r)) [32] 3 = [a, b, r] := by
  unfold Lib.splitN
  have h1 := index_app 32 a (b ++ 32 :: r) ha
  have h2 := index_app 32 b r hb
  have hm : min 3 ((a ++ 32 :: (b ++ 32 :: r)).length + 1) - 1 = 2 := by simp; omega
  rw [hm, Lib.splitK, h1, if_neg (by rw [beq_iff_eq]; omega)]
  have e1 : (a ++ 32 :: (b ++ 32 :: r)).drop ((a.length : Int).toNat + [(32 : UInt8)].length) = b ++ 32 :: r := by simp [List.drop_append]
  have e2 : (a ++ 32 :: (b ++ 32 :: r)).take ((a.length : Int).toNat + 0) = a := by simp
  rw [e1, e2, Lib.splitK, h2, if_neg (by rw [beq_iff_eq]; omega)]
  have e3 : (b ++ 32 :: r).drop ((b.length : Int).toNat + [(32 : UInt8)].length) = r := by simp [List.drop_append]
  have e4 : (b ++ 32 :: r).take ((b.length : Int).toNat + 0) = b := by simp
  rw [e3, e4, Lib.splitK]
theorem rowB_not10 (rows : List Int) (n : Nd) : ∀ b ∈ rowB rows n, b ≠ 10 := by
  intro b hb
  simp only [rowB, rowT1, partT, List.mem_append, List.mem_cons, List.mem_flatMap] at hb
  have h32 : b = 32 → b ≠ 10 := fun h => by subst h; decide
  rcases hb with (h | h | h) | ⟨p, _, h | h⟩
  · exact digs_not h (.inl (by decide))
  · exact h32 h
  · exact digs_not h (.inl (by decide))
  · exact h32 h
  · exact digs_not h (.inl (by decide))
theorem text_not10 (l : List Nd) (x : Int) : ∀ b ∈ text l x, b ≠ 10 := by
  intro b hb
  unfold text textR at hb
  rw [List.mem_flatMap] at hb
  obtain ⟨y, _, hy⟩ := hb
  rw [rowText_eq, List.mem_append] at hy
  rcases hy with h | h
  · exact rowB_not10 _ _ b h
  · simp at h; subst h; decide
/-- A line: a word, a number, the rest. -/
def lineB (word : List UInt8) (n : Nat) (rest : List UInt8) : List UInt8 := word ++ 32 :: (digs n ++ 32 :: rest)
abbrev Itm := Bool × Int × Int
def wordI (b : Bool) : List UInt8 := if b then [112, 115, 107] else [112, 101, 101, 114]
def devW : List UInt8 := [100, 101, 118, 105, 99, 101]
def itL (l : List Nd) (i : Itm) : List UInt8 := lineB (wordI i.1) i.2.1.toNat (text l i.2.2)
def headL (id policy : Nat) : List UInt8 := lineB devW id (digs policy)
def linesD (l : List Nd) (id policy : Nat) (its : List Itm) : List (List UInt8) := headL id policy :: its.map (itL l)
def textD (l : List Nd) (id policy : Nat) (its : List Itm) : List UInt8 := (linesD l id policy its).flatMap fun x => x ++ [10]
theorem lineB_not10 {word rest : List UInt8} {n : Nat} (hw : ∀ b ∈ word, b ≠ 10) (hr : ∀ b ∈ rest, b ≠ 10) : ∀ b ∈ lineB word n rest, b ≠ 10 := by
  intro b hb
  simp only [lineB, List.mem_append, List.mem_cons] at hb
  have h32 : b = 32 → b ≠ 10 := fun h => by subst h; decide
  rcases hb with h | h | h | h | h
  · exact hw b h
  · exact h32 h
  · exact digs_not h (.inl (by decide))
  · exact h32 h
  · exact hr b h
theorem wordI_not {c : UInt8} (h : c = 10 ∨ c = 32) (b : Bool) : ∀ x ∈ wordI b, x ≠ c := by
  rcases h with rfl | rfl <;> cases b <;> decide
theorem linesD_not10 (l : List Nd) (id policy : Nat) (its : List Itm) : ∀ y ∈ linesD l id policy its, ∀ b ∈ y, b ≠ 10 := by
  intro y hy
  rcases List.mem_cons.1 hy with rfl | hy
  · exact lineB_not10 (by decide) (fun b hb => digs_not hb (.inl (by decide)))
  · obtain ⟨i, _, rfl⟩ := List.mem_map.1 hy
    exact lineB_not10 (wordI_not (.inl rfl) _) (text_not10 _ _)
theorem textD_split (l : List Nd) (id policy : Nat) (its : List Itm) : ∃ t, textD l id policy its = t ++ [10] ∧ splitL 10 t = linesD l id policy its :=
  split_lines 10 (its.map (itL l)) (headL id policy) (linesD_not10 l id policy its)
theorem line_split3 {word rest : List UInt8} (n : Nat) (hw : ∀ b ∈ word, b ≠ 32) : Lib.splitN (lineB word n rest) [32] 3 = [word, digs n, rest] :=
  splitN3 _ _ _ hw (fun b hb => digs_not hb (.inl (by decide)))
/-- What a line does to a device. -/
def apD (D : Dv) (i : Itm) : Dv := if i.1 then ⟨D.id, D.secret, D.policy, D.peers, (pskD D i.2.1 i.2.2).1⟩ else ⟨D.id, D.secret, D.policy, (addD D i.2.1 i.2.2).1, D.psks⟩
def okD (D : Dv) (i : Itm) : Prop := if i.1 then (pskD D i.2.1 i.2.2).2 = 0 else (addD D i.2.1 i.2.2).2 = 0
def allOk : Dv → List Itm → Prop
  | _, [] => True
  | D, i :: is => okD D i ∧ allOk (apD D i) is
def itemsP (l : List Pr) : List Itm := l.flatMap fun p => (false, p.id, p.key) :: if 0 < p.psk then [(true, p.id, p.psk)] else []
def pks (l : List Pr) : List (Int × Int) := l.flatMap fun p => if 0 < p.psk then [(p.id, p.psk)] else []
structure PrsOk (l : List Pr) : Prop where
  ids : (l.map (·.id)).Nodup
  keys : (l.map (·.key)).Nodup
  fits : ∀ p ∈ l, 0 ≤ p.id ∧ p.id ≤ 999 ∧ 1 ≤ p.key ∧ 0 ≤ p.psk
  len : l.length ≤ 8
theorem pks_sub {l : List Pr} : ∀ q ∈ pks l, q.1 ∈ l.map (·.id) := by
  intro q hq
  unfold pks at hq
  rw [List.mem_flatMap] at hq
  obtain ⟨p, hp, h⟩ := hq
  split at h
  · simp at h; subst h; exact List.mem_map_of_mem hp
  · cases h
theorem pks_len (l : List Pr) : (pks l).length ≤ l.length := by
  induction l with
  | nil => simp [pks]
  | cons p l ih =>
    unfold pks at ih ⊢
    rw [List.flatMap_cons, List.length_append, List.length_cons]
    split <;> simp at * <;> omega
theorem items_ok (id secret policy : Int) : ∀ (b a : List Pr), PrsOk (a ++ b) → allOk ⟨id, secret, policy, prs a, pks a⟩ (itemsP b) ∧ (itemsP b).foldl apD ⟨id, secret, policy, prs a, pks a⟩ = ⟨id, secret, policy, prs (a ++ b), pks (a ++ b)⟩
  | [], a, _ => ⟨trivial, by simp [itemsP]⟩
  | p :: b, a, h => by
    have hf := h.fits p (by simp)
    have hl := h.len
    simp only [List.length_append, List.length_cons] at hl
    have hid : p.id ∉ a.map (·.id) := by
      have := h.ids
      rw [List.map_append, List.nodup_append] at this
      intro hm
      exact this.2.2 _ hm _ (by simp) rfl
    have hkey : p.key ∉ a.map (·.key) := by
      have := h.keys
      rw [List.map_append, List.nodup_append] at this
      intro hm
      exact this.2.2 _ hm _ (by simp) rfl
    have hlk : lk p.id (prs a) = none := lk_none fun q hq e => by
      simp only [prs, List.mem_map] at hq
      obtain ⟨r, hr, rfl⟩ := hq
      exact hid (by rw [← e]; exact List.mem_map_of_mem hr)
    have hwh : wh p.key (prs a) = none := wh_none fun q hq e => by
      simp only [prs, List.mem_map] at hq
      obtain ⟨r, hr, rfl⟩ := hq
      exact hkey (by rw [← e]; exact List.mem_map_of_mem hr)
    have hadd : addD ⟨id, secret, policy, prs a, pks a⟩ p.id p.key = (prs (a ++ [p]), 0) := by
      unfold addD
      rw [if_neg (by rw [named_ok hf.1 (by omega)]; simp; omega), hlk, hwh, if_neg (by simp), if_neg (by simp [prs]; omega), setI_new hlk]
      simp [prs]
    have hrec := items_ok id secret policy b (a ++ [p]) (by rw [List.append_assoc]; exact h)
    rw [List.append_assoc, List.singleton_append] at hrec
    have hit : itemsP (p :: b) = ((false, p.id, p.key) :: if 0 < p.psk then [(true, p.id, p.psk)] else []) ++ itemsP b := by simp [itemsP]
    rw [hit, List.cons_append]
    have hap : apD ⟨id, secret, policy, prs a, pks a⟩ (false, p.id, p.key) = ⟨id, secret, policy, prs (a ++ [p]), pks a⟩ := by simp [apD, hadd]
    by_cases hps : 0 < p.psk
    · rw [if_pos hps]
      have hlk2 : (lk p.id (prs (a ++ [p]))).isSome = true := lk_some (v := p.key) (by simp [prs])
      have hnk : lk p.id (pks a) = none := lk_none fun q hq e => hid (by rw [← e]; exact pks_sub q hq)
      have hpl := pks_len a
      have hpk : pskD ⟨id, secret, policy, prs (a ++ [p]), pks a⟩ p.id p.psk = (pks (a ++ [p]), 0) := by
        unfold pskD
        rw [hlk2, if_neg (by simp), if_neg (by omega), hnk, if_neg (by simp; omega), setI_new hnk]
        simp [pks, hps]
      have hap2 : apD ⟨id, secret, policy, prs (a ++ [p]), pks a⟩ (true, p.id, p.psk) = ⟨id, secret, policy, prs (a ++ [p]), pks (a ++ [p])⟩ := by simp [apD, hpk]
      simp only [List.singleton_append, List.cons_append, List.nil_append, allOk, List.foldl_cons, hap, hap2]
      exact ⟨⟨by simp [okD, hadd], by simp [okD, hpk], hrec.1⟩, hrec.2⟩
    · rw [if_neg hps]
      have hpp : pks (a ++ [p]) = pks a := by simp [pks, hps]
      rw [hpp] at hrec
      simp only [List.nil_append, allOk, List.foldl_cons, hap]
      exact ⟨⟨by simp [okD, hadd], hrec.1⟩, hrec.2⟩
/-- What a device's text has of its psks. -/
def itemsD (P K : List (Int × Int)) : List Itm := P.flatMap fun p => (false, p.1, p.2) :: match lk p.1 K with | some r => [(true, p.1, r)] | none => []
/-! The calls of layer 15 that write and read a device's text: line, Psk, Secret, Text, put. -/
def LinePost (word : List UInt8) (n : Nat) (rest : List UInt8) (w : World) (e : Ending) (w' : World) : Prop := e = .returned (.string (strO (lineB word n rest ++ [10]))) ∧ Below w.heap.size w w'
set_option maxHeartbeats 800000 in
theorem line_calls (word : List UInt8) (n : Nat) (rest : List UInt8) (hw : word.length ≤ 20) (hn : n < 9223372036854775808) (hr : rest.length ≤ 1000000) (w : World) (he : Env w) : Calls Tryz.prog 46 #[.string (strO word), .int .i64 n, .string (strO rest)] w (LinePost word n rest w) := by
  have hl := digs_len n (by omega)
  obtain ⟨s1, hs1⟩ : ∃ s, s = strO (word ++ [32]) := ⟨_, rfl⟩
  obtain ⟨s2, hs2⟩ : ∃ s, s = strO ((word ++ [32]) ++ digs n) := ⟨_, rfl⟩
  obtain ⟨s3, hs3⟩ : ∃ s, s = strO (((word ++ [32]) ++ digs n) ++ [32]) := ⟨_, rfl⟩
  obtain ⟨s4, hs4⟩ : ∃ s, s = strO ((((word ++ [32]) ++ digs n) ++ [32]) ++ rest) := ⟨_, rfl⟩
  obtain ⟨s5, hs5⟩ : ∃ s, s = strO (((((word ++ [32]) ++ digs n) ++ [32]) ++ rest) ++ [10]) := ⟨_, rfl⟩
  obtain ⟨sd, hsd⟩ : ∃ s, s = strO (digs n) := ⟨_, rfl⟩
  have ha1 : ∀ w, (Op.stringOp .add (strO word) ⟨#[32]⟩).run Tryz.prog w = .ok (.string s1) w := fun w => by rw [hs1]; exact addS _ [32] (by omega) (by decide) w
  have ha2 : ∀ w, (Op.stringOp .add s1 sd).run Tryz.prog w = .ok (.string s2) w := fun w => by rw [hs1, hs2, hsd]; exact addS _ _ (by simp; omega) (by omega) w
  have ha3 : ∀ w, (Op.stringOp .add s2 ⟨#[32]⟩).run Tryz.prog w = .ok (.string s3) w := fun w => by rw [hs2, hs3]; exact addS _ [32] (by simp; omega) (by decide) w
  have ha4 : ∀ w, (Op.stringOp .add s3 (strO rest)).run Tryz.prog w = .ok (.string s4) w := fun w => by rw [hs3, hs4]; exact addS _ _ (by simp; omega) (by omega) w
  have ha5 : ∀ w, (Op.stringOp .add s4 ⟨#[10]⟩).run Tryz.prog w = .ok (.string s5) w := fun w => by rw [hs4, hs5]; exact addS _ [10] (by simp; omega) (by decide) w
  have HI := Lib.hid (show Calls Tryz.prog 47 #[.int .i64 n] w (fun e w' => e = .returned (.string sd) ∧ Below w.heap.size w w') from (itoa_calls n hn w he).mono (fun e w' h => ⟨by rw [h.1, hsd]; rfl, h.2⟩))
  have HS := Lib.hid (show s5 = strO (lineB word n rest ++ [10]) by rw [hs5]; simp [lineB])
  clear hs1 hs2 hs3 hs4 hs5 hsd he hl hw hr hn
  generalize strO word = W1 at *
  generalize strO rest = R1 at *
  go_enter Tryz.func46, Tryz.ntmps46
  go_wp2_with fail
  refine HI.out.mono ?_
  rintro e w1 ⟨rfl, b1⟩
  go_wp2_with fail
  go_ret
  exact ⟨by rw [← HS.out]; rfl, b1⟩
theorem dPsk_calls {w : World} {d r1 r2 : Nat} {D : Dv} {S : Nat → Prop} (hd : w.heap[d]? = some (devObj D r1 r2)) (hs : IsStore w r2 (stI D.psks) S) (id : Int) :
    Calls Tryz.prog 18 #[.pointer (some ⟨d, 0, none⟩), .int .i64 id] w fun e w' => e = .returned (.tuple #[.int .i64 ((lk id D.psks).getD 0), .bool (lk id D.psks).isSome]) ∧ w = w' := by
  obtain ⟨c0, c1, c2, c3, c4⟩ := dev_cells hd
  have hg := sGet_calls hs id
  rw [stI, getS_encI, hasS_encI] at hg
  clear hd
  go_enter Tryz.func18, Tryz.ntmps18
  go_wp2_with fail
  refine hg.mono ?_
  rintro e w1 ⟨rfl, rfl⟩
  go_wp2_with fail
  go_ret2
  exact ⟨rfl, rfl⟩
theorem secret_calls {w : World} {d r1 r2 : Nat} {D : Dv} (hd : w.heap[d]? = some (devObj D r1 r2)) :
    Calls Tryz.prog 22 #[.pointer (some ⟨d, 0, none⟩)] w fun e w' => e = .returned (.int .i64 D.secret) ∧ w = w' := by
  obtain ⟨c0, c1, c2, c3, c4⟩ := dev_cells hd
  clear hd
  go_enter Tryz.func22, Tryz.ntmps22
  go_wp2_with fail
  go_ret
  exact ⟨rfl, rfl⟩
theorem text_len {l : List Nd} (w : Wf l) (hl : l.length ≤ 100) (x : Int) : (text l x).length ≤ 20000 := by
  cases h : has l x with
  | false => rw [text_none w h]; decide
  | true =>
    have hr := rows_refs w (Refs.nil l) x
    have h1 := textR_len w (rows := rowsA l [] x) (by have := hr.length; omega) (rowsA l [] x) (fun y hy => hr.has y hy)
    have h2 := hr.length
    unfold text; omega
/-- The lines of the first peers. -/
def textP (l : List Nd) (id policy : Nat) (P K : List (Int × Int)) : List UInt8 := textD l id policy (itemsD P K)
theorem textP_nil (l : List Nd) (id policy : Nat) (K : List (Int × Int)) : textP l id policy [] K = headL id policy ++ [10] := by simp [textP, textD, linesD, itemsD]
theorem textP_snoc (l : List Nd) (id policy : Nat) (P K : List (Int × Int)) (p : Int × Int) :
    textP l id policy (P ++ [p]) K = (textP l id policy P K ++ (itL l (false, p.1, p.2) ++ [10])) ++ (match lk p.1 K with | some r => itL l (true, p.1, r) ++ [10] | none => []) := by
  unfold textP textD linesD itemsD
  cases h : lk p.1 K <;> simp [List.flatMap_append, h]
theorem itL_len {l : List Nd} (w : Wf l) (hl : l.length ≤ 100) (i : Itm) (h0 : 0 ≤ i.2.1) (h1 : i.2.1 ≤ 999) : (itL l i ++ [10]).length ≤ 20100 := by
  have h2 := text_len w hl i.2.2
  have h3 := digs_len i.2.1.toNat (by omega)
  have h4 : (wordI i.1).length ≤ 4 := by cases i.1 <;> decide
  unfold itL lineB
  simp only [List.length_append, List.length_cons, List.length_nil]; omega
theorem textP_len {l : List Nd} (w : Wf l) (hl : l.length ≤ 100) (id policy : Nat) (hid : id ≤ 999) (hpo : policy ≤ 999) (K : List (Int × Int)) : ∀ P : List (Int × Int), (∀ p ∈ P, 0 ≤ p.1 ∧ p.1 ≤ 999) → (textP l id policy P K).length ≤ 100 + 40200 * P.length := by
  have key : ∀ (n : Nat) (P : List (Int × Int)), P.length = n → (∀ p ∈ P, 0 ≤ p.1 ∧ p.1 ≤ 999) → (textP l id policy P K).length ≤ 100 + 40200 * n := by
   intro n
   induction n with
   | zero =>
    intro P hP _
    rw [List.eq_nil_of_length_eq_zero hP, textP_nil]
    have h1 := digs_len id (by omega)
    have h2 := digs_len policy (by omega)
    unfold headL lineB devW
    simp only [List.length_append, List.length_cons, List.length_nil]; omega
   | succ n ih =>
    intro P' hP' h
    obtain ⟨P, p, rfl⟩ : ∃ P p, P' = P ++ [p] := ⟨P'.dropLast, P'.getLast (by intro e; rw [e] at hP'; cases hP'), (List.dropLast_concat_getLast _).symm⟩
    have hp := h p (by simp)
    have h1 := ih P (by simpa using hP') (fun q hq => h q (by simp [hq]))
    rw [textP_snoc]
    have h2 := itL_len w hl (false, p.1, p.2) hp.1 hp.2
    have h3 : (match lk p.1 K with | some r => itL l (true, p.1, r) ++ [10] | none => []).length ≤ 20100 := by
      cases lk p.1 K with
      | none => simp
      | some r => exact itL_len w hl (true, p.1, r) hp.1 hp.2
    rw [List.length_append, List.length_append]; omega
  exact fun P h => key P.length P rfl h
def DTextPost (w0 : World) (L : List Thing) (T : List UInt8) (e : Ending) (w' : World) : Prop := e = .returned (.string (strO T)) ∧ Own w0 w' L
set_option maxHeartbeats 3200000 in
set_option maxRecDepth 100000 in
theorem dText_calls {w0 w : World} {L : List Thing} {d r1 r2 r : Nat} {D : Dv} {A : Ar} (h : Own w0 w L) (he : Env w0) (i j k m : Nat) (hi : L[i]? = some (blk d (devObj D r1 r2))) (hj : L[j]? = some (storeT r1 (stI D.peers))) (hk : L[k]? = some (storeT r2 (stI D.psks))) (hm : L[m]? = some (arena r A))
    (idn pn : Nat) (hidn : D.id = idn) (hpn : D.policy = pn) (hid : idn ≤ 999) (hpo : pn ≤ 999) (hids : ∀ p ∈ D.peers, 0 ≤ p.1 ∧ p.1 ≤ 999) (hnd : (D.peers.map (·.1)).Nodup) (hlen : D.peers.length ≤ 8) (hwf : Wf A.l) (hA : A.l.length ≤ 100) :
    Calls Tryz.prog 16 #[.pointer (some ⟨d, 0, none⟩), .pointer (some ⟨r, 0, none⟩)] w (DTextPost w0 L (textP A.l idn pn D.peers D.psks)) := by
  have H := Lib.hid h
  have HE := Lib.hid he
  have Hwf := Lib.hid hwf
  have Hids := Lib.hid hids
  have Hnd := Lib.hid hnd
  have Hlen := Lib.hid hlen
  have HAl := Lib.hid hA
  obtain ⟨c0, c1, c2, c3, c4⟩ := dev_cells (h.blk hi)
  rw [hidn] at c0
  rw [hpn] at c2
  have ld := lt_of_heap (h.blk hi)
  have KS := Lib.hid (show ∀ w', Below w.heap.size w w' → (w'.cell? ⟨d, 0, none⟩ = some (.int .i64 idn) ∧ w'.cell? ⟨d, 2, none⟩ = some (.int .i64 pn)) from fun w' h => by
    have cc : ∀ {a : Addr} {v : Value}, w.cell? a = some v → w'.cell? a = some v := fun {a v} hc => (h.cell (World.block_lt_of_cell? w _ hc)).trans hc
    exact ⟨cc c0, cc c2⟩)
  have hbb : Below w.heap.size w w := Below.refl _ _
  obtain ⟨sp, hsp⟩ : ∃ s, s = strO (digs pn) := ⟨_, rfl⟩
  have HIt := Lib.hid (show ∀ w', Below w.heap.size w w' → Calls Tryz.prog 47 #[.int .i64 pn] w' (fun e w'' => e = .returned (.string sp) ∧ Below w'.heap.size w' w'') from fun w' hb =>
    (itoa_calls pn (by omega) w' (HE.out.below (H.out.call hb).below)).mono fun e w'' h => ⟨by rw [h.1, hsp]; rfl, h.2⟩)
  have HLi := Lib.hid (show ∀ w', Below w.heap.size w w' → Calls Tryz.prog 46 #[.string ⟨#[100, 101, 118, 105, 99, 101]⟩, .int .i64 idn, .string sp] w' (fun e w'' => e = .returned (.string (strO (headL idn pn ++ [10]))) ∧ Below w'.heap.size w' w'') from fun w' hb => by
    rw [hsp]
    exact line_calls devW idn (digs pn) (by decide) (by omega) (by have := digs_len pn (by omega); omega) w' (HE.out.below (H.out.call hb).below))
  have Hsp := Lib.hid hsp
  have HH : Hid (textP A.l idn pn [] D.psks = headL idn pn ++ [10]) := Lib.hid (textP_nil _ _ _ _)
  rw [← HH.out] at HLi
  clear h he hwf hids hnd hlen hA hsp HH
  go_enter Tryz.func16, Tryz.ntmps16
  go_wp2_with fail
  go_cut [5] (fun s wx => s = .string (strO (textP A.l idn pn [] D.psks)) ∧ Below w.heap.size w wx)
  case first =>
    go_region_held3 (fun w' => w'.cell? ⟨d, 0, none⟩ = some (.int .i64 idn) ∧ w'.cell? ⟨d, 2, none⟩ = some (.int .i64 pn))
      (first | exact KS.out _ (by repeat (first | with_reducible assumption | with_reducible refine Below.drew ?_ | with_reducible refine belowAlloc ?_ _)))
      (first
        | (go_at_call 47; with_reducible refine (HIt.out _ (by repeat (first | with_reducible assumption | with_reducible refine Below.drew ?_ | with_reducible refine belowAlloc ?_ _))).mono ?_; rintro e wa ⟨rfl, hba⟩; have hxa : Below w.heap.size w wa := below_call (by repeat (first | with_reducible assumption | with_reducible refine Below.drew ?_ | with_reducible refine belowAlloc ?_ _)) hba)
        | (go_at_call 46; with_reducible refine (HLi.out _ (by repeat (first | with_reducible assumption | with_reducible refine Below.drew ?_ | with_reducible refine belowAlloc ?_ _))).mono ?_; rintro e wb ⟨rfl, hbb2⟩; have hxb : Below w.heap.size w wb := below_call (by repeat (first | with_reducible assumption | with_reducible refine Below.drew ?_ | with_reducible refine belowAlloc ?_ _)) hbb2))
    all_goals go_wp2_with fail
    all_goals go_meet
    all_goals exact ⟨rfl, (by repeat (first | with_reducible assumption | with_reducible refine Below.drew ?_ | with_reducible refine belowAlloc ?_ _))⟩
  case rest =>
    obtain ⟨rfl, hbx⟩ := hcut
    have O1 := Lib.hid (H.out.call hbx)
    clear c0 c1 c2 c3 c4 ld KS HIt HLi hbb hbx Hsp
    go_wp2_with fail
    refine (dPeers_own O1.out i j hi hj).mono ?_
    rintro e w1 ⟨v, rfl, o2⟩
    obtain ⟨Ak, ck, rfl⟩ := row_form' (o2.row (i := 0) rfl)
    have O2 := Lib.hid o2
    clear o2 O1
    have hlen8 := Hlen.out
    go_wp2_with fail
    go_loopw [5, 25] (fun s i wr => ∃ n : Nat, n ≤ D.peers.length ∧ s = .string (strO (textP A.l idn pn (D.peers.take n) D.psks)) ∧ i = .int .i64 n ∧ Own w0 wr (rowT 3 1 (.slice Ak D.peers.length ck) D.peers.length ((D.peers.map (·.1)).map (Value.int .i64)) :: L)) (fun _ i _ => D.peers.length - (intOf i).toNat)
    case atStart => exact ⟨0, by omega, rfl, rfl, O2.out⟩
    case round =>
      clear O2
      obtain ⟨n, hn, rfl, rfl, ok⟩ := hrel
      have Ok := Lib.hid ok
      have HTL := Lib.hid (textP_len Hwf.out HAl.out idn pn hid hpo D.psks (D.peers.take n) (fun p hp => Hids.out p (List.mem_of_mem_take hp)))
      have htl8 : (D.peers.take n).length ≤ 8 := by simp; omega
      have hT0 : (textP A.l idn pn (D.peers.take n) D.psks).length ≤ 400000 := by have := HTL.out; omega
      clear HTL htl8
      by_cases hlt : n < D.peers.length
      · obtain ⟨p, hp⟩ : ∃ p, D.peers[n]? = some p := ⟨_, List.getElem?_eq_getElem hlt⟩
        obtain ⟨pid, key⟩ := p
        obtain ⟨gb, gk, rfl, hc⟩ : ∃ b o, Ak = some ⟨b, o, none⟩ ∧ wr.cell? ⟨b, o + n, none⟩ = some (.int .i64 pid) := by
          obtain ⟨A', c', e1, e2, -⟩ := holds_of_owns (ok.row (i := 0) rfl)
          cases e1
          rcases e2 with e2 | ⟨b, o, rfl, e2⟩
          · have := congrArg List.length e2; simp only [List.length_map, List.length_nil] at this; omega
          · exact ⟨b, o, rfl, e2 n _ (by simp [hp])⟩
        have hm1 := List.mem_of_getElem? hp
        have hpi := Hids.out _ hm1
        have Hlk := Lib.hid (lk_mem Hnd.out _ hm1)
        have hin : (n : Int) < D.peers.length := by omega
        have htk : D.peers.take (n + 1) = D.peers.take n ++ [(pid, key)] := by rw [List.take_add_one, hp]; rfl
        have Hnext := Lib.hid (show textP A.l idn pn (D.peers.take (n + 1)) D.psks = _ by rw [htk, textP_snoc])
        simp only at hpi Hlk Hnext
        obtain ⟨pn2, rfl⟩ := Int.eq_ofNat_of_zero_le hpi.1
        have hp9 : pn2 ≤ 999 := by omega
        have HL1 := itL_len Hwf.out HAl.out (false, (pn2 : Int), key) (by simp) (by simp; omega)
        have HLine := Lib.hid (fun (ref : Int) (b : Bool) w' (he : Env w') => line_calls (wordI b) pn2 (text A.l ref) (by cases b <;> decide) (by omega) (by have := text_len Hwf.out HAl.out ref; omega) w' he)
        have Hlt := Lib.hid hlt
        clear ok hn hlt hp hm1 hpi htk
        generalize textP A.l idn pn (D.peers.take n) D.psks = T0 at *
        obtain ⟨S, hs⟩ := Ok.out.tail.storeAt hj
        have hpc := peer_calls (Ok.out.tail.blk hi) hs (pn2 : Int)
        rw [Hlk.out] at hpc
        dsimp only [Option.getD_some, Option.isSome_some] at hpc
        have Hpc := Lib.hid hpc
        clear hpc hs
        go_wp2_with fail
        refine Hpc.out.mono ?_
        rintro e w2 ⟨rfl, rfl⟩
        clear Hpc
        go_wp2_with fail
        refine (write_own Ok.out HE.out (m + 1) (by rw [List.getElem?_cons_succ]; exact hm) key).mono ?_
        rintro e w2 ⟨rfl, o3⟩
        have O3 := Lib.hid o3
        clear o3 hc Ok
        go_wp2_with fail
        refine (HLine.out key false _ (HE.out.below O3.out.below)).mono ?_
        rintro e w3 ⟨rfl, b3⟩
        have O4 := Lib.hid (O3.out.call b3)
        clear b3 O3
        have hitl : lineB (wordI false) pn2 (text A.l key) ++ [10] = itL A.l (false, (pn2 : Int), key) ++ [10] := rfl
        rw [hitl]
        clear hitl
        have Hit1 := Lib.hid (show ∃ x, x = itL A.l (false, (pn2 : Int), key) ++ [10] from ⟨_, rfl⟩)
        generalize itL A.l (false, (pn2 : Int), key) ++ [10] = X1 at *
        have ha1 : ∀ w, (Op.stringOp .add (strO T0) (strO X1)).run Tryz.prog w = .ok (.string (strO (T0 ++ X1))) w := fun w => addS _ _ (by omega) (by omega) w
        have hT1 : (T0 ++ X1).length ≤ 500000 := by rw [List.length_append]; omega
        clear hT0
        obtain ⟨S2, hs2⟩ := O4.out.tail.storeAt hk
        have hpk := dPsk_calls (O4.out.tail.blk hi) hs2 (pn2 : Int)
        have Hpk := Lib.hid hpk
        clear hpk hs2
        go_wp2_with fail
        refine Hpk.out.mono ?_
        rintro e w4 ⟨rfl, rfl⟩
        clear Hpk ha1
        have hn1 := Hlt.out
        cases hq : lk (pn2 : Int) D.psks with
        | none =>
          rw [hq] at Hnext
          dsimp only [Option.getD_none, Option.isSome_none]
          go_wp2_with fail
          go_roundw
          case rel => exact ⟨n + 1, by omega, by rw [Hnext.out]; simp, by go_num, O4.out⟩
          case measure => simp only [intOf]; omega
        | some ref =>
          rw [hq] at Hnext
          have HL2 := itL_len Hwf.out HAl.out (true, (pn2 : Int), ref) (by simp) (by simp; omega)
          dsimp only [Option.getD_some, Option.isSome_some]
          go_wp2_with fail
          refine (write_own O4.out HE.out (m + 1) (by rw [List.getElem?_cons_succ]; exact hm) ref).mono ?_
          rintro e w5 ⟨rfl, o5⟩
          have O5 := Lib.hid o5
          clear o5 O4
          go_wp2_with fail
          refine (HLine.out ref true _ (HE.out.below O5.out.below)).mono ?_
          rintro e w6 ⟨rfl, b6⟩
          have O6 := Lib.hid (O5.out.call b6)
          clear b6 O5
          have hitl : lineB (wordI true) pn2 (text A.l ref) ++ [10] = itL A.l (true, (pn2 : Int), ref) ++ [10] := rfl
          rw [hitl]
          clear hitl
          generalize itL A.l (true, (pn2 : Int), ref) ++ [10] = X2 at *
          have ha2 : ∀ w, (Op.stringOp .add (strO (T0 ++ X1)) (strO X2)).run Tryz.prog w = .ok (.string (strO ((T0 ++ X1) ++ X2))) w := fun w => addS _ _ (by omega) (by omega) w
          generalize (T0 ++ X1) ++ X2 = T3 at *
          generalize T0 ++ X1 = T2 at *
          go_wp2_with fail
          go_roundw
          case rel => exact ⟨n + 1, by omega, by rw [Hnext.out], by go_num, O6.out⟩
          case measure => simp only [intOf]; omega
      · obtain rfl : n = D.peers.length := by omega
        have hall : D.peers.take D.peers.length = D.peers := List.take_length
        rw [hall] at *
        clear hn hlt ok
        go_wp2_with fail
        go_ret
        exact ⟨rfl, Ok.out.tail⟩
/-! The calls of layer 15 that read a device's text, at the text of a device. -/
def lineO (word : List UInt8) (n : Nat) (T : List UInt8) : Obj := .cells #[.string (strO word), .string (strO (digs n)), .string (strO T)] 9 (0, 0)
theorem lineO_cells {w : World} {g : Nat} {word : List UInt8} {n : Nat} {T : List UInt8} (h : w.heap[g]? = some (lineO word n T)) : w.cell? ⟨g, 0, none⟩ = some (.string (strO word)) ∧ w.cell? ⟨g, 1, none⟩ = some (.string (strO (digs n))) ∧ w.cell? ⟨g, 2, none⟩ = some (.string (strO T)) :=
  ⟨cell_of_heap h, cell_of_heap h, cell_of_heap h⟩
def putL (L : List Thing) (j k r1 r2 : Nat) (D : Dv) (i : Itm) : List Thing := if i.1 then L.set k (storeT r2 (stI (pskD D i.2.1 i.2.2).1)) else L.set j (storeT r1 (stI (addD D i.2.1 i.2.2).1))
def PutPost (w0 : World) (L : List Thing) (e : Ending) (w' : World) : Prop := e = .returned (.int .i64 0) ∧ Own w0 w' L
set_option maxHeartbeats 3200000 in
set_option maxRecDepth 100000 in
theorem put_calls {w0 w : World} {L : List Thing} {d r1 r2 r g : Nat} {D : Dv} {A : Ar} (h : Own w0 w L) (he : Env w0) (i j k m q : Nat) (hi : L[i]? = some (blk d (devObj D r1 r2))) (hj : L[j]? = some (storeT r1 (stI D.peers))) (hk : L[k]? = some (storeT r2 (stI D.psks))) (hm : L[m]? = some (arena r A))
    (b : Bool) (n : Nat) (T : List UInt8) (hq : L[q]? = some (blk g (lineO (wordI b) n T))) (hn : n ≤ 999) (hT : T.length ≤ 100000) (ref : Int) (hread : readA A (strO T) = (A, ref, 0)) (hok : okD D (b, (n : Int), ref)) (c : Nat) :
    Calls Tryz.prog 44 #[.pointer (some ⟨d, 0, none⟩), .pointer (some ⟨r, 0, none⟩), .slice (some ⟨g, 0, none⟩) 3 c] w (PutPost w0 (putL L j k r1 r2 D (b, (n : Int), ref))) := by
  have H := Lib.hid h
  have HE := Lib.hid he
  have HR := Lib.hid hread
  have Hok := Lib.hid hok
  have hsz : (strO T).size ≤ maxLen := by rw [size_str]; unfold maxLen; omega
  have Hsz := Lib.hid hsz
  have hd20 := digs_len n (by omega)
  have hds : (strO (digs n)).size ≤ 281474976710656 := by rw [size_str]; omega
  have Hds := Lib.hid hds
  have Hnum := Lib.hid (numI_digs (u := n) (by omega))
  obtain ⟨c0, c1, c2⟩ := lineO_cells (h.blk hq)
  have hsame := set_same hm
  have Hsame := Lib.hid hsame
  clear h he hread hok hsz hd20 hds hsame
  cases b with
  | false =>
    have c0' : w.cell? ⟨g, 0, none⟩ = some (.string ⟨#[112, 101, 101, 114]⟩) := c0
    clear c0
    generalize hs1 : strO (digs n) = s1 at *
    generalize hs2 : strO T = s2 at *
    clear hs1 hs2
    go_enter Tryz.func44, Tryz.ntmps44
    go_wp2_with fail
    refine (atoi_calls s1 Hds.out _ (HE.out.below H.out.below)).mono ?_
    rintro e w1 ⟨v, ev, rfl, b1, hc⟩
    rw [Hnum.out] at hc
    have O1 := Lib.hid (H.out.call b1)
    rcases hc with ⟨hv, rfl⟩ | ⟨hv, t, q', rfl⟩
    · obtain rfl : v = (n : Int) := by simpa using hv.symm
      have c0 := (b1.cell (World.block_lt_of_cell? w _ c0')).trans c0'
      have c2' := (b1.cell (World.block_lt_of_cell? w _ c2)).trans c2
      clear hv b1 c1 c2 c0'
      go_wp2_with fail
      refine (readI_calls O1.out HE.out m hm s2 Hsz.out).mono ?_
      rintro e w2 ⟨rfl, o2⟩
      rw [HR.out] at o2 ⊢
      dsimp only at o2 ⊢
      rw [Hsame.out] at o2
      have O2 := Lib.hid o2
      obtain ⟨d0, d1, d2⟩ := lineO_cells (o2.blk hq)
      have d0' : w2.cell? ⟨g, 0, none⟩ = some (.string ⟨#[112, 101, 101, 114]⟩) := d0
      clear o2 c0 c2' d0 d1 d2 O1
      go_wp2_with fail
      refine (dAdd_own (D := D) O2.out i j hi hj n ref).mono ?_
      rintro e w3 ⟨rfl, o3⟩
      have hz : (addD D n ref).2 = 0 := by have := Hok.out; simpa [okD] using this
      rw [hz]
      have O3 := Lib.hid o3
      clear o3 hz d0'
      go_wp2_with fail
      go_ret
      exact ⟨rfl, by unfold putL; rw [if_neg (by simp)]; exact O3.out⟩
    · cases hv
  | true =>
    have c0' : w.cell? ⟨g, 0, none⟩ = some (.string ⟨#[112, 115, 107]⟩) := c0
    clear c0
    have hne : ((⟨#[112, 115, 107]⟩ : ByteArray).toList == (⟨#[112, 101, 101, 114]⟩ : ByteArray).toList) = false := by decide +kernel
    have hne2 : ((⟨#[112, 115, 107]⟩ : ByteArray) == (⟨#[112, 101, 101, 114]⟩ : ByteArray)) = false := by decide +kernel
    generalize hs1 : strO (digs n) = s1 at *
    generalize hs2 : strO T = s2 at *
    clear hs1 hs2
    go_enter Tryz.func44, Tryz.ntmps44
    go_wp2_with fail
    refine (atoi_calls s1 Hds.out _ (HE.out.below H.out.below)).mono ?_
    rintro e w1 ⟨v, ev, rfl, b1, hc⟩
    rw [Hnum.out] at hc
    have O1 := Lib.hid (H.out.call b1)
    rcases hc with ⟨hv, rfl⟩ | ⟨hv, t, q', rfl⟩
    · obtain rfl : v = (n : Int) := by simpa using hv.symm
      have c0 := (b1.cell (World.block_lt_of_cell? w _ c0')).trans c0'
      have c2' := (b1.cell (World.block_lt_of_cell? w _ c2)).trans c2
      clear hv b1 c1 c2 c0'
      go_wp2_with fail
      refine (readI_calls O1.out HE.out m hm s2 Hsz.out).mono ?_
      rintro e w2 ⟨rfl, o2⟩
      rw [HR.out] at o2 ⊢
      dsimp only at o2 ⊢
      rw [Hsame.out] at o2
      have O2 := Lib.hid o2
      obtain ⟨d0, d1, d2⟩ := lineO_cells (o2.blk hq)
      have d0' : w2.cell? ⟨g, 0, none⟩ = some (.string ⟨#[112, 115, 107]⟩) := d0
      clear o2 c0 c2' d0 d1 d2 O1
      go_wp2_with fail
      refine (dPsk_own (D := D) O2.out i j k hi hj hk n ref).mono ?_
      rintro e w3 ⟨rfl, o3⟩
      have hz : (pskD D n ref).2 = 0 := by have := Hok.out; simpa [okD] using this
      rw [hz]
      have O3 := Lib.hid o3
      clear o3 hz d0'
      go_wp2_with fail
      go_ret
      exact ⟨rfl, by unfold putL; rw [if_pos rfl]; exact O3.out⟩
    · cases hv
theorem splitN_calls (word : List UInt8) (n : Nat) (rest : List UInt8) (hw : ∀ b ∈ word, b ≠ 32) (hsz : (lineB word n rest).length ≤ 1000000) (w : World) (he : Env w) :
    Calls Tryz.prog 43 #[.string (strO (lineB word n rest)), .string ⟨#[32]⟩, .int .i64 3] w fun e w' => e = .returned (.slice (some ⟨w.heap.size, 0, none⟩) 3 3) ∧ w' = w.alloc (lineO word n rest) := by
  obtain ⟨m, hm⟩ := he.mlen
  have h1 : 2 ≤ (strO (lineB word n rest)).size := by rw [size_str]; unfold lineB; simp; omega
  have h2 : Lib.splitB ⟨#[32]⟩ 0 (min 3 ((strO (lineB word n rest)).size + 1) - 1) (strO (lineB word n rest)) = [strO word, strO (digs n), strO rest] := by
    have h3 := line_split3 (rest := rest) n hw
    unfold Lib.splitN at h3
    have h4 := Lib.splitB_data ⟨#[32]⟩ 0 (min 3 ((strO (lineB word n rest)).size + 1) - 1) (strO (lineB word n rest))
    rw [strO_data, size_str] at h4
    rw [show (⟨#[32]⟩ : ByteArray).data.toList = [32] from rfl, h3] at h4
    rw [size_str]
    have h5 : (Lib.splitB ⟨#[32]⟩ 0 (min 3 ((lineB word n rest).length + 1) - 1) (strO (lineB word n rest))).map (fun b => strO b.data.toList) = [strO word, strO (digs n), strO rest] := by
      simpa [Function.comp_def] using congrArg (List.map strO) h4
    simpa [strO_toList] using h5
  have hmin : min 3 ((strO (lineB word n rest)).size + 1) = 3 := by omega
  have hc := Sh.strings_SplitN (strO (lineB word n rest)) ⟨#[32]⟩ 3 m w (by rw [size_str]; omega) hm (by decide) (by decide) (by decide)
  rw [h2, hmin] at hc
  exact hc.mono fun e w' ⟨h6, h7⟩ => ⟨h6, h7⟩
theorem trim_calls (t : List UInt8) (hsz : t.length ≤ 1000000) (w : World) : Calls Tryz.prog 42 #[.string (strO (t ++ [10])), .string ⟨#[10]⟩] w fun e w' => e = .returned (.string (strO t)) ∧ w' = w := by
  have h := Sh.strings_TrimSuffix (strO (t ++ [10])) ⟨#[10]⟩ w (by rw [size_str]; simp; omega)
  rw [strO_data, show (⟨#[10]⟩ : ByteArray).data.toList = [10] from rfl, trim_end] at h
  exact h
theorem lk_pks {l : List Pr} (hn : (l.map (·.id)).Nodup) : ∀ p ∈ l, lk p.id (pks l) = if 0 < p.psk then some p.psk else none := by
  induction l with
  | nil => intro p hp; cases hp
  | cons q l ih =>
    intro p hp
    rw [List.map_cons, List.nodup_cons] at hn
    have hpk : pks (q :: l) = (if 0 < q.psk then [(q.id, q.psk)] else []) ++ pks l := rfl
    rw [hpk]
    rcases List.mem_cons.1 hp with rfl | hp
    · by_cases h0 : 0 < p.psk
      · rw [if_pos h0, if_pos h0]; simp [lk]
      · rw [if_neg h0, if_neg h0, List.nil_append]
        exact lk_none fun r hr e => hn.1 (by rw [← e]; exact pks_sub r hr)
    · have hne : p.id ≠ q.id := fun e => hn.1 (by rw [← e]; exact List.mem_map_of_mem hp)
      by_cases h0 : 0 < q.psk
      · rw [if_pos h0]; simp only [List.singleton_append, lk]; rw [if_neg hne]; exact ih hn.2 p hp
      · rw [if_neg h0, List.nil_append]; exact ih hn.2 p hp
theorem itemsD_prs {K : List (Int × Int)} : ∀ {l : List Pr}, (∀ p ∈ l, lk p.id K = if 0 < p.psk then some p.psk else none) → itemsD (prs l) K = itemsP l
  | [], _ => rfl
  | p :: l, h => by
    have ih := itemsD_prs (l := l) (fun q hq => h q (by simp [hq]))
    have hp := h p (by simp)
    unfold itemsD prs itemsP at ih ⊢
    rw [List.map_cons, List.flatMap_cons, List.flatMap_cons, ih, hp]
    by_cases h0 : 0 < p.psk <;> simp [h0]
def RdL (d r1 r2 B : Nat) (D : Dv) (ps : Obj) (L : List Thing) : List Thing := blk d (devObj D r1 r2) :: storeT r2 (stI D.psks) :: storeT r1 (stI D.peers) :: blk B ps :: L
def DReadPost (w0 : World) (L : List Thing) (idn pn : Nat) (secret : Int) (l : List Pr) (e : Ending) (w' : World) : Prop :=
  ∃ d r1 r2, e = .returned (.tuple #[.pointer (some ⟨d, 0, none⟩), .int .i64 0]) ∧ Own w0 w' (blk d (devObj ⟨idn, secret, pn, prs l, pks l⟩ r1 r2) :: storeT r2 (stI (pks l)) :: storeT r1 (stI (prs l)) :: L)
theorem itemsP_mem {l : List Pr} (hl : PrsOk l) : ∀ i ∈ itemsP l, 0 ≤ i.2.1 ∧ i.2.1 ≤ 999 := by
  intro i hi
  unfold itemsP at hi
  rw [List.mem_flatMap] at hi
  obtain ⟨p, hp, h⟩ := hi
  have hf := hl.fits p hp
  rcases List.mem_cons.1 h with rfl | h
  · exact ⟨hf.1, hf.2.1⟩
  · split at h
    · simp at h; subst h; exact ⟨hf.1, hf.2.1⟩
    · cases h
set_option maxHeartbeats 6400000 in
set_option maxRecDepth 100000 in
theorem dRead_calls {w0 w : World} {L : List Thing} {r : Nat} {A : Ar} (h : Own w0 w L) (he : Env w0) (m : Nat) (hm : L[m]? = some (arena r A)) (idn pn : Nat) (secret : Int) (hmay : mayD idn secret pn = true) (hid : idn ≤ 999) (hpo : pn ≤ 999) (l : List Pr) (hl : PrsOk l) (hwf : Wf A.l) (hA : A.l.length ≤ 100)
    (hread : ∀ i ∈ itemsP l, readA A (strO (text A.l i.2.2)) = (A, i.2.2, 0)) :
    Calls Tryz.prog 15 #[.pointer (some ⟨r, 0, none⟩), .string (strO (textD A.l idn pn (itemsP l))), .int .i64 secret] w (DReadPost w0 L idn pn secret l) := by
  have H := Lib.hid h
  have HE := Lib.hid he
  have HA := Lib.hid (And.intro hwf hA)
  have HR := Lib.hid hread
  have Hl := Lib.hid hl
  have Hits := Lib.hid (itemsP_mem hl)
  have hio := items_ok idn secret pn l [] (by rw [List.nil_append]; exact hl)
  rw [List.nil_append] at hio
  have Hio := Lib.hid hio
  have hpsk := lk_pks hl.ids
  have Htext := Lib.hid (show textP A.l idn pn (prs l) (pks l) = textD A.l idn pn (itemsP l) by unfold textP; rw [itemsD_prs hpsk])
  have hprsf : ∀ p ∈ prs l, 0 ≤ p.1 ∧ p.1 ≤ 999 := fun p hp => by
    simp only [prs, List.mem_map] at hp
    obtain ⟨q, hq, rfl⟩ := hp
    have := hl.fits q hq; exact ⟨this.1, this.2.1⟩
  have hprsl : (prs l).length ≤ 8 := by have := hl.len; simpa [prs] using this
  have Hprs := Lib.hid (And.intro hprsf hprsl)
  have htl := textP_len hwf hA idn pn hid hpo (pks l) (prs l) hprsf
  rw [Htext.out] at htl
  have htl4 : (textD A.l idn pn (itemsP l)).length ≤ 500000 := by omega
  have hdig := digs_len pn (by omega)
  have hdig2 := digs_len idn (by omega)
  have HD := Lib.hid (And.intro (show (strO (digs pn)).size ≤ 281474976710656 by rw [size_str]; omega) (show (strO (digs idn)).size ≤ 281474976710656 by rw [size_str]; omega))
  have Hnum := Lib.hid (And.intro (numI_digs (u := pn) (by omega)) (numI_digs (u := idn) (by omega)))
  have Hhead := Lib.hid (show (lineB devW idn (digs pn)).length ≤ 1000000 by unfold lineB devW; simp; omega)
  obtain ⟨t, ht, hsp⟩ := textD_split A.l idn pn (itemsP l)
  have htt : t.length ≤ 500000 := by rw [ht] at htl4; simp at htl4; omega
  have HT := Lib.hid ht
  obtain ⟨ws, hws⟩ : ∃ ws, ws = (linesD A.l idn pn (itemsP l)).map strO := ⟨_, rfl⟩
  have hwl : ws.length = (itemsP l).length + 1 := by rw [hws]; simp [linesD]
  have hw0 : ws[0]? = some (strO (lineB devW idn (digs pn))) := by rw [hws]; simp [linesD, headL]
  have hwk := Lib.hid (show ∀ (k : Nat) (i : Itm), (itemsP l)[k]? = some i → ws[k + 1]? = some (strO (lineB (wordI i.1) i.2.1.toNat (text A.l i.2.2))) from fun k i hk => by rw [hws]; simp [linesD, itL, hk])
  have Hw0 := Lib.hid hw0
  have Hsp := Lib.hid (show splitS 10 (strO t) = ws by rw [splitS_eq, hsp, hws])
  have hlits : (itemsP l).length ≤ 100 := by
    have : ∀ l : List Pr, (itemsP l).length ≤ 2 * l.length := fun l => by
      induction l with
      | nil => simp [itemsP]
      | cons p l ih =>
        unfold itemsP at ih ⊢
        rw [List.flatMap_cons, List.length_append, List.length_cons]
        split <;> simp at * <;> omega
    have h1 := this l
    have h2 := hl.len
    omega
  have Hlits := Lib.hid hlits
  clear h he hwf hA hread hl hio hpsk hprsf hprsl htl htl4 hdig hdig2 ht hsp hws hw0 hlits
  have hSt := Lib.hid (trim_calls t (by omega))
  have HT2 := Lib.hid (show strO (textD A.l idn pn (itemsP l)) = strO (t ++ [10]) by rw [HT.out])
  rw [HT2.out]
  generalize strO (t ++ [10]) = S0 at *
  go_enter Tryz.func15, Tryz.ntmps15
  go_wp2_with fail
  refine (hSt.out w).mono ?_
  rintro e w1 ⟨rfl, rfl⟩
  go_wp2_with fail
  refine (split_calls 10 (strO t) (by rw [size_str]; omega) w1 (HE.out.below H.out.below)).mono ?_
  rintro e w2 ⟨rfl, rfl⟩
  rw [Hsp.out]
  have O1 := Lib.hid (H.out.alloc (piecesO ws))
  generalize hB : w1.heap.size = B at *
  generalize hW2 : w1.alloc (piecesO ws) = w2 at *
  clear hW2 hB
  generalize hN : ws.length = N at *
  have hN101 : N ≤ 101 := by have := Hlits.out; omega
  go_wp2_with fail
  go_loopw [8, 23] (fun dv i wr => (dv = .pointer none ∧ i = .int .i64 0 ∧ Own w0 wr (blk B (piecesO ws) :: L)) ∨
    ∃ (K : Nat) (rest : List Itm) (Dc : Dv) (d r1 r2 : Nat), 1 ≤ K ∧ K ≤ N ∧ (itemsP l).drop (K - 1) = rest ∧ dv = .pointer (some ⟨d, 0, none⟩) ∧ i = .int .i64 K ∧ Hid (allOk Dc rest) ∧ Hid (rest.foldl apD Dc = ⟨idn, secret, pn, prs l, pks l⟩) ∧ Own w0 wr (RdL d r1 r2 B Dc (piecesO ws) L))
    (fun _ i _ => N - (intOf i).toNat)
  case atStart => exact .inl ⟨rfl, rfl, O1.out⟩
  case round =>
    clear O1
    rcases hrel with ⟨rfl, rfl, ok⟩ | ⟨K, rest, Dc, d, r1, r2, hK1, hKN, hrest, rfl, rfl, hall, hfold, ok⟩
    · have Ok := Lib.hid ok
      have hc := piece_at (ok.blk (i := 0) rfl) Hw0.out
      have i0 : (0 : Int) < (N : Int) := by omega
      have hN1 : 1 ≤ N := by omega
      clear ok
      go_wp2_with fail
      refine (splitN_calls devW idn (digs pn) (by decide) Hhead.out wr (HE.out.below Ok.out.below)).mono ?_
      rintro e w3 ⟨rfl, rfl⟩
      have O2 := Lib.hid (Ok.out.alloc (lineO devW idn (digs pn)))
      obtain ⟨c0, c1, c2⟩ := lineO_cells (O2.out.blk (i := 0) rfl)
      generalize hg : wr.heap.size = g at *
      generalize hW3 : wr.alloc (lineO devW idn (digs pn)) = w3 at *
      clear hg hW3 Ok hc
      generalize hsi : strO (digs idn) = si at *
      generalize hsp2 : strO (digs pn) = sp at *
      have Hlast := Lib.hid (And.intro hsi hsp2)
      clear hsi hsp2
      go_wp2_with fail
      refine (atoi_calls si HD.out.2 _ (HE.out.below O2.out.below)).mono ?_
      rintro e w4 ⟨v, ev, rfl, b4, hcc⟩
      rw [Hnum.out.2] at hcc
      rcases hcc with ⟨hv, rfl⟩ | ⟨hv, t', q', rfl⟩
      · obtain rfl : v = (idn : Int) := by simpa using hv.symm
        have O4 := Lib.hid (O2.out.call b4)
        obtain ⟨d0, d1, d2⟩ := lineO_cells (O4.out.blk (i := 0) rfl)
        rw [Hlast.out.2] at d2
        clear hv b4 c0 c1 c2 O2 d0 d1
        go_wp2_with fail
        refine (atoi_calls sp HD.out.1 _ (HE.out.below O4.out.below)).mono ?_
        rintro e w5 ⟨v, ev, rfl, b5, hcc⟩
        rw [Hnum.out.1] at hcc
        rcases hcc with ⟨hv, rfl⟩ | ⟨hv, t', q', rfl⟩
        · obtain rfl : v = (pn : Int) := by simpa using hv.symm
          have O5 := Lib.hid (O4.out.call b5)
          clear hv b5 d2 O4
          go_wp2_with fail
          refine (dNew_own O5.out idn secret pn hmay).mono ?_
          rintro e w6 ⟨d, r1, r2, rfl, o6⟩
          have O6 : Hid (Own w0 w6 (RdL d r1 r2 B ⟨idn, secret, pn, [], []⟩ (piecesO ws) L)) := Lib.hid (Own.drop 3 o6 (fun i hi => match i, hi with | 0, _ => rfl | 1, _ => rfl | 2, _ => rfl) (fun i hi => match i, hi with | k + 3, _ => rfl))
          clear o6 O5
          go_wp2_with fail
          go_roundw
          case rel => exact .inr ⟨1, itemsP l, ⟨idn, secret, pn, [], []⟩, d, r1, r2, by omega, hN1, rfl, rfl, rfl, Lib.hid Hio.out.1, Lib.hid Hio.out.2, O6.out⟩
          case measure => simp only [intOf]; omega
        · cases hv
      · cases hv
    · have Ok := Lib.hid ok
      by_cases hlt : K < N
      · have hK : K - 1 < (itemsP l).length := by omega
        obtain ⟨it, hit⟩ : ∃ it, (itemsP l)[K - 1]? = some it := ⟨_, List.getElem?_eq_getElem hK⟩
        have hdr : rest = it :: (itemsP l).drop K := by
          rw [← hrest, List.drop_eq_getElem_cons hK]
          rw [List.getElem?_eq_getElem hK] at hit
          injection hit with hit
          rw [hit, show K - 1 + 1 = K by omega]
        have hws := hwk.out _ _ hit
        rw [show K - 1 + 1 = K by omega] at hws
        have hitm := List.mem_of_getElem? hit
        have hfit := Hits.out it hitm
        have Hrd := Lib.hid (HR.out it hitm)
        obtain ⟨b, n, ref⟩ := it
        simp only at hfit Hrd hws
        obtain ⟨n, rfl⟩ := Int.eq_ofNat_of_zero_le hfit.1
        have hn9 : n ≤ 999 := by omega
        rw [Int.toNat_natCast] at hws
        have hc := piece_at (ok.blk (i := 3) rfl) hws
        have hiK : (K : Int) < (N : Int) := by omega
        have hpos : decide ((0 : Int) < (K : Int)) = true := decide_eq_true (by omega)
        have hpos2 : decide (0 < K) = true := decide_eq_true (by omega)
        have Hw32 := Lib.hid (wordI_not (c := 32) (.inr rfl) b)
        have htx := text_len HA.out.1 HA.out.2 ref
        have Htx := Lib.hid htx
        have Hll := Lib.hid (show (lineB (wordI b) n (text A.l ref)).length ≤ 1000000 by
          have h1 := digs_len n (by omega)
          have h2 : (wordI b).length ≤ 4 := by cases b <;> decide
          unfold lineB; simp only [List.length_append, List.length_cons]; omega)
        rw [hdr] at hall hfold
        have Hall := Lib.hid (show okD Dc (b, (n : Int), ref) ∧ allOk (apD Dc (b, (n : Int), ref)) ((itemsP l).drop K) from hall.out)
        have Hfold := Lib.hid (show ((itemsP l).drop K).foldl apD (apD Dc (b, (n : Int), ref)) = ⟨idn, secret, pn, prs l, pks l⟩ from hfold.out)
        have Hlt := Lib.hid (And.intro hlt hK1)
        clear ok hlt hK hit hdr hws hitm hfit hall hfold hrest htx hKN hK1
        go_wp2_with fail
        refine (splitN_calls (wordI b) n (text A.l ref) Hw32.out Hll.out wr (HE.out.below Ok.out.below)).mono ?_
        rintro e w3 ⟨rfl, rfl⟩
        have O2 := Lib.hid (Ok.out.alloc (lineO (wordI b) n (text A.l ref)))
        generalize hg : wr.heap.size = g at *
        generalize hW3 : wr.alloc (lineO (wordI b) n (text A.l ref)) = w3 at *
        clear hg hW3 Ok hc
        go_wp2_with fail
        refine (put_calls (D := Dc) (A := A) O2.out HE.out 1 3 2 (m + 5) 0 rfl rfl rfl (by simpa [RdL] using hm) b n (text A.l ref) rfl hn9 (by have := Htx.out; omega) ref Hrd.out Hall.out.1 3).mono ?_
        rintro e w4 ⟨rfl, o4⟩
        have o5 : Own w0 w4 (blk g (lineO (wordI b) n (text A.l ref)) :: RdL d r1 r2 B (apD Dc (b, (n : Int), ref)) (piecesO ws) L) := by cases b <;> exact o4
        have O5 := Lib.hid o5.tail
        clear o4 o5 O2
        go_wp2_with fail
        go_roundw
        case rel => exact .inr ⟨K + 1, _, apD Dc (b, (n : Int), ref), d, r1, r2, by omega, by have := Hlt.out; omega, rfl, rfl, by go_num, Lib.hid Hall.out.2, Lib.hid Hfold.out, O5.out⟩
        case measure => have := Hlt.out; simp only [intOf]; omega
      · obtain rfl : K = N := by omega
        have hre : rest = [] := by rw [← hrest]; exact List.drop_eq_nil_of_le (by omega)
        subst hre
        have hDc : Dc = ⟨idn, secret, pn, prs l, pks l⟩ := hfold.out
        subst hDc
        clear hlt hall hfold hrest ok
        go_wp2_with fail
        refine (dText_calls Ok.out HE.out 0 2 1 (m + 4) rfl rfl rfl (by simpa [RdL] using hm) idn pn rfl rfl hid hpo Hprs.out.1 (by have := Hl.out.ids; simpa [prs, Function.comp_def] using this) Hprs.out.2 HA.out.1 HA.out.2).mono ?_
        rintro e w3 ⟨rfl, o3⟩
        dsimp only
        rw [Htext.out, HT2.out]
        have O3 : Hid (Own w0 w3 (blk d (devObj ⟨idn, secret, pn, prs l, pks l⟩ r1 r2) :: storeT r2 (stI (pks l)) :: storeT r1 (stI (prs l)) :: L)) := Lib.hid (Own.drop 3 o3 (fun i hi => match i, hi with | 0, _ => rfl | 1, _ => rfl | 2, _ => rfl) (fun i hi => match i, hi with | k + 3, _ => rfl))
        have hb : (S0.toList == S0.toList) = true := by simp
        clear o3 Ok
        go_wp2_with fail
        go_ret2
        exact ⟨d, r1, r2, rfl, O3.out⟩
end Go.Proofs.YtfelbecofbdeaaaGreatDoor
