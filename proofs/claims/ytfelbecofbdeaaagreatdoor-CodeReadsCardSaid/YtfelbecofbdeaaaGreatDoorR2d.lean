/- The document's number of layer 2. -/
import Derived.Test.YtfelbecofbdeaaaGreatDoorR2
import Derived.Laws.Closers25
namespace Go.Proofs.YtfelbecofbdeaaaGreatDoor
open Go.RowKit

theorem parse_app : ∀ (a : List UInt8) (acc v : Nat) (b : List UInt8), Lib.parseUint10 acc a = .ok v → Lib.parseUint10 acc (a ++ b) = Lib.parseUint10 v b
  | [], acc, v, b, h => by simp only [Lib.parseUint10] at h; injection h with h; subst h; rfl
  | c :: a, acc, v, b, h => by
    simp only [List.cons_append, Lib.parseUint10] at h ⊢
    split at h
    · rename_i hc
      rw [if_pos hc]
      split at h
      · cases h
      · rename_i h1
        rw [if_neg h1]
        split at h
        · cases h
        · rename_i h2
          rw [if_neg h2]; exact parse_app a _ v b h
    · cases h
theorem digs_parse {n : Nat} (h : n < 18446744073709551616) : Lib.parseUint10 0 (digs n) = .ok n := by
  have := parse_digs n [] h; rw [List.append_nil] at this; rw [this]; rfl
def NumPost2 (l : List UInt8) (w : World) (e : Ending) (w' : World) : Prop :=
  ∃ (v : Nat) (ok : Bool), e = .returned (.tuple #[.int .u64 v, .bool ok]) ∧ w = w' ∧ v < 18446744073709551616 ∧ (ok = true → l = digs v) ∧ ∀ n, n < 18446744073709551616 → l = digs n → ok = true ∧ v = n
theorem num_bad {s : ByteArray} {k v : Nat} (hlt : k < s.size) (hp : Lib.parseUint10 0 (s.data.toList.take k) = .ok v) (hbad : (s[k]).toNat < 48 ∨ 57 < (s[k]).toNat ∨ 1844674407370955161 < v ∨ (v = 1844674407370955161 ∧ 5 < (s[k]).toNat - 48)) (n : Nat) (hn : n < 18446744073709551616) : s.data.toList ≠ digs n := by
  intro h
  have h1 := digs_parse hn
  rw [← h] at h1
  have hk : k < s.data.toList.length := by simpa using hlt
  have h2 : s.data.toList = s.data.toList.take k ++ s[k] :: s.data.toList.drop (k + 1) := by
    conv => lhs; rw [← List.take_append_drop k s.data.toList]
    congr 1
    rw [List.drop_eq_getElem_cons hk]; rfl
  rw [h2, parse_app _ _ _ _ hp] at h1
  simp only [Lib.parseUint10] at h1
  split at h1
  · split at h1
    · cases h1
    · split at h1
      · cases h1
      · omega
  · cases h1
theorem num_good {s : ByteArray} {k v : Nat} (hlt : k < s.size) (hp : Lib.parseUint10 0 (s.data.toList.take k) = .ok v) (hok : ¬ ((s[k]).toNat < 48 ∨ 57 < (s[k]).toNat ∨ 1844674407370955161 < v ∨ (v = 1844674407370955161 ∧ 5 < (s[k]).toNat - 48))) :
    Lib.parseUint10 0 (s.data.toList.take (k + 1)) = .ok (v * 10 + ((s[k]).toNat - 48)) ∧ v * 10 + ((s[k]).toNat - 48) < 18446744073709551616 := by
  have hk : k < s.data.toList.length := by simpa using hlt
  have h2 : s.data.toList.take (k + 1) = s.data.toList.take k ++ [s[k]] := by
    rw [List.take_add_one, List.getElem?_eq_getElem hk]; rfl
  refine ⟨?_, by omega⟩
  rw [h2, parse_app _ _ _ _ hp]
  simp only [Lib.parseUint10]
  rw [if_pos (by omega), if_neg (by omega), if_neg (by omega)]
set_option maxHeartbeats 1600000 in
set_option maxRecDepth 100000 in
theorem r2number_calls (s : ByteArray) (hs : s.size ≤ 100000) (w : World) : Calls Tryz.prog 67 #[.string s] w (NumPost2 s.data.toList w) := by
  have hs2 : s.size ≤ 9223372036854775807 := by omega
  go_enter Tryz.func67, Tryz.ntmps67
  go_wp2_with fail
  go_loopw [4, 5] (fun a i wr => ∃ (k v : Nat), k ≤ s.size ∧ a = .int .u64 v ∧ i = .int .i64 k ∧ w = wr ∧ v < 18446744073709551616 ∧ Hid (Lib.parseUint10 0 (s.data.toList.take k) = .ok v)) (fun _ i _ => s.size - (intOf i).toNat)
  case atStart => exact ⟨0, 0, by omega, rfl, rfl, rfl, by omega, Lib.hid (by simp [Lib.parseUint10])⟩
  case round =>
    obtain ⟨k, v, hk, rfl, rfl, rfl, hv, hp⟩ := hrel
    by_cases hlt : k < s.size
    · have hik : (k : Int) < s.size := by omega
      have h255 : (s[k]).toNat ≤ 255 := by have := (s[k]).toNat_lt; omega
      by_cases hbad : (s[k]).toNat < 48 ∨ 57 < (s[k]).toNat ∨ 1844674407370955161 < v ∨ (v = 1844674407370955161 ∧ 5 < (s[k]).toNat - 48)
      · have HB := Lib.hid (num_bad hlt hp.out hbad)
        have hd : (decide (((s[k]).toNat : Int) < 48) = true) ∨ (decide (((s[k]).toNat : Int) < 48) = false ∧ decide ((57 : Int) < ((s[k]).toNat : Int)) = true) ∨ (decide (((s[k]).toNat : Int) < 48) = false ∧ decide ((57 : Int) < ((s[k]).toNat : Int)) = false ∧ decide ((1844674407370955161 : Int) < (v : Int)) = true) ∨ (decide (((s[k]).toNat : Int) < 48) = false ∧ decide ((57 : Int) < ((s[k]).toNat : Int)) = false ∧ v = 1844674407370955161 ∧ decide ((5 : Int) < (((s[k]).toNat : Int) - 48)) = true ∧ (48 : Int) ≤ ((s[k]).toNat : Int)) := by
          by_cases a : (s[k]).toNat < 48
          · exact .inl (decide_eq_true (by omega))
          · by_cases b : 57 < (s[k]).toNat
            · exact .inr (.inl ⟨decide_eq_false (by omega), decide_eq_true (by omega)⟩)
            · by_cases c : 1844674407370955161 < v
              · exact .inr (.inr (.inl ⟨decide_eq_false (by omega), decide_eq_false (by omega), decide_eq_true (by omega)⟩))
              · exact .inr (.inr (.inr ⟨decide_eq_false (by omega), decide_eq_false (by omega), by omega, decide_eq_true (by omega), by omega⟩))
        have hz : (∀ (ok : Bool), ok = false → NumPost2 s.data.toList w (.returned (.tuple #[.int .u64 0, .bool ok])) w) := fun ok h => by
          subst h
          exact ⟨0, false, rfl, rfl, by omega, (fun h => by cases h), fun n hn h => absurd h (HB.out n hn)⟩
        have HZ := Lib.hid (hz false rfl)
        clear hbad hz hk hp HB
        rcases hd with d1 | ⟨d1, d2⟩ | ⟨d1, d2, d3⟩ | ⟨d1, d2, rfl, d4, d5⟩
        all_goals go_wp2_with fail
        all_goals go_ret2
        all_goals exact HZ.out
      · obtain ⟨hg, hg2⟩ := num_good hlt hp.out hbad
        have HG := Lib.hid hg
        have h48 : (48 : Int) ≤ ((s[k]).toNat : Int) := by omega
        have d1 : decide (((s[k]).toNat : Int) < 48) = false := decide_eq_false (by omega)
        have d2 : decide ((57 : Int) < ((s[k]).toNat : Int)) = false := decide_eq_false (by omega)
        have d3 : decide ((1844674407370955161 : Int) < (v : Int)) = false := decide_eq_false (by omega)
        have hcast : (((v * 10 + ((s[k]).toNat - 48) : Nat)) : Int) = (v : Int) * 10 + (((s[k]).toNat : Int) - 48) := by omega
        have hu : (v : Int) * 10 + (((s[k]).toNat : Int) - 48) ≤ 18446744073709551615 := by omega
        have hm : (v : Int) * 10 ≤ 18446744073709551615 := by omega
        have Hlt := Lib.hid hlt
        have HC := Lib.hid hcast
        have Hg2 := Lib.hid hg2
        by_cases h5 : v = 1844674407370955161
        · have d4 : (((s[k]).toNat : Int) - 48) ≤ 5 := by omega
          subst h5
          have HG1 : Hid (Lib.parseUint10 0 (s.data.toList.take (k + 1)) = .ok (18446744073709551610 + ((s[k]).toNat - 48))) := Lib.hid HG.out
          have HC1 : Hid ((((18446744073709551610 + ((s[k]).toNat - 48) : Nat)) : Int) = 18446744073709551610 + (((s[k]).toNat : Int) - 48)) := Lib.hid (by omega)
          have Hg3 : Hid (18446744073709551610 + ((s[k]).toNat - 48) < 18446744073709551616) := Lib.hid (by omega)
          clear hbad hg hk hp hcast hg2 HG HC Hg2 hu hm
          go_wp2_with fail
          all_goals first
            | (exfalso; omega)
            | (have hlt1 := Hlt.out
               refine ⟨⟨k + 1, 18446744073709551610 + ((s[k]).toNat - 48), by omega, congrArg (Value.int .u64) HC1.out.symm, by go_num, trivial, Hg3.out, HG1⟩, ?_⟩
               simp [intOf]; omega)
        · have e5 : ((v : Int) == 1844674407370955161) = false := by rw [beq_eq_false_iff_ne]; omega
          clear hbad hg hk hp hcast hg2 h5
          go_wp2_with fail
          have hlt1 := Hlt.out
          refine ⟨⟨k + 1, v * 10 + ((s[k]).toNat - 48), by omega, by rw [HC.out], by go_num, trivial, Hg2.out, HG⟩, ?_⟩
          simp [intOf]; omega
    · obtain rfl : k = s.size := by omega
      have hall : s.data.toList.take s.size = s.data.toList := List.take_of_length_le (by simp)
      rw [hall] at hp
      have Hv := Lib.hid hv
      by_cases h0 : s.data.toList = []
      · have he : s.toList.isEmpty = true := by rw [← decide_eq_emptyBytes]; exact decide_eq_true (by obtain ⟨⟨l⟩⟩ := s; simp at h0; subst h0; rfl)
        have hz : NumPost2 s.data.toList w (.returned (.tuple #[.int .u64 v, .bool false])) w := ⟨v, false, rfl, rfl, hv, (fun h => by cases h), fun n hn h => absurd (h.symm.trans h0) (digs_ne n)⟩
        have HZ := Lib.hid hz
        clear hall hp hlt hk hz h0
        go_wp2_with fail
        go_ret2
        exact HZ.out
      · have he : s.toList.isEmpty = false := by rw [← decide_eq_emptyBytes]; exact decide_eq_false (fun h => h0 (by rw [h]; rfl))
        have hb : ((strO (digs v)).toList == s.toList) = decide (digs v = s.data.toList) := by rw [← beq_toListBytes, str_eq]
        have HZ := Lib.hid (show NumPost2 s.data.toList w (.returned (.tuple #[.int .u64 v, .bool (decide (digs v = s.data.toList))])) w from
          ⟨v, _, rfl, rfl, hv, fun h => (of_decide_eq_true h).symm, fun n hn h => by
            have h1 := digs_parse hn
            rw [← h, hp.out] at h1
            injection h1 with h1
            subst h1
            exact ⟨decide_eq_true h.symm, rfl⟩⟩)
        generalize decide (digs v = s.data.toList) = B at *
        clear hall hp hlt hk h0
        go_wp2_with fail
        refine (r2digits_calls (v + 1) v w (Nat.lt_succ_self _) Hv.out).mono ?_
        rintro e w1 ⟨rfl, rfl⟩
        go_wp2_with fail
        go_ret2
        exact HZ.out
/-! The document's words of layer 2. -/
theorem splitL_snoc (c b : UInt8) : ∀ l : List UInt8, splitL c (l ++ [b]) = if b = c then splitL c l ++ [[]] else (splitL c l).dropLast ++ [(splitL c l).getLastD [] ++ [b]]
  | [] => by
    by_cases h : b = c
    · subst h; simp [splitL]
    · simp [splitL, h]
  | x :: l => by
    have ih := splitL_snoc c b l
    have hne := splitL_ne c l
    rw [List.cons_append]
    by_cases hx : x = c
    · subst hx
      rw [splitL_here, splitL_here, ih]
      by_cases h : b = x
      · simp [h]
      · rw [if_neg h, if_neg h]
        obtain ⟨y, t, hy⟩ := List.exists_cons_of_ne_nil hne
        rw [hy]; simp [List.getLastD_eq_getLast?]
    · obtain ⟨y, t, hy⟩ := List.exists_cons_of_ne_nil hne
      by_cases h : b = c
      · rw [if_pos h] at ih ⊢
        rw [hy] at ih
        rw [splitL_other hx ih, splitL_other hx hy]; simp
      · rw [if_neg h] at ih ⊢
        rw [splitL_other hx hy]
        rw [hy] at ih
        cases t with
        | nil => simp at ih; rw [splitL_other hx ih]; simp
        | cons z t => simp [List.getLastD_eq_getLast?] at ih; rw [splitL_other hx ih]; simp [List.getLastD_eq_getLast?]
/-- A cell of a row of one-cell elements is stored. -/
theorem Own.rowSet {w0 w : World} {L : List Thing} {i : Nat} {e : TypeId} {g n cap : Nat} {xs : List Value} (h : Own w0 w L) (hi : L[i]? = some (rowT e 1 (.slice (some ⟨g, 0, none⟩) n cap) n xs)) (k : Nat) (hk : k < n) (u : Value) :
    Own w0 (w.setCell ⟨g, k, none⟩ u) (L.set i (rowT e 1 (.slice (some ⟨g, 0, none⟩) n cap) n (xs.set k u))) := by
  obtain ⟨S, hp, hkk⟩ := h.upd hi
  have hu : Upd S w (w.setCell ⟨g, k, none⟩ u) := (Upd.refl S w).setCell (b := g) (fun _ => (hp.2 g).2 rfl) u
  refine hkk _ _ S hu ⟨?_, hp.2⟩ (fun _ h => .inl h)
  obtain ⟨h1, h2⟩ := hp.1
  refine ⟨by simpa using h1, ?_⟩
  rcases h2 with ⟨h2, _⟩ | ⟨g', cap', cur, h2, hb, hg, hn, hc, hs, ht⟩
  · cases h2
  · cases h2
    refine .inr ⟨g, cap, cur.setIfInBounds k u, rfl, hb, heap_setCell_at hg u, hn, hc, by simpa using hs, ?_⟩
    rw [Array.toList_setIfInBounds, List.take_set, ht]
theorem row_at {w : World} {base : Nat} {e : TypeId} {v : Value} {n : Nat} {xs : List Value} (h : w.ownsRow base e 1 v n xs) (hn : 0 < n) : ∃ g cap, v = .slice (some ⟨g, 0, none⟩) n cap ∧ g < w.heap.size ∧ (∀ o, w.frozen? ⟨g, o, none⟩ = false) ∧ ∀ k x, xs[k]? = some x → w.cell? ⟨g, k, none⟩ = some x := by
  obtain ⟨h1, h2⟩ := h
  rcases h2 with ⟨_, h2⟩ | ⟨g, cap, cur, h2, hb, hg, hnc, hc, hs, ht⟩
  · omega
  · refine ⟨g, cap, h2, lt_of_heap hg, fun o => frozen_of_heap hg, fun k x hx => ?_⟩
    rw [cell_of_heap hg]
    rw [← ht, List.getElem?_take] at hx
    split at hx
    · simpa using hx
    · cases hx
/-- The words of a row, as values. -/
def strsV (ws : List (List UInt8)) : List Value := ws.map fun l => .string (strO l)
def WordsPost (l : List UInt8) (w : World) (e : Ending) (w' : World) : Prop :=
  ∃ v, e = .returned v ∧ Own w w' [rowT 9 1 v (splitL 32 l).length (strsV (splitL 32 l))]
theorem einfo_str : (Tryz.prog.info? 9).map (fun i => (i.zero, i.size, i.bytes)) = some (some (.string ⟨#[]⟩), 1, 16) := by kernel_rfl
theorem take_succ {s : ByteArray} {k : Nat} (h : k < s.size) : s.data.toList.take (k + 1) = s.data.toList.take k ++ [s[k]] := by
  have hk : k < s.data.toList.length := by simpa using h
  rw [List.take_add_one, List.getElem?_eq_getElem hk]; rfl
theorem extract_one {s : ByteArray} {k : Nat} (h : k < s.size) : s.extract k (k + 1) = strO [s[k]] := by
  obtain ⟨⟨l⟩⟩ := s
  have hk : k < l.length := h
  apply ByteArray.ext
  apply Array.ext'
  have h1 : (l.drop k).take 1 = [l[k]] := by rw [List.drop_eq_getElem_cons hk]; rfl
  rw [ByteArray.data_extract, Array.toList_extract]
  simp only [List.extract_eq_take_drop]
  rw [show k + 1 - k = 1 by omega]
  exact h1
theorem set_last {α : Type} {l : List α} (h : l ≠ []) (y : α) : l.dropLast ++ [y] = l.set (l.length - 1) y := by
  rcases List.eq_nil_or_concat l with rfl | ⟨t, z, rfl⟩
  · exact absurd rfl h
  · simp
theorem last_some {α : Type} {l : List α} (h : l ≠ []) (d : α) : l[l.length - 1]? = some (l.getLastD d) := by
  rw [List.getLastD_eq_getLast?, List.getLast?_eq_getElem?, List.getElem?_eq_getElem (by have := List.length_pos_iff.2 h; omega)]; rfl
set_option maxHeartbeats 1600000 in
set_option maxRecDepth 100000 in
theorem r2words_calls (s : ByteArray) (hs : s.size ≤ 100000) (w : World) : Calls Tryz.prog 66 #[.string s] w (WordsPost s.data.toList w) := by
  have hs2 : s.size ≤ 9223372036854775807 := by omega
  go_enter Tryz.func66, Tryz.ntmps66
  go_wp2_with fail
  have o1 : Own w _ [rowT 9 1 (.slice (some ⟨w.heap.size, 0, none⟩) 1 1) 1 (strsV [[]])] := (Own.start w).newRow ((Below.refl _ _).alloc (Nat.le_refl _) (.cells #[.string ⟨#[]⟩] 9)) ⟨rfl, .inr ⟨w.heap.size, 1, _, rfl, Nat.le_refl _, new_at rfl, Nat.le_refl _, by unfold maxLen; omega, rfl, rfl⟩⟩
  have O1 := Lib.hid o1
  clear o1
  go_loopw [3, 4] (fun v i wr => ∃ (k : Nat) (v1 : Value), k ≤ s.size ∧ v1 = v ∧ i = .int .i64 k ∧ Own w wr [rowT 9 1 v1 (splitL 32 (s.data.toList.take k)).length (strsV (splitL 32 (s.data.toList.take k)))] ∧ Hid (∀ x ∈ splitL 32 (s.data.toList.take k), x.length ≤ k) ∧ Hid ((splitL 32 (s.data.toList.take k)).length ≤ k + 1)) (fun _ i _ => s.size - (intOf i).toNat)
  case atStart => exact ⟨0, _, by omega, rfl, rfl, O1.out, Lib.hid (by simp [splitL]), Lib.hid (by simp [splitL])⟩
  case round =>
    clear O1
    obtain ⟨k, v, hk, rfl, rfl, ok, hxl, hwl⟩ := hrel
    have Ok := Lib.hid ok
    clear ok
    by_cases hlt : k < s.size
    · have hik : (k : Int) < s.size := by omega
      have Hlt := Lib.hid hlt
      have htk : s.data.toList.take (k + 1) = s.data.toList.take k ++ [s[k]] := take_succ hlt
      have hsp := splitL_snoc 32 s[k] (s.data.toList.take k)
      rw [← htk] at hsp
      have hne := splitL_ne 32 (s.data.toList.take k)
      generalize splitL 32 (s.data.toList.take k) = ws at *
      have hw1 : 1 ≤ ws.length := List.length_pos_iff.2 hne
      have hw2 : ws.length ≤ 100001 := by have := hwl.out; omega
      by_cases hc : s[k] = 32
      · rw [if_pos hc] at hsp
        have Hsp := Lib.hid hsp
        have hd : (((s[k]).toNat : Int) == 32) = true := by rw [beq_iff_eq, hc]; rfl
        have o6 := Ok.out.alloc (.cells #[.string ⟨#[]⟩] 9)
        clear hsp hc hk hlt hne
        go_wp2_with (at_builtin; go_loud (refine wpList_ocat o6 rfl (.tmp 16) (.tmp 17) 81 rfl 9 (.string ⟨#[]⟩) 1 16 Tryz.underlying81 einfo_str rfl (by decide) v ws.length (strsV ws) rfl 1 rfl (some ⟨wr.heap.size, 0, none⟩) 1 1 [.string ⟨#[]⟩] rfl (News.block (cs := [.string ⟨#[]⟩]) (new_at rfl) rfl) (by simp [Value.oneCell']) (by unfold maxLen; omega) (by omega) ?_))
        intro v6 w6 o7
        have O7 := Lib.hid o7
        clear o7 o6
        go_wp2_with fail
        go_roundw
        case rel =>
          have hlt1 := Hlt.out
          refine ⟨k + 1, v6, by omega, rfl, by go_num, ?_, ?_, ?_⟩
          · have h := O7.out.tail
            rw [Hsp.out, List.length_append, List.length_singleton]
            have e : strsV (ws ++ [[]]) = strsV ws ++ [.string ⟨#[]⟩] := by simp [strsV, strO]
            rw [e]; exact h
          · rw [Hsp.out]
            refine Lib.hid (fun x hx => ?_)
            rcases List.mem_append.1 hx with hx | hx
            · have := hxl.out x hx; omega
            · simp at hx; subst hx; simp
          · rw [Hsp.out]
            exact Lib.hid (by have := hwl.out; simp; omega)
        case measure => have hlt1 := Hlt.out; simp only [intOf]; omega
      · rw [if_neg hc] at hsp
        have Hsp := Lib.hid hsp
        have hd : (((s[k]).toNat : Int) == 32) = false := by
          rw [beq_eq_false_iff_ne]; intro h; exact hc (UInt8.toNat_inj.1 (by show (s[k]).toNat = 32; omega))
        have hlast := last_some hne []
        have hlm := List.mem_of_getElem? hlast
        have hll := hxl.out _ hlm
        obtain ⟨g, cap, rfl, lg, fg, cg⟩ := row_at (Ok.out.row (i := 0) rfl) hw1
        have hcell := cg (ws.length - 1) (.string (strO (ws.getLastD []))) (by unfold strsV; rw [List.getElem?_map, hlast]; rfl)
        have hadd : ∀ w, (Op.stringOp .add (strO (ws.getLastD [])) (s.extract k (k + 1))).run Tryz.prog w = .ok (.string (strO (ws.getLastD [] ++ [s[k]]))) w := fun w => by
          have e : s.extract k (k + 1) = strO [s[k]] := extract_one hlt
          rw [e]; exact addS (ws.getLastD []) [s[k]] (by omega) (by simp only [List.length_singleton]; omega) w
        have hlen : Hid (ws.dropLast ++ [ws.getLastD [] ++ [s[k]]] = ws.set (ws.length - 1) (ws.getLastD [] ++ [s[k]])) := Lib.hid (set_last hne _)
        have Hll := Lib.hid hll
        generalize hlx : ws.getLastD [] ++ [s[k]] = lx at *
        have HLX := Lib.hid (show lx.length ≤ k + 1 by rw [← hlx, List.length_append]; simp only [List.length_singleton]; omega)
        generalize ws.getLastD [] = ll at *
        have l0 : (0 : Int) ≤ (ws.length : Int) - 1 := by omega
        have l1 : ((ws.length : Int) - 1) < (ws.length : Int) := by omega
        have l2 : ((ws.length : Int) - 1).toNat = ws.length - 1 := by omega
        clear hsp hc hk hlt hne hlast hlm hll cg hlx htk
        have HWL := Lib.hid (And.intro hw1 hw2)
        generalize hH : ws.length - 1 = H at *
        go_wp2_with fail
        go_region
        all_goals go_wp2_with fail
        all_goals
          have hlt1 := Hlt.out
          have hHW := HWL.out
          have hset : splitL 32 (s.data.toList.take (k + 1)) = ws.set H lx := Hsp.out.trans hlen.out
          have h := Ok.out.rowSet (i := 0) rfl H (by omega) (.string (strO lx))
          have hv : (strsV ws).set H (.string (strO lx)) = strsV (ws.set H lx) := by unfold strsV; rw [List.map_set]
          have hn : ws.length = (ws.set H lx).length := by simp
          rw [hv] at h
          refine ⟨⟨k + 1, _, by omega, rfl, by go_num, ?_, ?_, ?_⟩, ?_⟩
        all_goals first
          | (rw [hset]; exact Lib.hid (by have := hwl.out; simp; omega))
          | (rw [hset]; exact Lib.hid (fun x hx => by
              rcases List.mem_or_eq_of_mem_set hx with hx | rfl
              · have := hxl.out x hx; omega
              · exact HLX.out))
          | (rw [hset, ← hn]; first | exact h | exact h.drew)
          | (simp only [intOf]; omega)
    · obtain rfl : k = s.size := by omega
      have hall : s.data.toList.take s.size = s.data.toList := List.take_of_length_le (by simp)
      rw [hall] at Ok
      clear hall hk hlt
      go_wp2_with fail
      go_ret
      exact ⟨_, rfl, Ok.out⟩
end Go.Proofs.YtfelbecofbdeaaaGreatDoor
