/- The device, and the row of peers, behind the law's calls of layer 15, with their psks; of any number. -/
import Derived.Test.YtfelbecofbdeaaaGreatDoorDevRun
import Derived.Test.YtfelbecofbdeaaaGreatDoorDLine
import Derived.Test.YtfelbecofbdeaaaGreatDoorAwake15
import Derived.Test.YtfelbecofbdeaaaGreatDoorSame1
namespace Go.Proofs.YtfelbecofbdeaaaGreatDoor
open Go.RowKit

theorem atP_no {p : Pr → Bool} : ∀ {l : List Pr}, ¬ 0 ≤ atP p l → ∀ x ∈ l, p x = false
  | [], _, x, hx => by cases hx
  | y :: l, h, x, hx => by
    have hg := atP_ge p l
    rw [atP_cons] at h
    by_cases hy : p y = true
    · rw [if_pos hy] at h; omega
    · rw [if_neg hy] at h
      rcases List.mem_cons.1 hx with rfl | hx
      · simpa using hy
      · refine atP_no (fun h2 => h ?_) x hx
        rw [if_neg (by omega)]; omega
theorem lk_dropI {k i : Int} (h : i ≠ k) : ∀ l : List (Int × Int), lk i (dropI k l) = lk i l
  | [] => rfl
  | p :: l => by
    unfold dropI
    by_cases e : k = p.1
    · rw [if_pos e, lk, if_neg (by rw [← e]; exact h)]
    · rw [if_neg e, lk, lk, lk_dropI h l]
theorem lk_setI {k i v : Int} (h : i ≠ k) : ∀ l : List (Int × Int), lk i (setI k v l) = lk i l
  | [] => by simp [setI, lk, h]
  | p :: l => by
    unfold setI
    by_cases e : k = p.1
    · rw [if_pos e, lk, lk, if_neg h, if_neg (by rw [← e]; exact h)]
    · rw [if_neg e, lk, lk, lk_setI h l]
theorem lk_setI_same (k v : Int) : ∀ l : List (Int × Int), lk k (setI k v l) = some v
  | [] => by simp [setI, lk]
  | p :: l => by
    unfold setI
    by_cases e : k = p.1
    · rw [if_pos e, lk, if_pos rfl]
    · rw [if_neg e, lk, if_neg e, lk_setI_same k v l]
def pskOf (p : Pr) : Option Int := if 0 < p.psk then some p.psk else none
structure RunInv2 (D : Dv) (l : List Pr) : Prop where
  inv : RunInv D l
  keys : (l.map (·.key)).Nodup
  fits : ∀ p ∈ l, 0 ≤ p.id ∧ p.id ≤ 999 ∧ 1 ≤ p.key ∧ 0 ≤ p.psk
  psks : ∀ p ∈ l, lk p.id D.psks = pskOf p
theorem RunInv2.prs {D : Dv} {l : List Pr} (h : RunInv2 D l) : PrsOk l := ⟨h.inv.nodup, h.keys, h.fits, h.inv.len⟩
theorem nodup_at {α β : Type} {f : α → β} {l : List α} (h : (l.map f).Nodup) {i j : Nat} {x y : α} (hi : l[i]? = some x) (hj : l[j]? = some y) (he : f x = f y) : i = j := by
  have h1 : (l.map f)[i]? = some (f x) := by rw [List.getElem?_map, hi]; rfl
  have h2 : (l.map f)[j]? = some (f x) := by rw [List.getElem?_map, hj, he]; rfl
  obtain ⟨a1, a2⟩ := List.getElem?_eq_some_iff.1 h1
  obtain ⟨b1, b2⟩ := List.getElem?_eq_some_iff.1 h2
  rcases Nat.lt_trichotomy i j with hlt | rfl | hlt
  · exact absurd (a2.trans b2.symm) (List.pairwise_iff_getElem.1 h i j a1 b1 hlt)
  · rfl
  · exact absurd (b2.trans a2.symm) (List.pairwise_iff_getElem.1 h j i b1 a1 hlt)
theorem run_step2 {D : Dv} {l : List Pr} (h : RunInv2 D l) (k id ref : Int) : (devP D k id ref).2 = (doesP l k id ref).2 ∧ RunInv2 (devP D k id ref).1 (doesP l k id ref).1 ∧ (devP D k id ref).1.policy = D.policy ∧ (devP D k id ref).1.id = D.id ∧ (devP D k id ref).1.secret = D.secret := by
  obtain ⟨s1, s2, s3⟩ := run_step h.inv k id ref
  have his : (devP D k id ref).1.id = D.id ∧ (devP D k id ref).1.secret = D.secret := by
    unfold devP; split
    · exact ⟨rfl, rfl⟩
    · split <;> exact ⟨rfl, rfl⟩
  refine ⟨s1, ?_, s3, his⟩
  have hnd := s2.nodup
  suffices key : ((doesP l k id ref).1.map (·.key)).Nodup ∧ (∀ p ∈ (doesP l k id ref).1, 0 ≤ p.id ∧ p.id ≤ 999 ∧ 1 ≤ p.key ∧ 0 ≤ p.psk) ∧ (∀ p ∈ (doesP l k id ref).1, lk p.id (devP D k id ref).1.psks = pskOf p) from ⟨s2, key.1, key.2.1, key.2.2⟩
  have same : (l.map (·.key)).Nodup ∧ (∀ p ∈ l, 0 ≤ p.id ∧ p.id ≤ 999 ∧ 1 ≤ p.key ∧ 0 ≤ p.psk) ∧ (∀ p ∈ l, lk p.id D.psks = pskOf p) := ⟨h.keys, h.fits, h.psks⟩
  have hsub := h.inv.sub
  by_cases h0 : k = 0
  · subst h0
    rw [devP0]
    unfold doesP doesQ
    rw [if_pos rfl]
    by_cases c1 : id < 0 ∨ 999 < id ∨ ref < 1
    · rw [if_pos c1]; exact same
    · rw [if_neg c1]
      by_cases c2 : 0 ≤ atP (fun p => p.id == id) l ∨ 0 ≤ atP (fun p => p.key == ref) l
      · rw [if_pos c2]; exact same
      · rw [if_neg c2]
        by_cases c3 : 8 ≤ l.length
        · rw [if_pos c3]; exact same
        · rw [if_neg c3]
          have hnk : ref ∉ l.map (·.key) := fun hm => by
            obtain ⟨p, hp, e⟩ := List.mem_map.1 hm
            have := atP_no (fun h => c2 (.inr h)) p hp
            simp at this; exact this e
          have hni : id ∉ l.map (·.id) := fun hm => by
            obtain ⟨p, hp, e⟩ := List.mem_map.1 hm
            have := atP_no (fun h => c2 (.inl h)) p hp
            simp at this; exact this e
          refine ⟨?_, fun p hp => ?_, fun p hp => ?_⟩
          · rw [List.map_append, List.nodup_append]
            exact ⟨h.keys, by simp, fun a ha b hb e => by simp at hb; subst e hb; exact hnk ha⟩
          · rcases List.mem_append.1 hp with hp | hp
            · exact h.fits p hp
            · simp at hp; subst hp; simp only; omega
          · rcases List.mem_append.1 hp with hp | hp
            · exact h.psks p hp
            · simp at hp; subst hp
              simp only [pskOf]
              cases hq : lk id D.psks with
              | none => simp
              | some v => exact absurd (hsub id (lk_isSome_mem.1 (by rw [hq]; rfl))) hni
  · have hother : ∀ {n : Nat} {x : Pr}, l[n]? = some x → x.id = id → ∀ (j : Nat) (p : Pr), l[j]? = some p → j ≠ n → p.id ≠ id := fun {n x} hx hxi j p hj hjn e => hjn (nodup_at (f := (·.id)) h.inv.nodup hj hx (by rw [e, hxi]))
    by_cases h1 : k = 1
    · subst h1
      rw [devP1]
      have hd : ∀ i, i ≠ id → lk i (dropD D id).2.1 = lk i D.psks := fun i hi => by
        unfold dropD
        split
        · simp only
          split
          · exact lk_dropI hi _
          · rfl
        · rfl
      unfold doesP doesQ
      rw [if_neg (by decide), if_pos rfl]
      rcases atP_cases (fun p => p.id == id) l with hi | ⟨n, x, hi, hx, hpx⟩
      · rw [hi, if_pos (by decide)]
        refine ⟨h.keys, h.fits, fun p hp => ?_⟩
        have hne : p.id ≠ id := by have := atP_no (by rw [hi]; decide) p hp; simpa using this
        show lk p.id (dropD D id).2.1 = pskOf p
        rw [hd _ hne]; exact h.psks p hp
      · rw [hi, if_neg (by omega)]
        simp only [Int.toNat_natCast]
        have hxi : x.id = id := by simpa using hpx
        rw [← List.eraseIdx_eq_take_drop_succ]
        have hmem : ∀ p ∈ l.eraseIdx n, p ∈ l ∧ p.id ≠ id := fun p hp => by
          obtain ⟨j, hjn, hj⟩ := List.mem_eraseIdx_iff_getElem?.1 hp
          exact ⟨List.mem_of_getElem? hj, hother hx hxi j p hj hjn⟩
        refine ⟨((List.eraseIdx_sublist l n).map _).nodup h.keys, fun p hp => h.fits p (hmem p hp).1, fun p hp => ?_⟩
        rw [hd _ (hmem p hp).2]; exact h.psks p (hmem p hp).1
    · have hd : ∀ i, i ≠ id → lk i (pskD D id ref).1 = lk i D.psks := fun i hi => by
        unfold pskD
        split
        · rfl
        · split
          · rfl
          · split
            · rfl
            · exact lk_setI hi _
      have hok : (pskD D id ref).2 = 0 → (pskD D id ref).1 = setI id ref D.psks := by
        unfold pskD
        split
        · intro h; cases h
        · split
          · intro h; cases h
          · split
            · intro h; cases h
            · intro _; rfl
      have hlt : ref < 1 → (pskD D id ref).1 = D.psks := fun hr => by
        unfold pskD
        rw [if_pos hr]; split <;> rfl
      rw [devP2 _ _ _ _ h0 h1] at s1 ⊢
      unfold doesP doesQ at s1 ⊢
      rw [if_neg h0, if_neg h1] at s1 ⊢
      rcases atP_cases (fun p => p.id == id) l with hi | ⟨n, x, hi, hx, hpx⟩
      · rw [hi, if_pos (by decide)]
        refine ⟨h.keys, h.fits, fun p hp => ?_⟩
        have hne : p.id ≠ id := by have := atP_no (by rw [hi]; decide) p hp; simpa using this
        show lk p.id (pskD D id ref).1 = pskOf p
        rw [hd _ hne]; exact h.psks p hp
      · rw [hi, if_neg (by omega)] at s1 ⊢
        by_cases hr : ref < 1
        · rw [if_pos hr]
          refine ⟨h.keys, h.fits, fun p hp => ?_⟩
          show lk p.id (pskD D id ref).1 = pskOf p
          rw [hlt hr]; exact h.psks p hp
        · rw [if_neg hr] at s1 ⊢
          simp only [Int.toNat_natCast] at s1 ⊢
          have hxi : x.id = id := by simpa using hpx
          have hget : l[n]! = x := by rw [getElem!_def, hx]
          rw [hget]
          have hf := h.fits x (List.mem_of_getElem? hx)
          have hnl := (List.getElem?_eq_some_iff.1 hx).1
          have hcase : ∀ p ∈ l.set n ⟨x.id, x.key, ref⟩, p = ⟨x.id, x.key, ref⟩ ∨ (p ∈ l ∧ p.id ≠ id) := fun p hp => by
            obtain ⟨j, hj⟩ := List.mem_iff_getElem?.1 hp
            rw [List.getElem?_set] at hj
            by_cases e : n = j
            · rw [if_pos e, if_pos hnl] at hj
              left; injection hj with hj; exact hj.symm
            · rw [if_neg e] at hj
              exact .inr ⟨List.mem_of_getElem? hj, hother hx hxi j p hj (Ne.symm e)⟩
          refine ⟨?_, fun p hp => ?_, fun p hp => ?_⟩
          · rw [List.map_set]
            have : (l.map (·.key)).set n x.key = l.map (·.key) := by
              apply List.ext_getElem?
              intro j
              rw [List.getElem?_set]
              by_cases e : n = j
              · subst e; simp [hnl, (List.getElem?_eq_some_iff.1 hx).2]
              · rw [if_neg e]
            show ((l.map (·.key)).set n x.key).Nodup
            rw [this]; exact h.keys
          · rcases hcase p hp with rfl | ⟨hp, _⟩
            · exact ⟨hf.1, hf.2.1, hf.2.2.1, by show 0 ≤ ref; omega⟩
            · exact h.fits p hp
          · rcases hcase p hp with rfl | ⟨hp, hne⟩
            · show lk x.id (pskD D id ref).1 = pskOf ⟨x.id, x.key, ref⟩
              rw [hok s1, hxi, lk_setI_same]
              simp only [pskOf]; rw [if_pos (by omega)]
            · show lk p.id (pskD D id ref).1 = pskOf p
              rw [hd _ hne]; exact h.psks p hp
def RunPost2 (w : World) (id0 policy : Int) (e : Ending) (w' : World) : Prop :=
  ∃ d r1 r2 v D l, e = .returned (.tuple #[.pointer (some ⟨d, 0, none⟩), v, .bool true]) ∧ RunInv2 D l ∧ (D.policy = policy ∧ D.id = id0 ∧ D.secret = 1) ∧ Own w w' (runL d r1 r2 D v l)
set_option maxHeartbeats 3200000 in
set_option maxRecDepth 100000 in
theorem run2_calls (w : World) (id0 policy : Int) (hid : namedP id0 = true) (hp0 : 0 ≤ policy) (hp2 : policy ≤ 2) (A : Option Addr) (c : Nat) (os : List (Int × Int × Int)) (hx : Holds w A (os.flatMap three)) (hm : os.length ≤ 30) :
    Calls Tryz.prog 13 #[.int .i64 id0, .int .i64 1, .int .i64 policy, .slice A os.length c] w (RunPost2 w id0 policy) := by
  have Hx := Lib.hid hx
  have hd : decide (30 < os.length) = false := decide_eq_false (by omega)
  have hd2 : decide ((30 : Int) < (os.length : Int)) = false := decide_eq_false (by omega)
  clear hx
  go_enter Tryz.func13, Tryz.ntmps13
  go_wp2_with fail
  refine (dNew_own (Own.start w) id0 1 policy (by simp [mayD, hid, hp0, hp2])).mono ?_
  rintro e w1 ⟨d, r1, r2, rfl, o1⟩
  have o2 : Own w w1 (runL d r1 r2 ⟨id0, 1, policy, [], []⟩ (.slice none 0 0) []) := o1.newRow (Below.refl _ _) (World.ownsRow_nil _ _ _ _)
  have O2 := Lib.hid o2
  clear o1 o2
  go_wp2_with fail
  go_loopw [13, 39] (fun v' i wr => ∃ (k : Nat) (D : Dv) (l : List Pr) (v : Value), k ≤ os.length ∧ i = .int .i64 k ∧ v' = v ∧ RunInv2 D l ∧ (D.policy = policy ∧ D.id = id0 ∧ D.secret = 1) ∧ Own w wr (runL d r1 r2 D v l))
    (fun _ i _ => (os.length - intOf i).toNat)
  case atStart => exact ⟨0, _, [], _, by omega, rfl, rfl, ⟨⟨rfl, by simp, by simp, (fun i hi => by cases hi), Nat.zero_le _⟩, by simp, (fun p hp => by cases hp), (fun p hp => by cases hp)⟩, ⟨rfl, rfl, rfl⟩, O2.out⟩
  case round =>
    obtain ⟨k, D, l, v, hk, rfl, hv, hinv, hpol, ol⟩ := hrel
    have hv := hv.symm
    subst hv
    have OL := Lib.hid ol
    have HI := Lib.hid hinv
    have HP := Lib.hid hpol
    have hlen := hinv.inv.len
    clear ol hinv hpol
    by_cases hlt : k < os.length
    · obtain ⟨o, ho⟩ : ∃ o, os[k]? = some o := ⟨_, List.getElem?_eq_getElem hlt⟩
      obtain ⟨ki, id, ref⟩ := o
      obtain ⟨ab, af, rfl, c0, c1, c2⟩ := threeO_at (Hx.out.below OL.out.below) ho
      simp only at c0 c1 c2
      have ik : (k : Int) < os.length := by omega
      have hs := run_step2 HI.out ki id ref
      rw [HP.out.1, HP.out.2.1, HP.out.2.2] at hs
      have HS := Lib.hid hs
      clear hs
      go_wp2_with fail
      have o3 : Own w _ (blk wr.heap.size (.cells #[.int .i64 ki, .int .i64 id, .int .i64 ref] 77) :: runL d r1 r2 D v l) := OL.out.alloc _
      refine (does_calls (l := l) (o3.row (i := 1) rfl) (by omega) ki id ref).mono ?_
      rintro e w2 ⟨v', rfl, hb2, hd2⟩
      have o4 : Own w w2 (blk wr.heap.size (.cells #[.int .i64 ki, .int .i64 id, .int .i64 ref] 77) :: runL d r1 r2 D v' (doesP l ki id ref).1) := o3.does (i := 1) rfl hb2 hd2
      have hop : OpBox w2 wr.heap.size ki id ref := o4.blk (i := 0) rfl
      obtain ⟨p0, p1, p2⟩ := hop.cells
      have lp := lt_of_heap hop
      clear c0 c1 c2 o3 hb2 hd2 hop
      have hs := HS.out
      by_cases hk0 : ki = 0
      · subst hk0
        rw [devP0] at hs
        simp only at hs
        have HS2 := Lib.hid hs
        have he := hs.1
        generalize (doesP l 0 id ref).2 = er at *
        clear hs HS
        go_wp2_with fail
        refine (dAdd_own (D := D) o4 2 4 rfl rfl id ref).mono ?_
        rintro e w3 ⟨rfl, o5⟩
        rw [he]
        have O5 := Lib.hid o5
        clear p0 p1 p2 lp o4 o5 he
        go_wp2_with fail
        refine ⟨⟨k + 1, _, _, _, by omega, by simp, rfl, HS2.out.2.1, HS2.out.2.2, O5.out.tail⟩, ?_⟩
        simp only [intOf]; omega
      · have hd0 : (ki == 0) = false := by simpa using hk0
        by_cases hk1 : ki = 1
        · subst hk1
          rw [devP1] at hs
          simp only at hs
          have HS2 := Lib.hid hs
          have he := hs.1
          generalize (doesP l 1 id ref).2 = er at *
          clear hs HS
          go_wp2_with fail
          refine (dDrop_own (D := D) o4 2 4 3 rfl rfl rfl (by decide) (by decide) id).mono ?_
          rintro e w3 ⟨rfl, o5⟩
          rw [he]
          have O5 := Lib.hid o5
          clear p0 p1 p2 lp o4 o5 he
          go_wp2_with fail
          refine ⟨⟨k + 1, _, _, _, by omega, by simp, rfl, HS2.out.2.1, HS2.out.2.2, O5.out.tail⟩, ?_⟩
          simp only [intOf]; omega
        · have hd1 : (ki == 1) = false := by simpa using hk1
          rw [devP2 _ _ _ _ hk0 hk1] at hs
          simp only at hs
          have HS2 := Lib.hid hs
          have he := hs.1
          generalize (doesP l ki id ref).2 = er at *
          clear hs HS hk0 hk1
          go_wp2_with fail
          refine (dPsk_own (D := D) o4 2 4 3 rfl rfl rfl id ref).mono ?_
          rintro e w3 ⟨rfl, o5⟩
          rw [he]
          have O5 := Lib.hid o5
          clear p0 p1 p2 lp o4 o5 he
          go_wp2_with fail
          refine ⟨⟨k + 1, _, _, _, by omega, by simp, rfl, HS2.out.2.1, HS2.out.2.2, O5.out.tail⟩, ?_⟩
          simp only [intOf]; omega
    · obtain rfl : k = os.length := by omega
      go_wp2_with fail
      go_ret3
      exact ⟨d, r1, r2, _, D, l, rfl, HI.out, HP.out, OL.out⟩
/-! The law's digits of layer 15; what one call makes joined to what was made. -/
theorem Own.join {w0 w1 w2 : World} {L M : List Thing} (h : Own w0 w1 L) (h2 : Own w1 w2 M) : Own w0 w2 (M ++ L) := by
  have hc := h.call h2.below
  obtain ⟨hb, f, f1, f2, f3⟩ := hc
  obtain ⟨hb1, f', g1, g2, g3⟩ := h
  obtain ⟨hb2, f'', k1, k2, k3⟩ := h2
  have hlt : ∀ j b, j < L.length → f' j b → b < w1.heap.size := fun j b hj hf => (L[j]).lt w1 (f' j) (g1 j _ (List.getElem?_eq_getElem hj)) b hf
  refine ⟨hb, fun i => if i < M.length then f'' i else f' (i - M.length), fun i P hP => ?_, fun i j b hi hj hfi hfj => ?_, fun i b hi hf => ?_⟩
  · show P.P w2 (if i < M.length then f'' i else f' (i - M.length))
    by_cases h : i < M.length
    · rw [if_pos h]; rw [List.getElem?_append_left h] at hP; exact k1 i P hP
    · rw [if_neg h]; rw [List.getElem?_append_right (by omega)] at hP
      exact P.keep w1 w2 _ None (g1 _ P hP) (Upd.of_below hb2) (fun _ _ h => h)
  · rw [List.length_append] at hi hj
    by_cases h : i < M.length <;> by_cases h' : j < M.length
    · rw [if_pos h] at hfi; rw [if_pos h'] at hfj; exact k2 i j b h h' hfi hfj
    · rw [if_pos h] at hfi; rw [if_neg h'] at hfj
      have := k3 i b h hfi; have := hlt _ b (by omega) hfj; omega
    · rw [if_neg h] at hfi; rw [if_pos h'] at hfj
      have := k3 j b h' hfj; have := hlt _ b (by omega) hfi; omega
    · rw [if_neg h] at hfi; rw [if_neg h'] at hfj
      have := g2 _ _ b (by omega) (by omega) hfi hfj; omega
  · rw [List.length_append] at hi
    by_cases h : i < M.length
    · rw [if_pos h] at hf; have := k3 i b h hf; have := hb1.size; omega
    · rw [if_neg h] at hf; exact g3 _ b (by omega) hf
set_option maxHeartbeats 1600000 in
set_option maxRecDepth 100000 in
theorem dig15 (u : Nat) (h : u < 10) (w : World) : Calls Tryz.prog 20 #[.int .i64 u] w fun e w' => e = .returned (.string (strO (digs u))) ∧ w = w' := by
  have : u = 0 ∨ u = 1 ∨ u = 2 ∨ u = 3 ∨ u = 4 ∨ u = 5 ∨ u = 6 ∨ u = 7 ∨ u = 8 ∨ u = 9 := by omega
  rcases this with rfl | rfl | rfl | rfl | rfl | rfl | rfl | rfl | rfl | rfl
  all_goals
    go_enter Tryz.func20, Tryz.ntmps20
    go_wp2
    go_ret
    refine ⟨?_, rfl⟩
    unfold digs
    rw [Lib.decDigits_one (by decide)]
    exact congrArg (fun s => Ending.returned (Value.string s)) (by decide +kernel)
set_option maxHeartbeats 1600000 in
set_option maxRecDepth 100000 in
theorem digits15_calls : ∀ (n u : Nat) (w : World), u < n → u < 9223372036854775808 → Calls Tryz.prog 20 #[.int .i64 u] w fun e w' => e = .returned (.string (strO (digs u))) ∧ w = w' := by
  intro n
  induction n with
  | zero => intro u w h; omega
  | succ n ih =>
    intro u w h h64
    by_cases h10 : u < 10
    · exact dig15 u h10 w
    · have hd : decide (u < 10) = false := decide_eq_false h10
      have hd2 : decide ((u : Int) < 10) = false := decide_eq_false (by omega)
      have hs : digs u = digs (u / 10) ++ digs (u % 10) := by
        unfold digs
        rw [Lib.decDigits, dif_neg h10, Lib.decDigits_one (Nat.mod_lt _ (by decide))]
      have Hs := Lib.hid hs
      have hl := digs_len (u / 10) (by omega)
      have hl2 := digs_len (u % 10) (by omega)
      have IH := Lib.hid ih
      have e1 : Int.tdiv (u : Int) 10 = ((u / 10 : Nat) : Int) := by rw [Int.tdiv_eq_ediv_of_nonneg (by omega)]; rfl
      have e2 : Int.tmod (u : Int) 10 = ((u % 10 : Nat) : Int) := by rw [Int.tmod_eq_emod_of_nonneg (by omega)]; rfl
      have hq := Lib.hid (show u / 10 < n ∧ u / 10 < 9223372036854775808 by omega)
      have hr : u % 10 < 10 := by omega
      have Hr := Lib.hid hr
      have ha : ∀ w, (Op.stringOp .add (strO (digs (u / 10))) (strO (digs (u % 10)))).run Tryz.prog w = .ok (.string (strO (digs u))) w := fun w => by rw [Hs.out]; exact addS _ _ (by omega) (by omega) w
      clear hs ih h
      go_enter Tryz.func20, Tryz.ntmps20
      go_wp2_with fail
      refine (IH.out (u / 10) w hq.out.1 hq.out.2).mono ?_
      rintro e w1 ⟨rfl, rfl⟩
      go_wp2_with fail
      refine (dig15 (u % 10) Hr.out w).mono ?_
      rintro e w1 ⟨rfl, rfl⟩
      go_wp2_with fail
      go_ret
      exact ⟨rfl, rfl⟩
end Go.Proofs.YtfelbecofbdeaaaGreatDoor
