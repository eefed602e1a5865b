/- Packed by packn.py: Term5, OwnA, Ci, Cip. -/
import Derived.Test.YtikimmgileffgaaGreatDoorQk13
import Derived.Deep.AppendLies
import Derived.Deep.RegionLaw
import Derived.StillTailTactics
import Derived.Test.YtikimmgileffgaaGreatDoorQk03
import Derived.Test.YtikimmgileffgaaGreatDoorQk02
/- Mk of layer 1: the term of a node, found or new; nothing but the arena changes. -/
section
namespace Go.Proofs.YtikimmgileffgaaGreatDoor
open Go.RowKit

theorem findL_entries (x : Nd) : ∀ (l : List Nd) (i j : Nat), findL x ((l.zipIdx i).map fun p => (p.1, Value.int .i64 p.2)) j = (l.idxOf? x).map fun k => (j + k, Value.int .i64 ((i + k : Nat) : Int))
  | [], i, j => by simp [findL]
  | y :: l, i, j => by
    simp only [List.zipIdx_cons, List.map_cons, findL, List.idxOf?_cons]
    by_cases h : x = y
    · subst h; simp
    · have h' : (y == x) = false := by simp [Ne.symm h]
      rw [if_neg h, findL_entries x l (i + 1) (j + 1)]
      simp only [h', Bool.false_eq_true, if_false, Option.map_map]
      congr 1
      funext k
      simp only [Function.comp]
      rw [show j + 1 + k = j + (k + 1) by omega, show i + 1 + k = i + (k + 1) by omega]
theorem findL_entriesOf (x : Nd) (l : List Nd) : findL x (entriesOf l) 0 = (l.idxOf? x).map fun k : Nat => (k, Value.int .i64 (k : Int)) := by
  have := findL_entries x l 0 0
  simpa [entriesOf] using this
theorem entriesOf_snoc (l : List Nd) (x : Nd) : entriesOf (l ++ [x]) = entriesOf l ++ [(x, .int .i64 l.length)] := by
  simp [entriesOf, List.zipIdx_append]

theorem wf_snoc {l : List Nd} {x : Nd} (h : Wf l) (hr : right l x = true) (hn : l.idxOf? x = none) (h0 : 0 ≤ x.n) (h1 : x.n ≤ 18446744073709551615) : Wf (l ++ [x]) := by
  have hk : ¬ (x.kind < 0 ∨ 9 < x.kind) := fun e => by rw [right_bad (by omega)] at hr; cases hr
  have hnum : numberedP x = true := by
    cases hh : numberedP x with
    | true => rfl
    | false => rw [right_bad (.inr (.inr (.inl hh)))] at hr; cases hr
  have hp : partsOk l x = true := by
    cases hh : partsOk l x with
    | true => rfl
    | false => rw [right_bad (.inr (.inr (.inr hh)))] at hr; cases hr
  have hpos : 0 < l.length := (List.getElem?_eq_some_iff.1 h.head).1
  have hp' := (partsOk_iff l x).1 hp
  have hpart : ∀ k, 0 ≤ x.part k ∧ (x.part k = 0 ∨ x.part k < l.length) := by
    have key : ∀ k, k < 3 → 0 ≤ x.part k ∧ (x.part k = 0 ∨ x.part k < l.length) := fun k hk3 => by
      have := hp' k hk3
      unfold okPart at this
      split at this
      · have := has_iff.1 this; exact ⟨this.1, .inr this.2⟩
      · have := of_decide_eq_true this; omega
    intro k
    rcases Nat.lt_or_ge k 2 with h2 | h2
    · exact key k (by omega)
    · have := key 2 (by omega)
      have e : x.part k = x.part 2 := by unfold Nd.part; rw [if_neg (by omega), if_neg (by omega), if_neg (by omega), if_neg (by omega)]
      rw [e]; exact this
  refine ⟨?_, ?_, ?_, ?_, ?_⟩
  · rw [List.getElem?_append_left hpos]; exact h.head
  · rw [List.nodup_append]
    refine ⟨h.nodup, by simp, fun a ha b hb => ?_⟩
    simp at hb; subst hb
    rintro rfl
    rw [List.idxOf?_eq_none_iff] at hn
    exact hn ha
  · intro i n hi k
    rw [List.getElem?_append] at hi
    split at hi
    · exact h.parts i n hi k
    · rename_i hge
      have : i - l.length = 0 := by
        rcases Nat.eq_zero_or_pos (i - l.length) with h' | h'
        · exact h'
        · rw [List.getElem?_eq_none (by simp; omega)] at hi; cases hi
      rw [this] at hi; simp at hi; subst hi
      have := hpart k
      omega
  · intro n hn'
    rcases List.mem_append.1 hn' with h' | h'
    · exact h.fits n h'
    · simp at h'; subst h'; exact ⟨h0, h1, by omega, by omega⟩
  · intro n hn'
    rcases List.mem_append.1 hn' with h' | h'
    · exact h.valid n h'
    · simp at h'; subst h'
      refine ⟨hnum, fun hm => ?_, fun hm => ?_, fun hm => ?_⟩
      · have := hp' 0 (by omega); unfold okPart at this; rw [if_neg (by omega)] at this; exact of_decide_eq_true this
      · have := hp' 1 (by omega); unfold okPart at this; rw [if_neg (by omega)] at this; exact of_decide_eq_true this
      · have := hp' 2 (by omega); unfold okPart at this; rw [if_neg (by omega)] at this; exact of_decide_eq_true this

/-- What a call that makes terms leaves: another arena, in the old blocks or new ones. -/
def Left (w : World) (r : Nat) (S : Nat → Prop) (A' : Ar) (w' : World) : Prop := ∃ S', IsArena w' r A' S' ∧ Upd S w w' ∧ ∀ b, S' b → S b ∨ w.heap.size ≤ b
def MkPost (R : Ar) (x : Nd) (S : Nat → Prop) (r : Nat) (w : World) (e : Ending) (w' : World) : Prop :=
  e = .returned (.tuple #[.int .i64 (mk R x).2.1, .int .i64 (mk R x).2.2]) ∧ Left w r S (mk R x).1 w'
theorem Left.of_below {w w' : World} {r : Nat} {S : Nat → Prop} {A : Ar} (h : IsArena w r A S) (u : Below w.heap.size w w') : Left w r S A w' :=
  ⟨S, h.below u, Upd.of_below u, fun _ hb => .inl hb⟩

theorem mk_end {w w3 w5 W w6 : World} {r g bm cap gg cp : Nat} {R : Ar} {x : Nd} {S : Nat → Prop} (hb3 : Below w.heap.size w w3) (ha : ArenaAt w3 r g bm cap R) (u5 : Upd (One bm) w3 w5) (m5 : MapIs Nd.val w5 bm (setL x (.int .i64 R.l.length) (entriesOf R.l)))
    (sr : S r) (sg : S g) (sm : S bm) (hlt : ∀ b, S b → b < w.heap.size) (hne1 : r ≠ bm) (hrg : r ≠ g) (hgb : g ≠ bm) (hwf : Wf (R.l ++ [x])) (hroom : R.l.length + 1 ≤ R.limit)
    (hW : Below w5.heap.size w5 W) (hWs : W.heap.size = w5.heap.size + 1) (hgrow : W.grownBy w6 (Value.slice (some ⟨g, 0, none⟩) R.l.length cap).ownBlock)
    (hown : w6.ownsRow 0 103 5 (.slice (some ⟨gg, 0, none⟩) (R.l.length + 1) cp) (R.l.length + 1) (R.l.flatMap Nd.cells ++ x.cells)) (hat : (Value.slice (some ⟨g, 0, none⟩) R.l.length cap).ownBlock = some gg ∨ gg = w5.heap.size + 1) (hnew : findL x (entriesOf R.l) 0 = none) :
    Left w r S ⟨R.limit, R.l ++ [x]⟩ (w6.setCell ⟨r, 1, none⟩ (.slice (some ⟨gg, 0, none⟩) (R.l.length + 1) cp)) := by
  have hr := hlt r sr
  have hg := hlt g sg
  have hbm := hlt bm sm
  have h3 := hb3.size
  have h5 := u5.size
  have hat' : gg = g ∨ gg = w5.heap.size + 1 := by
    rcases hat with h | h
    · left; simp [Value.ownBlock] at h; exact h.symm
    · exact .inr h
  have hgr : gg ≠ r := by rcases hat' with h | h <;> omega
  have hgm : gg ≠ bm := by rcases hat' with h | h <;> omega
  -- what is kept from w5 to the end: all but g, r
  have hk6 : ∀ k, k < w5.heap.size → k ≠ g → w6.heap[k]? = w5.heap[k]? := fun k hk hkg =>
    (hgrow.block k (by omega) (by simp [Value.ownBlock]; omega)).trans (hW.block k hk)
  have hk7 : ∀ (k : Nat) (v : Value), k ≠ r → (w6.setCell ⟨r, 1, none⟩ v).heap[k]? = w6.heap[k]? := fun k v hk => Below.heap_setCell _ _ _ _ hk
  have hroot6 : w6.heap[r]? = some (.cells #[.int .i64 R.limit, .slice (some ⟨g, 0, none⟩) R.l.length cap, .map (some bm)] 141 (0, 0)) :=
    (hk6 r (by omega) hrg).trans (u5.heap ha.root hne1)
  have hroot7 := heap_setCell_at (o := 1) hroot6 (.slice (some ⟨gg, 0, none⟩) (R.l.length + 1) cp)
  have hs6 := hgrow.size
  have hs7 : ∀ v, (w6.setCell ⟨r, 1, none⟩ v).heap.size = w6.heap.size := fun v => by simp [World.setCell]
  refine ⟨fun b => S b ∨ b = gg, ⟨gg, bm, cp, ⟨?_, ?_, ?_, hwf, ?_⟩, .inl sr, .inr rfl, .inl sm, ?_⟩, ⟨?_, ?_, ?_, ?_, ?_⟩, ?_⟩
  · rw [hroot7]; simp
  · have := ownsRow_upd' (S := One r) (w' := w6.setCell ⟨r, 1, none⟩ (.slice (some ⟨gg, 0, none⟩) (R.l.length + 1) cp)) hown ⟨rfl, rfl, rfl, Nat.le_of_eq (hs7 (.slice (some ⟨gg, 0, none⟩) (R.l.length + 1) cp)).symm, fun k _ hk => hk7 k _ hk⟩ (fun k hk e => by simp [Value.ownBlock] at hk; unfold One at e; omega)
    simpa using this
  · obtain ⟨es, cl, h1, h2⟩ := m5
    refine ⟨es, cl, ?_, ?_⟩
    · rw [hk7 bm _ (Ne.symm hne1), hk6 bm (by omega) (Ne.symm hgb)]; exact h1
    · rw [h2, setL, hnew, entriesOf_snoc]
  · have := ha.room; simp only [List.length_append, List.length_cons, List.length_nil]; omega
  · intro b hb
    rw [hs7]
    rcases hb with hb | rfl
    · have := hlt b hb; omega
    · rcases hat' with h | h
      · omega
      · rcases hown.2 with ⟨h2, _⟩ | ⟨g', cp', cur, h2, _, h3', _⟩
        · cases h2
        · simp only [Value.slice.injEq, Option.some.injEq, Addr.mk.injEq] at h2
          rw [← h2.1.1] at h3'; exact lt_of_heap h3'
  · exact hgrow.os.trans (hW.os.trans (u5.os.trans hb3.os))
  · exact hgrow.tape.trans (hW.tape.trans (u5.tape.trans hb3.tape))
  · exact hgrow.output.trans (hW.output.trans (u5.output.trans hb3.output))
  · rw [hs7]; omega
  · intro k hk hS
    have k1 : k ≠ r := fun e => hS (e ▸ sr)
    have k2 : k ≠ g := fun e => hS (e ▸ sg)
    have k3 : k ≠ bm := fun e => hS (e ▸ sm)
    rw [hk7 k _ k1, hk6 k (by omega) k2, u5.block k (by omega) k3]
    exact hb3.block k hk
  · intro b hb
    rcases hb with hb | rfl
    · exact .inl hb
    · rcases hat' with h | h
      · left; rw [h]; exact sg
      · right; omega

set_option maxHeartbeats 3200000 in
set_option maxRecDepth 100000 in
theorem mk_calls {S : Nat → Prop} {r : Nat} {R : Ar} {x : Nd} {w : World} (hr : IsArena w r R S) (hn0 : 0 ≤ x.n) (hn1 : x.n ≤ 18446744073709551615) :
    Calls Tryz.prog 43 #[.pointer (some ⟨r, 0, none⟩), x.val] w (MkPost R x S r w) := by
  have hb1 : Below w.heap.size w (w.alloc (.cells #[.int .i64 x.kind, .int .u64 x.n, .int .i64 x.a, .int .i64 x.b, .int .i64 x.c] 103)) := (Below.refl _ _).alloc (Nat.le_refl _) _
  have hr1 := hr.below hb1
  obtain ⟨g, bm, cap, ha, sr, sg, sm, hlt⟩ := hr1
  obtain ⟨iE, hE, hz, -, -⟩ := info_parts (show (Tryz.prog.info? 3).map (fun i => (i.zero, i.size, i.bytes)) = some (some (.int .i64 0), 1, 8) by kernel_rfl)
  have hlk := fun n => lookup_ok (w := (w.alloc (.cells #[.int .i64 x.kind, .int .u64 x.n, .int .i64 x.a, .int .i64 x.b, .int .i64 x.c] 103)).drewN n) keyOk_nd Tryz.underlying139 hE hz ha.map x
  rw [findL_entriesOf] at hlk
  have c0 := cell_of_heap (o := 0) ha.root
  have c1 := cell_of_heap (o := 1) ha.root
  have c2 := cell_of_heap (o := 2) ha.root
  simp only [List.getElem?_toArray, List.getElem?_cons_zero, List.getElem?_cons_succ] at c0 c1 c2
  have Hr := Lib.hid hr
  clear hr ha hE hz
  simp only [Nd.val] at hlk
  cases hfi : R.l.idxOf? x with
  | some k =>
    rw [hfi] at hlk
    simp only [Option.map_some, Option.getD_some, Option.isSome_some] at hlk
    have hvx : x.val = .agg #[.int .i64 x.kind, .int .u64 x.n, .int .i64 x.a, .int .i64 x.b, .int .i64 x.c] := rfl
    rw [hvx]
    clear hvx
    go_enter Tryz.func43, Tryz.ntmps43
    go_wp2_with fail
    go_quiet (fail)
    go_wp2_with fail
    have hbq : Below w.heap.size w ((w.alloc (.cells #[.int .i64 x.kind, .int .u64 x.n, .int .i64 x.a, .int .i64 x.b, .int .i64 x.c] 103)).drewN nq) := hb1.trans (Upd.below (S := None) ((Upd.refl _ _).drewN _) (by simp) (fun _ _ h => h))
    refine (right_calls (x := x) (Hr.out.below hbq) hn0 hn1).mono ?_
    rintro e w2 ⟨rfl, hb2⟩
    have hbw := hbq.trans (hb2.mono hbq.size)
    cases hR : right R.l x with
    | false =>
      have hmk := Lib.hid (show mk R x = (R, 0, 1) by simp [mk, hR])
      clear hlk
      go_wp2_with fail
      go_ret2
      exact ⟨by rw [hmk.out]; rfl, by rw [hmk.out]; exact Left.of_below Hr.out hbw⟩
    | true =>
      have hmk := Lib.hid (show mk R x = (R, (k : Int), 0) by simp [mk, hR, hfi])
      clear hlk
      go_wp2_with fail
      go_ret2
      exact ⟨by rw [hmk.out]; rfl, by rw [hmk.out]; exact Left.of_below Hr.out hbw⟩
  | none =>
    rw [hfi] at hlk
    simp only [Option.map_none, Option.getD_none, Option.isSome_none] at hlk
    have hvx : x.val = .agg #[.int .i64 x.kind, .int .u64 x.n, .int .i64 x.a, .int .i64 x.b, .int .i64 x.c] := rfl
    rw [hvx]
    clear hvx
    go_enter Tryz.func43, Tryz.ntmps43
    go_wp2_with fail
    go_quiet (fail)
    go_wp2_with fail
    have hbq : Below w.heap.size w ((w.alloc (.cells #[.int .i64 x.kind, .int .u64 x.n, .int .i64 x.a, .int .i64 x.b, .int .i64 x.c] 103)).drewN nq) := hb1.trans (Upd.below (S := None) ((Upd.refl _ _).drewN _) (by simp) (fun _ _ h => h))
    refine (right_calls (x := x) (Hr.out.below hbq) hn0 hn1).mono ?_
    rintro e w2 ⟨rfl, hb2⟩
    have hbw := hbq.trans (hb2.mono hbq.size)
    have nx : NdAt w2 w.heap.size x := NdAt.below (w := (w.alloc (.cells #[.int .i64 x.kind, .int .u64 x.n, .int .i64 x.a, .int .i64 x.b, .int .i64 x.c] 103)).drewN nq) (heap_alloc_new w _) hb2
    clear hb1 hbq hb2 hlk c0 c1 c2
    cases hR : right R.l x with
    | false =>
      have hmk := Lib.hid (show mk R x = (R, 0, 1) by simp [mk, hR])
      go_wp2_with fail
      go_ret2
      exact ⟨by rw [hmk.out]; rfl, by rw [hmk.out]; exact Left.of_below Hr.out hbw⟩
    | true =>
      obtain ⟨g, bm, cap, ha, sr, sg, sm, hlt⟩ := Hr.out.below hbw
      have c0 := cell_of_heap (o := 0) ha.root
      have c1 := cell_of_heap (o := 1) ha.root
      have c2 := cell_of_heap (o := 2) ha.root
      simp only [List.getElem?_toArray, List.getElem?_cons_zero, List.getElem?_cons_succ] at c0 c1 c2
      have Ha := Lib.hid ha
      clear ha
      by_cases hfull : R.limit ≤ R.l.length
      · have hmk := Lib.hid (show mk R x = (R, 0, 3) by simp [mk, hR, hfi, hfull])
        have hd : decide ((R.limit : Int) ≤ (R.l.length : Int)) = true := decide_eq_true (by omega)
        have hd2 : decide (R.limit ≤ R.l.length) = true := decide_eq_true hfull
        clear hfull
        go_wp2_with fail
        go_quiet (fail)
        go_wp2_with fail
        go_ret2
        exact ⟨by rw [hmk.out]; rfl, by rw [hmk.out]; exact Left.of_below Hr.out (hbw.trans (Upd.below (S := None) ((Upd.refl _ _).drewN _) hbw.size (fun _ _ h => h)))⟩
      · have hmk := Lib.hid (show mk R x = (⟨R.limit, R.l ++ [x]⟩, (R.l.length : Int), 0) by simp [mk, hR, hfi, hfull])
        have hd : decide ((R.limit : Int) ≤ (R.l.length : Int)) = false := decide_eq_false (by omega)
        have hd2 : decide (R.limit ≤ R.l.length) = false := decide_eq_false hfull
        have hroom : R.l.length + 1 ≤ R.limit := by omega
        clear hfull
        go_wp2_with fail
        go_quiet (fail)
        go_wp2_with fail
        obtain ⟨w3, hw3⟩ : ∃ w3 : World, w3 = w2.drewN nq := ⟨_, rfl⟩
        rw [← hw3]
        have hb3 : Below w.heap.size w w3 := by rw [hw3]; exact hbw.trans (Upd.below (S := None) ((Upd.refl _ _).drewN _) hbw.size (fun _ _ h => h))
        have Ha3 := Lib.hid (show ArenaAt w3 r g bm cap R by rw [hw3]; exact Ha.out.keep (S := None) ((Upd.refl _ _).drewN _) (fun h => h) (fun h => h) (fun h => h))
        have nx3 : NdAt w3 w.heap.size x := by rw [hw3]; exact nx
        clear hw3 c0 c1 c2 Ha nx hd hd2
        have c0 := cell_of_heap (o := 0) Ha3.out.root
        have c1 := cell_of_heap (o := 1) Ha3.out.root
        have c2 := cell_of_heap (o := 2) Ha3.out.root
        simp only [List.getElem?_toArray, List.getElem?_cons_zero, List.getElem?_cons_succ] at c0 c1 c2
        obtain ⟨n0, n1, n2, n3, n4⟩ := nx3.cells
        have hmp := Ha3.out.map
        have lx := lt_of_heap nx3
        have hne1 : r ≠ bm := by
          intro e; obtain ⟨es, cl, h, _⟩ := hmp; have := Ha3.out.root; rw [e, h] at this; cases this
        have hne2 : w.heap.size ≠ bm := by
          intro e; obtain ⟨es, cl, h, _⟩ := hmp; have := nx3; unfold NdAt at this; rw [e, h] at this; cases this
        obtain ⟨w5, r5, m5, u5, s5, d5⟩ := update_ok keyOk_nd Tryz.underlying139 hmp.drew x (.int .i64 R.l.length)
        simp only [Nd.val] at r5
        have u5' : Upd (One bm) w3 w5 := (Upd.refl _ _).drew.trans u5
        have e1 := u5'.cell' c1 hne1
        have e2 := u5'.cell' c2 hne1
        have nx5 : NdAt w5 w.heap.size x := u5'.heap nx3 hne2
        obtain ⟨f0, f1, f2, f3, f4⟩ := nx5.cells
        clear hmp s5 d5 u5
        go_region_held3 (fun w' => w'.cell? ⟨r, 2, none⟩ = some (.map (some bm)) ∧ w'.cell? ⟨r, 1, none⟩ = some (.slice (some ⟨g, 0, none⟩) R.l.length cap) ∧ w'.cell? ⟨w.heap.size, 0, none⟩ = some (.int .i64 x.kind) ∧ w'.cell? ⟨w.heap.size, 1, none⟩ = some (.int .u64 x.n) ∧ w'.cell? ⟨w.heap.size, 2, none⟩ = some (.int .i64 x.a) ∧ w'.cell? ⟨w.heap.size, 3, none⟩ = some (.int .i64 x.b) ∧ w'.cell? ⟨w.heap.size, 4, none⟩ = some (.int .i64 x.c))
          (first | go_keep)
          ((fail))
        clear r5 c0 c1 c2 n0 n1 n2 n3 n4
        go_wp2_with fail
        have hrg : r ≠ g := by
          intro e; have h1 := Ha3.out.root; rcases Ha3.out.row.2 with ⟨h2, _⟩ | ⟨g', cp, cur, h2, _, h3, _⟩
          · cases h2
          · simp only [Value.slice.injEq, Option.some.injEq, Addr.mk.injEq] at h2
            rw [← h2.1.1, ← e, h1] at h3; cases h3
        have hgb : g ≠ bm := by
          intro e; obtain ⟨es, cl, h, _⟩ := Ha3.out.map; rcases Ha3.out.row.2 with ⟨h2, _⟩ | ⟨g', cp, cur, h2, _, h3, _⟩
          · cases h2
          · simp only [Value.slice.injEq, Option.some.injEq, Addr.mk.injEq] at h2
            rw [← h2.1.1, e, h] at h3; cases h3
        have hown5 := ownsRow_upd' Ha3.out.row u5' (fun k hk => by simp [Value.ownBlock] at hk; subst hk; exact hgb)
        have hroot5 := u5'.heap Ha3.out.root hne1
        have hfz := frozen_of_heap (o := 1) hroot5
        have hlim := Ha3.out.room
        have hg0 := Hr.out.lt g sg
        have hr0 := Hr.out.lt r sr
        have hsz5 : w.heap.size < w5.heap.size := lt_of_heap nx5
        obtain ⟨i0, hi, hz0, hz1, hz2⟩ := info_parts (show (Tryz.prog.info? 103).map (fun i => (i.zero, i.size, i.bytes)) = some (some (.agg #[.int .i64 0, .int .u64 0, .int .i64 0, .int .i64 0, .int .i64 0]), 5, 40) by kernel_rfl)
        have e1a : ∀ o : Obj, (w5.alloc o).cell? ⟨r, 1, none⟩ = some (.slice (some ⟨g, 0, none⟩) R.l.length cap) := fun o => (Below.cell (B := w5.heap.size) ((Below.refl _ _).alloc (Nat.le_refl _) _) (by show r < _; omega)).trans e1
        go_region_law (first
          | (refine step_append_lies _ (by rfl) _ _ _ (by rfl) 0 103 i0 _ 5 40 Tryz.underlying138 hi hz0 hz1 hz2 (by rfl) (by omega) (.slice (some ⟨g, 0, none⟩) R.l.length cap) R.l.length (R.l.flatMap Nd.cells) (by rfl) (hown5.drew.alloc _)
              ⟨w5.heap.size, 0, none⟩ 1 1 x.cells (by rfl) (by rfl) (World.news_of_block (cs := #[.int .i64 x.kind, .int .u64 x.n, .int .i64 x.a, .int .i64 x.b, .int .i64 x.c]) (t := 103) (fr := (0, 0)) (heap_alloc_new w5.drew _)) (by simp [Value.oneCell', Nd.cells]) (by omega) (by unfold maxLen; omega) (by omega) (Nat.zero_le _) (w5.heap.size + 1) (by simp) ?_; intro gg cp w6 hown6 hgrow6 hat6 hlt6
             have q1 := (hgrow6.cell_far ⟨r, 1, none⟩ (by simp; omega) (by simp [Value.ownBlock]; omega)).trans ((Below.cell (B := w5.heap.size) (((Below.refl _ _).drew).alloc (Nat.le_refl _) _) (by simp; omega)).trans e1)
             have q2 := (hgrow6.frozen_far ⟨r, 1, none⟩ (by simp; omega) (by simp [Value.ownBlock]; omega)).trans ((Below.frozen (B := w5.heap.size) (((Below.refl _ _).drew).alloc (Nat.le_refl _) _) (by simp; omega)).trans hfz))
          | (go_simp))
        all_goals go_wp2_with fail
        all_goals go_ret2
        all_goals refine ⟨by rw [hmk.out]; rfl, ?_⟩
        all_goals rw [hmk.out]
        all_goals refine mk_end hb3 Ha3.out u5' m5 sr sg sm Hr.out.lt hne1 hrg hgb (wf_snoc Ha3.out.wf hR hfi hn0 hn1) hroom ?_ ?_ hgrow6 hown6 hat6 (by rw [findL_entriesOf, hfi]; rfl)
        all_goals first | exact ((Below.refl _ _).drew).alloc (Nat.le_refl _) _ | exact ((Below.refl _ _).alloc (Nat.le_refl _) _).drew | (simp; done)
/-! New of layer 1: an arena of its own, in new memory. -/
def NewPost (limit : Int) (w : World) (e : Ending) (w' : World) : Prop :=
  ∃ r S, e = .returned (.pointer (some ⟨r, 0, none⟩)) ∧ IsArena w' r (newAr limit) S ∧ Below w.heap.size w w' ∧ ∀ b, S b → w.heap.size ≤ b
theorem wf_new : Wf [Nd.zero] := by
  refine ⟨rfl, by simp, ?_, ?_, ?_⟩
  · intro i n hi k
    match i, hi with
    | 0, hi =>
      simp at hi; subst hi
      have : Nd.zero.part k = 0 := by unfold Nd.part Nd.zero; (repeat' split) <;> rfl
      omega
  · intro n hn; simp at hn; subst hn; simp [Nd.zero]
  · intro n hn; simp at hn; subst hn; simp [Nd.zero, numberedP]
set_option maxHeartbeats 1600000 in
set_option maxRecDepth 100000 in
theorem newArena_calls (limit : Int) (w : World) : Calls Tryz.prog 13 #[.int .i64 limit] w (NewPost limit w) := by
  have hmap := @run_makeMap Tryz.prog
  have m0 : MapIs Nd.val ((w.alloc (.cells #[.int .i64 0, .int .u64 0, .int .i64 0, .int .i64 0, .int .i64 0] 103)).alloc (.map #[] 0)) (w.heap.size + 1) [] := ⟨#[], 0, (two_new w _ _).2, rfl⟩
  obtain ⟨w2, r2, m2, u2, s2, d2⟩ := update_ok keyOk_nd Tryz.underlying139 m0 Nd.zero (.int .i64 0)
  simp only [Nd.val, Nd.zero] at r2
  have hs2 : w2.heap.size = w.heap.size + 2 := by rw [s2]; simp
  have Hs2 := Lib.hid hs2
  clear hs2 s2 d2
  have hlim : ((newAr limit).limit : Int) = min (max limit 1) 65536 := by simp [newAr]; omega
  have Hlim := Lib.hid hlim
  clear hlim
  go_enter Tryz.func13, Tryz.ntmps13
  go_wp2
  go_ret
  have hb2 : Below w.heap.size w w2 := (((Below.refl _ _).alloc (Nat.le_refl _) _).alloc (by simp) _).trans (u2.below (B := w.heap.size) (by simp; omega) (fun k hk e => by unfold One at e; omega))
  have hrow : w2.heap[w.heap.size]? = some (.cells #[.int .i64 0, .int .u64 0, .int .i64 0, .int .i64 0, .int .i64 0] 103 (0, 0)) :=
    u2.heap (two_new w _ _).1 (fun e => by unfold One at e; omega)
  refine ⟨w2.heap.size, fun b => b = w.heap.size ∨ b = w.heap.size + 1 ∨ b = w.heap.size + 2, by rw [Hs2.out]; rfl, ⟨w.heap.size, w.heap.size + 1, 1, ⟨?_, ?_, ?_, ?_, ?_⟩, .inr (.inr Hs2.out), .inl rfl, .inr (.inl rfl), ?_⟩, hb2.alloc hb2.size _, fun b hb => by omega⟩
  · rw [heap_alloc_new w2 _, Hlim.out]; rfl
  · refine World.ownsRow.alloc ⟨by simp [newAr, Nd.cells], .inr ⟨w.heap.size, 1, _, rfl, Nat.zero_le _, hrow, Nat.le_refl _, by simp [maxLen], rfl, ?_⟩⟩ _
    simp [newAr, Nd.cells, Nd.zero]
  · exact m2.upd (S := None) ((Upd.refl _ _).alloc _) (fun h => h)
  · exact wf_new
  · simp only [newAr, List.length_cons, List.length_nil]; omega
  · intro b hb; have := Hs2.out; simp; omega
end Go.Proofs.YtikimmgileffgaaGreatDoor
end
/- An arena among the things that a law has made; the calls of layer 1. -/
section
namespace Go.Proofs.YtikimmgileffgaaGreatDoor
open Go.RowKit

def arena (r : Nat) (A : Ar) : Thing where
  P w S := IsArena w r A S
  lt _ _ h := h.lt
  keep _ _ _ _ h u hd := h.keep u hd

/-- The calls of layer 1. -/
theorem new_own {w0 w : World} {L : List Thing} (h : Own w0 w L) (limit : Int) : Calls Tryz.prog 13 #[.int .i64 limit] w fun e w' => ∃ r, e = .returned (.pointer (some ⟨r, 0, none⟩)) ∧ Own w0 w' (arena r (newAr limit) :: L) :=
  (newArena_calls limit w).mono fun _ _ ⟨r, _, he, hr, hb, hs⟩ => ⟨r, he, h.new hb (Q := arena r (newAr limit)) hr hs⟩
theorem Own.left {w0 w : World} {L : List Thing} {i r : Nat} {A : Ar} (h : Own w0 w L) (hi : L[i]? = some (arena r A)) : ∃ S, IsArena w r A S ∧ ∀ A' w', Left w r S A' w' → Own w0 w' (L.set i (arena r A')) := by
  obtain ⟨S, hp, hk⟩ := h.upd hi
  exact ⟨S, hp, fun A' w' ⟨S', h1, h2, h3⟩ => hk w' (arena r A') S' h2 h1 h3⟩
theorem Own.arena {w0 w : World} {L : List Thing} {i r : Nat} {A : Ar} (h : Own w0 w L) (hi : L[i]? = some (Go.Proofs.YtikimmgileffgaaGreatDoor.arena r A)) : ∃ S, IsArena w r A S := by
  obtain ⟨S, h1, _⟩ := h.at hi; exact ⟨S, h1⟩
theorem mk_own {w0 w : World} {L : List Thing} {r : Nat} {A : Ar} (h : Own w0 w L) (i : Nat) (hi : L[i]? = some (arena r A)) (x : Nd) (hn0 : 0 ≤ x.n) (hn1 : x.n ≤ 18446744073709551615) :
    Calls Tryz.prog 43 #[.pointer (some ⟨r, 0, none⟩), x.val] w fun e w' => e = .returned (.tuple #[.int .i64 (mk A x).2.1, .int .i64 (mk A x).2.2]) ∧ Own w0 w' (L.set i (arena r (mk A x).1)) := by
  obtain ⟨S, hr, hk⟩ := h.left hi
  exact (mk_calls hr hn0 hn1).mono fun _ _ h2 => ⟨h2.1, hk _ _ h2.2⟩
theorem get_own {w0 w : World} {L : List Thing} {r : Nat} {A : Ar} (h : Own w0 w L) (i : Nat) (hi : L[i]? = some (arena r A)) (x : Int) :
    Calls Tryz.prog 71 #[.pointer (some ⟨r, 0, none⟩), .int .i64 x] w fun e w' => e = .returned (.tuple #[(getNd A.l x).val, .bool (has A.l x)]) ∧ Own w0 w' L := by
  obtain ⟨S, hr⟩ := h.arena hi
  exact (get_calls x hr).mono fun _ _ h2 => ⟨h2.1, h.call h2.2⟩
end Go.Proofs.YtikimmgileffgaaGreatDoor
end
/- The ciphers of layer 10 as plain data. No program in sight. -/
section
namespace Go.Proofs.YtikimmgileffgaaGreatDoor
open Go.RowKit

structure Ci where
  key : Int
  has : Bool
  n : Int
  deriving DecidableEq, Inhabited
def Ci.val (c : Ci) : Value := .agg #[.int .i64 c.key, .bool c.has, .int .u64 c.n]
def Ci.zero : Ci := ⟨0, false, 0⟩
def Ci.ok (c : Ci) : Prop := 0 ≤ c.n ∧ c.n ≤ 18446744073709551615

def mayC (l : List Nd) (c : Ci) (xs : List Int) : Int :=
  if (xs.all fun x => has l x) = false ∨ (c.has = true ∧ has l c.key = false) then 1 else if c.has = true ∧ c.n = 18446744073709551615 then 8 else 0
def laterC (c : Ci) : Ci := ⟨c.key, c.has, c.n + 1⟩
/-- Seal: the arena behind it, the cipher, the term, the error. -/
def sealC (A : Ar) (c : Ci) (ad p : Int) : Ar × Ci × Int × Int :=
  if mayC A.l c [ad, p] ≠ 0 then (A, Ci.zero, 0, mayC A.l c [ad, p]) else
  if c.has = false then (A, c, p, 0) else
  let m := mk A ⟨7, c.n, c.key, ad, p⟩
  if m.2.2 ≠ 0 then (m.1, Ci.zero, 0, m.2.2) else (m.1, laterC c, m.2.1, 0)
def openC (l : List Nd) (c : Ci) (ad x : Int) : Ci × Int × Int :=
  if mayC l c [ad, x] ≠ 0 then (Ci.zero, 0, mayC l c [ad, x]) else
  if c.has = false then (c, x, 0) else
  if getNd l x = ⟨7, c.n, c.key, ad, (getNd l x).c⟩ then (laterC c, (getNd l x).c, 0) else (Ci.zero, 0, 7)
theorem mayC_two (l : List Nd) (c : Ci) (x y : Int) : mayC l c [x, y] = if (has l x && has l y) = false ∨ (c.has = true ∧ has l c.key = false) then 1 else if c.has = true ∧ c.n = 18446744073709551615 then 8 else 0 := by
  simp [mayC]
theorem mayC_zero {l : List Nd} {c : Ci} {x y : Int} (h : mayC l c [x, y] = 0) : has l x = true ∧ has l y = true ∧ (c.has = true → has l c.key = true ∧ c.n ≠ 18446744073709551615) := by
  rw [mayC_two] at h
  split at h
  · cases h
  · rename_i h1
    split at h
    · cases h
    · rename_i h2
      cases hx : has l x <;> cases hy : has l y <;> cases hc : c.has <;> cases hk : has l c.key <;> simp_all
theorem mk_code (A : Ar) (x : Nd) : (mk A x).2.2 = 0 ∨ (mk A x).1 = A := by
  unfold mk
  split
  · exact .inr rfl
  · split
    · exact .inr rfl
    · split
      · exact .inr rfl
      · exact .inl rfl
end Go.Proofs.YtikimmgileffgaaGreatDoor
end
/- The calls of layer 10: what they tell is Ci's; nothing but the arena changes. -/
section
namespace Go.Proofs.YtikimmgileffgaaGreatDoor
open Go.RowKit

def CiAt (w : World) (b : Nat) (c : Ci) : Prop := w.heap[b]? = some (.cells #[.int .i64 c.key, .bool c.has, .int .u64 c.n] 24 (0, 0))
theorem CiAt.cells {w : World} {b : Nat} {c : Ci} (h : CiAt w b c) : w.cell? ⟨b, 0, none⟩ = some (.int .i64 c.key) ∧ w.cell? ⟨b, 1, none⟩ = some (.bool c.has) ∧ w.cell? ⟨b, 2, none⟩ = some (.int .u64 c.n) := ⟨cell_of_heap h, cell_of_heap h, cell_of_heap h⟩
theorem CiAt.below {w w' : World} {b : Nat} {c : Ci} (h : CiAt w b c) (u : Below w.heap.size w w') : CiAt w' b c := (u.block b (lt_of_heap h)).trans h

set_option maxHeartbeats 400000 in
theorem cNew_calls (k : Int) (w : World) : Calls Tryz.prog 66 #[.int .i64 k] w fun e w' => e = .returned (Ci.val ⟨k, true, 0⟩) ∧ Below w.heap.size w w' := by
  go_enter Tryz.func66, Tryz.ntmps66
  go_wp2
  exact bodyPost_ret (v := Ci.val ⟨k, true, 0⟩) (by simp [results, Tryz.results66, go_sem, Ci.val]) rfl ⟨rfl, by first | exact (Below.refl _ _).alloc (Nat.le_refl _) _ | exact ((Below.refl _ _).alloc (Nat.le_refl _) _).setCell (by simp) _⟩
set_option maxHeartbeats 400000 in
theorem cLater_calls (c : Ci) (w : World) (h0 : 0 ≤ c.n) (h1 : c.n < 18446744073709551615) : Calls Tryz.prog 176 #[c.val] w fun e w' => e = .returned (laterC c).val ∧ Below w.heap.size w w' := by
  unfold Ci.val
  go_enter Tryz.func176, Tryz.ntmps176
  go_wp2
  exact bodyPost_ret (v := (laterC c).val) (by simp [results, Tryz.results176, go_sem, Ci.val, laterC]) rfl ⟨rfl, by first | exact ((Below.refl _ _).alloc (Nat.le_refl _) _).alloc (by simp) _ | exact (((Below.refl _ _).alloc (Nat.le_refl _) _).alloc (by simp) _).setCell (by simp) _⟩
set_option maxHeartbeats 1600000 in
set_option maxRecDepth 100000 in
theorem cMay_calls {S : Nat → Prop} {r : Nat} {R : Ar} {c : Ci} {x y : Int} {b cap : Nat} {w : World} (hr : IsArena w r R S) (hx : w.cell? ⟨b, 0, none⟩ = some (.int .i64 x)) (hy : w.cell? ⟨b, 1, none⟩ = some (.int .i64 y)) :
    Calls Tryz.prog 175 #[c.val, .pointer (some ⟨r, 0, none⟩), .slice (some ⟨b, 0, none⟩) 2 cap] w fun e w' => e = .returned (.int .i64 (mayC R.l c [x, y])) ∧ Below w.heap.size w w' := by
  have hb1 : Below w.heap.size w (w.alloc (.cells #[.int .i64 c.key, .bool c.has, .int .u64 c.n] 24)) := (Below.refl _ _).alloc (Nat.le_refl _) _
  have hx1 := (hb1.cell (World.block_lt_of_cell? w _ hx)).trans hx
  have hy1 := (hb1.cell (World.block_lt_of_cell? w _ hy)).trans hy
  have Hr := Lib.hid hr
  have hci : CiAt (w.alloc (.cells #[.int .i64 c.key, .bool c.has, .int .u64 c.n] 24)) w.heap.size c := heap_alloc_new w _
  have hv : c.val = .agg #[.int .i64 c.key, .bool c.has, .int .u64 c.n] := rfl
  rw [hv]
  have Hm := Lib.hid (mayC_two R.l c x y)
  clear hv hr hx hy
  go_enter Tryz.func175, Tryz.ntmps175
  go_wp2_with fail
  with_reducible refine (has_two (Hr.out.below hb1) hx1 hy1).mono ?_
  rintro e w1 ⟨rfl, hb2⟩
  have hci1 := hci.below hb2
  have hbw := hb1.trans (hb2.mono (by simp))
  clear hb1 hb2 hx1 hy1 hci
  obtain ⟨c0, c1, c2⟩ := hci1.cells
  have lc := lt_of_heap hci1
  cases hh : (has R.l x && has R.l y) with
  | false =>
    have Hf := Lib.hid (show mayC R.l c [x, y] = 1 by rw [Hm.out]; simp [hh])
    clear Hm
    go_wp2_with fail
    go_ret
    exact ⟨ret_int Hf.out.symm, hbw⟩
  | true =>
    cases hc : c.has with
    | false =>
      rw [hc] at c1
      have Hf := Lib.hid (show mayC R.l c [x, y] = 0 by rw [Hm.out]; simp [hh, hc])
      clear Hm hci1
      go_wp2_with fail
      go_ret
      exact ⟨ret_int Hf.out.symm, hbw⟩
    | true =>
      rw [hc] at c1
      go_wp2_with fail
      with_reducible refine (has_one (x := c.key) (Hr.out.below (hbw.alloc hbw.size _)) (by go_simp)).mono ?_
      rintro e w3 ⟨rfl, hb3⟩
      have hci3 := (hci1.below ((Below.refl _ _).alloc (Nat.le_refl _) _)).below hb3
      have hbw3 := (hbw.alloc hbw.size _).trans (hb3.mono (by have := hbw.size; simp; omega))
      clear hb3 c0 c1 c2 hci1 hbw lc
      obtain ⟨c0, c1, c2⟩ := hci3.cells
      rw [hc] at c1
      clear hci3
      cases hk : has R.l c.key with
      | false =>
        have Hf := Lib.hid (show mayC R.l c [x, y] = 1 by rw [Hm.out]; simp [hh, hc, hk])
        clear Hm
        go_wp2_with fail
        go_ret
        exact ⟨ret_int Hf.out.symm, hbw3⟩
      | true =>
        by_cases hn : c.n = 18446744073709551615
        · have Hf := Lib.hid (show mayC R.l c [x, y] = 8 by rw [Hm.out]; simp [hh, hc, hk, hn])
          have hn1 : (c.n == 18446744073709551615) = true := by simp [hn]
          clear Hm hn
          go_wp2_with fail
          go_ret
          exact ⟨ret_int Hf.out.symm, hbw3⟩
        · have Hf := Lib.hid (show mayC R.l c [x, y] = 0 by rw [Hm.out]; simp [hh, hc, hk, hn])
          have hn1 : (c.n == 18446744073709551615) = false := by simp [hn]
          clear Hm hn
          go_wp2_with fail
          go_ret
          exact ⟨ret_int Hf.out.symm, hbw3⟩
end Go.Proofs.YtikimmgileffgaaGreatDoor
end
