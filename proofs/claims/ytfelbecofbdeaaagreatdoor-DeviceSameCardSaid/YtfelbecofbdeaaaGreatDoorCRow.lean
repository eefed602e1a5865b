/- row of layer 2: a row of a text. -/
import Derived.Test.YtfelbecofbdeaaaGreatDoorRd
import Derived.Test.YtfelbecofbdeaaaGreatDoorCRows
namespace Go.Proofs.YtfelbecofbdeaaaGreatDoor
open Go.RowKit

theorem zero_facts {W : World} {b : Nat} (h : W.heap[b]? = some (ndObj Nd.zero)) : W.cell? ⟨b, 0, none⟩ = some (.int .i64 0) ∧ W.cell? ⟨b, 1, none⟩ = some (.int .u64 0) ∧ W.cell? ⟨b, 2, none⟩ = some (.int .i64 0) ∧ W.cell? ⟨b, 3, none⟩ = some (.int .i64 0) ∧ W.cell? ⟨b, 4, none⟩ = some (.int .i64 0) ∧ (∀ o, W.frozen? ⟨b, o, none⟩ = false) ∧ b < W.heap.size :=
  ⟨cell_of_heap h, cell_of_heap h, cell_of_heap h, cell_of_heap h, cell_of_heap h, fun o => frozen_of_heap h, lt_of_heap h⟩
theorem nd_end {w W : World} {L : List Thing} (O : Own w W L) (i : Nat) {b : Nat} {x : Nd} (hi : L[i]? = some (blk b (ndObj x))) (v0 v1 v2 v3 v4 : Value) :
    (∀ j, (((((W.setCell ⟨b, 0, none⟩ v0).setCell ⟨b, 1, none⟩ v1).setCell ⟨b, 2, none⟩ v2).setCell ⟨b, 3, none⟩ v3).setCell ⟨b, 4, none⟩ v4).cell? ⟨b, j, none⟩ = (#[v0, v1, v2, v3, v4])[j]?) ∧
    Below w.heap.size w (((((W.setCell ⟨b, 0, none⟩ v0).setCell ⟨b, 1, none⟩ v1).setCell ⟨b, 2, none⟩ v2).setCell ⟨b, 3, none⟩ v3).setCell ⟨b, 4, none⟩ v4) := by
  have h5 := heap_set5 (v0 := v0) (v1 := v1) (v2 := v2) (v3 := v3) (v4 := v4) (O.blk hi)
  exact ⟨fun j => cell_of_heap h5, (O.store hi ((((((Upd.refl (One b) W).setCell (fun _ => rfl) v0).setCell (fun _ => rfl) v1).setCell (fun _ => rfl) v2).setCell (fun _ => rfl) v3).setCell (fun _ => rfl) v4) h5).below⟩
def pad3 (ps : List Int) : Obj := .cells #[.int .i64 (ps.getD 0 0), .int .i64 (ps.getD 1 0), .int .i64 (ps.getD 2 0)] 133 (0, 0)
theorem pad3_at {W : World} {b k : Nat} {ps : List Int} (h : W.heap[b]? = some (pad3 ps)) (hk : k < 3) : ∃ x, W.cell? ⟨b, k, none⟩ = some (.int .i64 x) := by
  have hc := cell_of_heap (o := k) h
  match k, hk with
  | 0, _ => exact ⟨_, hc⟩
  | 1, _ => exact ⟨_, hc⟩
  | 2, _ => exact ⟨_, hc⟩
theorem pad3_set {W : World} {b : Nat} {ps : List Int} (h : W.heap[b]? = some (pad3 ps)) (hk : ps.length < 3) (x : Int) : (W.setCell ⟨b, ps.length, none⟩ (.int .i64 x)).heap[b]? = some (pad3 (ps ++ [x])) := by
  rw [heap_setCell_at h]
  match ps, hk with
  | [], _ => rfl
  | [_], _ => rfl
  | [_, _], _ => rfl
def RowPost (had : List Int) (ws : List ByteArray) (w : World) (e : Ending) (w' : World) : Prop :=
  e = .returned (.tuple #[((rowP had ws).getD Nd.zero).val, .bool (rowP had ws).isSome]) ∧ Below w.heap.size w w'
set_option maxHeartbeats 3200000 in
set_option maxRecDepth 100000 in
theorem row_calls (s : ByteArray) (hs : s.size ≤ 20000) (Ah : Option Addr) (ch : Nat) (had : List Int) (w : World) (he : Env w) (hh : Holds w Ah (intsV had)) (hm : had.length ≤ 65536) :
    Calls Tryz.prog 62 #[.string s, .slice Ah had.length ch] w (RowPost had (splitS 32 s) w) := by
  have HE := Lib.hid he
  have HH := Lib.hid hh
  have hln := splitS_pos 32 s
  have Hsz := Lib.hid (fun x h => splitS_mem_size (c := 32) (s := s) (x := x) h)
  have Hlen := Lib.hid (show (splitS 32 s).length ≤ s.size + 1 by
    have h1 := congrArg List.length (splitS_data 32 s)
    rw [List.length_map] at h1
    rw [h1]; have := splitL_length 32 s.data.toList; rwa [Array.length_toList] at this)
  clear he hh
  go_enter Tryz.func62, Tryz.ntmps62
  go_wp2_with fail
  have o1 := (Own.start w).alloc (ndObj Nd.zero)
  refine (split_calls 32 s (by omega) _ (HE.out.below o1.below)).mono ?_
  rintro e w2 ⟨rfl, hw2⟩
  have o2 : Own w w2 [blk (w.heap.size + 1) (piecesO (splitS 32 s)), blk w.heap.size (ndObj Nd.zero)] := by
    have := o1.alloc (piecesO (splitS 32 s)); rw [World.size_alloc] at this; rw [hw2]; exact this
  have hlw : (splitS 32 s).length ≤ 20001 := by have := Hlen.out; omega
  generalize hws : splitS 32 s = ws at *
  rw [World.size_alloc]
  clear hws Hlen o1 hw2
  obtain ⟨s0, hs0⟩ : ∃ s0, ws[0]? = some s0 := ⟨_, List.getElem?_eq_getElem (by omega)⟩
  have c0 := piece_at (o2.blk (i := 0) rfl) hs0
  have H0 := Lib.hid (show ws.getD 0 ⟨#[]⟩ = s0 by rw [List.getD, hs0]; rfl)
  have hz0 := Hsz.out s0 (List.mem_of_getElem? hs0)
  have hnz : (0 : Int) < (ws.length : Int) := by omega
  have O2 := Lib.hid o2
  clear o2 hs0
  go_wp2_with fail
  refine (atoi_calls s0 (by omega) _ (HE.out.below O2.out.below)).mono ?_
  rintro e w3 ⟨kind, ev, rfl, hb3, hcase⟩
  have O3 := Lib.hid (O2.out.call hb3)
  clear O2 hb3 c0
  obtain ⟨zc0, zc1, zc2, zc3, zc4, zf, zl⟩ := zero_facts (O3.out.blk (i := 1) rfl)
  rcases hcase with ⟨hk, rfl⟩ | ⟨hk, t, q, rfl⟩
  · have Hk := Lib.hid (show numI s0 = some kind by cases hn : numI s0 with | none => rw [hn] at hk; cases hk | some v => rw [hn] at hk; cases hk; rfl)
    clear hk
    have Hrow := Lib.hid (show rowP had ws = if 0 ≤ kind ∧ kind < 10 ∧ ws.length = 2 + many kind then (numU (ws.getD 1 ⟨#[]⟩)).bind fun n => (partsP had (ws.drop 2)).map (ndP kind n) else none by unfold rowP; rw [H0.out, Hk.out]; rfl)
    by_cases hk0 : kind < 0
    · have d0 : decide (kind < 0) = true := decide_eq_true hk0
      have Hr := Lib.hid (show rowP had ws = none by rw [Hrow.out, if_neg (by omega)])
      go_wp2_with fail
      have hend := nd_end O3.out 1 rfl (.int .i64 0) (.int .u64 0) (.int .i64 0) (.int .i64 0) (.int .i64 0)
      refine bodyPost_ret (v := .tuple #[Nd.zero.val, .bool false]) (by simp [results, Tryz.results62, go_sem, Nd.val, Nd.zero, hend.1]) rfl ⟨by rw [Hr.out]; rfl, hend.2⟩
    · have d0 : decide (kind < 0) = false := decide_eq_false hk0
      have d0' : decide (0 ≤ kind) = true := decide_eq_true (by omega)
      go_wp2_with fail
      refine (cparts_calls _).mono ?_
      rintro e w4 ⟨rfl, hb4⟩
      have O4 := Lib.hid (O3.out.call hb4)
      clear hb4 zc0 zc1 zc2 zc3 zc4 zf zl
      obtain ⟨zc0, zc1, zc2, zc3, zc4, zf, zl⟩ := zero_facts (O4.out.blk (i := 1) rfl)
      by_cases hk9 : 10 ≤ kind
      · have d1 : decide (10 ≤ kind) = true := decide_eq_true hk9
        have d1' : decide (kind < 10) = false := decide_eq_false (by omega)
        have Hr := Lib.hid (show rowP had ws = none by rw [Hrow.out, if_neg (by omega)])
        go_wp2_with fail
        have hend := nd_end O4.out 1 rfl (.int .i64 0) (.int .u64 0) (.int .i64 0) (.int .i64 0) (.int .i64 0)
        refine bodyPost_ret (v := .tuple #[Nd.zero.val, .bool false]) (by simp [results, Tryz.results62, go_sem, Nd.val, Nd.zero, hend.1]) rfl ⟨by rw [Hr.out]; rfl, hend.2⟩
      · have d1 : decide (10 ≤ kind) = false := decide_eq_false hk9
        have d1' : decide (kind < 10) = true := decide_eq_true (by omega)
        go_wp2_with fail
        refine (cparts_calls _).mono ?_
        rintro e w5 ⟨rfl, hb5⟩
        have O5 := Lib.hid (O4.out.call hb5)
        clear hb5 zc0 zc1 zc2 zc3 zc4 zf zl
        obtain ⟨zc0, zc1, zc2, zc3, zc4, zf, zl⟩ := zero_facts (O5.out.blk (i := 1) rfl)
        have hi10 := fun w => index10 (k := kind) (by omega) (by omega) w
        have hm3 := many_le kind
        by_cases hln2 : ws.length = 2 + many kind
        · have d2 : ((ws.length : Int) != 2 + (many kind : Int)) = false := by rw [bne_eq_false_iff_eq]; omega
          have d2' : ((ws.length : Int) == 2 + (many kind : Int)) = true := by rw [beq_iff_eq]; omega
          obtain ⟨s1, hs1⟩ : ∃ s1, ws[1]? = some s1 := ⟨_, List.getElem?_eq_getElem (by omega)⟩
          have c1 := piece_at (O5.out.blk (i := 0) rfl) hs1
          have H1 := Lib.hid (show ws.getD 1 ⟨#[]⟩ = s1 by rw [List.getD, hs1]; rfl)
          have hz1 := Hsz.out s1 (List.mem_of_getElem? hs1)
          have Hln2 := Lib.hid hln2
          have hnz1 : (1 : Int) < (ws.length : Int) := by omega
          have hn2 : (2 : Int) ≤ (ws.length : Int) := by omega
          clear hs1 hln2
          go_wp2_with fail
          refine (parseU_calls s1 (by omega) _ (HE.out.below O5.out.below)).mono ?_
          rintro e w6 ⟨nv, ev6, rfl, hb6, hcase6⟩
          have O6 := Lib.hid (O5.out.call hb6)
          clear hb6 c1 zc0 zc1 zc2 zc3 zc4 zf zl
          obtain ⟨zc0, zc1, zc2, zc3, zc4, zf, zl⟩ := zero_facts (O6.out.blk (i := 1) rfl)
          rcases hcase6 with ⟨hu, rfl⟩ | ⟨hu, t, q, rfl⟩
          · obtain ⟨un, hun, rfl⟩ : ∃ un : Nat, numU s1 = some un ∧ nv = (un : Int) := by
              cases hn : numU s1 with
              | none => rw [hn] at hu; cases hu
              | some v => rw [hn] at hu; simp at hu; exact ⟨v, rfl, hu.symm⟩
            have Hrow6 := Lib.hid (show rowP had ws = (partsP had (ws.drop 2)).map (ndP kind un) by rw [Hrow.out, if_pos ⟨by omega, by omega, Hln2.out⟩, H1.out, hun]; rfl)
            clear hu hun
            obtain ⟨off, hoff, hsl⟩ : ∃ off : Nat, (off = 2 ∨ ws.length = 2) ∧ ∀ W, (Instr.sliceAt 81 (.slice (some ⟨w.heap.size + 1, 0, none⟩) ws.length ws.length) (some (.int .i64 2)) none none).run Tryz.prog W = .ok (.slice (some ⟨w.heap.size + 1, off, none⟩) (ws.length - 2) (ws.length - 2)) W := by
              by_cases h2 : ws.length = 2
              · exact ⟨0, .inr h2, fun W => by rw [h2]; go_simp⟩
              · exact ⟨2, .inl rfl, fun W => by go_simp⟩
            have Hoff := Lib.hid hoff
            clear hoff
            go_wp2_with fail
            have O7 : Hid (Own w _ [blk w6.heap.size (pad3 []), blk (w.heap.size + 1) (piecesO ws), blk w.heap.size (ndObj Nd.zero)]) := Lib.hid (O6.out.alloc (pad3 []))
            clear hsl zc0 zc1 zc2 zc3 zc4 zf zl d0 d0' d1 d1' d2 d2' hi10 hnz hnz1 hn2
            generalize w6.heap.size = PB at *
            obtain ⟨M, hM⟩ : ∃ M, ws.length - 2 = M := ⟨_, rfl⟩
            have hM2 : ws.length = 2 + M := by have := Hln2.out; omega
            have hM3 : M ≤ 3 := by have := Hln2.out; omega
            rw [hM]
            have HM2 := Lib.hid hM2
            clear hM hM2 hln hlw
            go_loopw [59] (fun i wr => ∃ (k : Nat) (ps : List Int), k ≤ M ∧ i = .int .i64 k ∧ Hid (partsP had ((ws.drop 2).take k) = some ps) ∧ Own w wr [blk PB (pad3 ps), blk (w.heap.size + 1) (piecesO ws), blk w.heap.size (ndObj Nd.zero)]) (fun i _ => M - (intOf i).toNat)
            case atStart => exact ⟨0, [], by omega, rfl, Lib.hid rfl, O7.out⟩
            case round =>
              clear O7
              obtain ⟨k, ps, hk, rfl, hps, o8⟩ := hrel
              have O8 := Lib.hid o8
              have hpl : Hid (ps.length = k) := Lib.hid (by have := partsP_length had _ _ hps.out; rw [this]; have := HM2.out; simp; omega)
              by_cases hkM : k < M
              · obtain ⟨sk, hsk⟩ : ∃ sk, ws[2 + k]? = some sk := ⟨_, List.getElem?_eq_getElem (by have := HM2.out; omega)⟩
                have Hdk := Lib.hid (show (ws.drop 2)[k]? = some sk by rw [List.getElem?_drop]; exact hsk)
                obtain rfl : off = 2 := by rcases Hoff.out with h | h; exact h; have := HM2.out; omega
                have ck := piece_at (o8.blk (i := 1) rfl) hsk
                have hzk := Hsz.out sk (List.mem_of_getElem? hsk)
                have Hnone := Lib.hid (fun h : ixP had sk = none => (by
                  have h1 : partsP had ((ws.drop 2).take (k + 1)) = none := by rw [List.take_add_one, Hdk.out]; simp only [Option.toList]; rw [partsP_snoc had sk _ _ hps.out, h]; rfl
                  have h2 := partsP_none had _ ((ws.drop 2).drop (k + 1)) h1
                  rw [List.take_append_drop] at h2
                  rw [Hrow6.out, h2]; rfl : rowP had ws = none))
                have Hsome := Lib.hid (fun v (h : ixP had sk = some v) => (by rw [List.take_add_one, Hdk.out]; simp only [Option.toList]; rw [partsP_snoc had sk _ _ hps.out, h]; rfl : partsP had ((ws.drop 2).take (k + 1)) = some (ps ++ [v])))
                have ikM : (k : Int) < (M : Int) := by omega
                have ik3 : (k : Int) < 3 := by omega
                clear hsk o8
                go_wp2_with fail
                refine (atoi_calls sk (by omega) _ (HE.out.below O8.out.below)).mono ?_
                rintro e w9 ⟨x, ev9, rfl, hb9, hcase9⟩
                have O9 := Lib.hid (O8.out.call hb9)
                clear hb9 ck
                obtain ⟨zc0, zc1, zc2, zc3, zc4, zf, zl⟩ := zero_facts (O9.out.blk (i := 2) rfl)
                rcases hcase9 with ⟨hx, rfl⟩ | ⟨hx, t, q, rfl⟩
                · have Hx := Lib.hid (show numI sk = some x by cases hn : numI sk with | none => rw [hn] at hx; cases hx | some v => rw [hn] at hx; cases hx; rfl)
                  clear hx
                  by_cases hx0 : x < 0
                  · have d0 : decide (x < 0) = true := decide_eq_true hx0
                    have Hr := Lib.hid (Hnone.out (by unfold ixP; rw [Hx.out]; show (if _ then _ else _) = _; rw [if_neg (by omega)]))
                    go_wp2_with fail
                    have hend := nd_end O9.out 2 rfl (.int .i64 0) (.int .u64 0) (.int .i64 0) (.int .i64 0) (.int .i64 0)
                    refine bodyPost_ret (v := .tuple #[Nd.zero.val, .bool false]) (by simp [results, Tryz.results62, go_sem, Nd.val, Nd.zero, hend.1]) rfl ⟨by rw [Hr.out]; rfl, hend.2⟩
                  · have d0 : decide (x < 0) = false := decide_eq_false hx0
                    have d0' : decide (0 ≤ x) = true := decide_eq_true (by omega)
                    by_cases hxl : (had.length : Int) ≤ x
                    · have d1 : decide ((had.length : Int) ≤ x) = true := decide_eq_true hxl
                      have d1' : decide (x < (had.length : Int)) = false := decide_eq_false (by omega)
                      have Hr := Lib.hid (Hnone.out (by unfold ixP; rw [Hx.out]; show (if _ then _ else _) = _; rw [if_neg (by omega)]))
                      go_wp2_with fail
                      have hend := nd_end O9.out 2 rfl (.int .i64 0) (.int .u64 0) (.int .i64 0) (.int .i64 0) (.int .i64 0)
                      refine bodyPost_ret (v := .tuple #[Nd.zero.val, .bool false]) (by simp [results, Tryz.results62, go_sem, Nd.val, Nd.zero, hend.1]) rfl ⟨by rw [Hr.out]; rfl, hend.2⟩
                    · have d1 : decide ((had.length : Int) ≤ x) = false := decide_eq_false hxl
                      have d1' : decide (x < (had.length : Int)) = true := decide_eq_true (by omega)
                      have hxn : x.toNat < had.length := by omega
                      obtain ⟨bh, oh, rfl, hch⟩ := intsV_at (HH.out.below O9.out.below) hxn
                      have Hv := Lib.hid (Hsome.out had[x.toNat] (by unfold ixP; rw [Hx.out]; show (if _ then _ else _) = _; rw [if_pos (by omega), List.getElem?_eq_getElem hxn]))
                      generalize had[x.toNat] = v at *
                      obtain ⟨xo, hxo⟩ := pad3_at (O9.out.blk (i := 0) rfl) (k := k) (by omega)
                      have pf := fun o => frozen_of_heap (o := o) (O9.out.blk (i := 0) rfl)
                      have pl := lt_of_heap (O9.out.blk (i := 0) rfl)
                      have hx00 : 0 ≤ x := by omega
                      have hxlt : x < (had.length : Int) := by omega
                      clear hx0 hxl zc0 zc1 zc2 zc3 zc4 zf zl
                      go_wp2_with fail
                      go_roundw
                      case rel => exact ⟨k + 1, ps ++ [v], by omega, by go_num, Hv, by
                        have h1 := pad3_set (O9.out.blk (i := 0) rfl) (by rw [hpl.out]; omega) v
                        rw [hpl.out] at h1
                        exact O9.out.store (i := 0) rfl ((Upd.refl (One PB) w9).setCell (fun _ => rfl) _) h1⟩
                      case measure => simp [intOf]; omega
                · have Hr := Lib.hid (Hnone.out (by
                    unfold ixP
                    cases hn : numI sk with
                    | none => rfl
                    | some v => rw [hn] at hx; cases hx))
                  clear hx
                  go_wp2_with fail
                  have hend := nd_end O9.out 2 rfl (.int .i64 0) (.int .u64 0) (.int .i64 0) (.int .i64 0) (.int .i64 0)
                  refine bodyPost_ret (v := .tuple #[Nd.zero.val, .bool false]) (by simp [results, Tryz.results62, go_sem, Nd.val, Nd.zero, hend.1]) rfl ⟨by rw [Hr.out]; rfl, hend.2⟩
              · obtain rfl : k = M := by omega
                have hall : (ws.drop 2).take k = ws.drop 2 := List.take_of_length_le (by have := HM2.out; simp; omega)
                have Hr := Lib.hid (show rowP had ws = some (ndP kind un ps) by have := hps.out; rw [hall] at this; rw [Hrow6.out, this]; rfl)
                obtain ⟨zc0, zc1, zc2, zc3, zc4, zf, zl⟩ := zero_facts (O8.out.blk (i := 2) rfl)
                have hpb := O8.out.blk (i := 0) rfl
                have p0 := cell_of_heap (o := 0) hpb
                have p1 := cell_of_heap (o := 1) hpb
                have p2 := cell_of_heap (o := 2) hpb
                simp only [List.getElem?_toArray, List.getElem?_cons_zero, List.getElem?_cons_succ] at p0 p1 p2
                have Hnd := Lib.hid (show ndP kind un ps = ⟨kind, un, ps.getD 0 0, ps.getD 1 0, ps.getD 2 0⟩ from rfl)
                clear hps hall hpb o8 hk hkM
                generalize ps.getD 0 0 = q0 at *
                generalize ps.getD 1 0 = q1 at *
                generalize ps.getD 2 0 = q2 at *
                go_wp2_with fail
                have hend := nd_end O8.out 2 rfl (.int .i64 kind) (.int .u64 (un : Int)) (.int .i64 q0) (.int .i64 q1) (.int .i64 q2)
                refine bodyPost_ret (v := .tuple #[(ndP kind un ps).val, .bool true]) (by rw [Hnd.out]; simp [results, Tryz.results62, go_sem, Nd.val, hend.1]) rfl ⟨by rw [Hr.out]; rfl, hend.2⟩
          · have Hr := Lib.hid (show rowP had ws = none by
              rw [Hrow.out, if_pos ⟨by omega, by omega, Hln2.out⟩, H1.out]
              cases hn : numU s1 with
              | none => rfl
              | some v => rw [hn] at hu; cases hu)
            clear hu
            go_wp2_with fail
            have hend := nd_end O6.out 1 rfl (.int .i64 0) (.int .u64 0) (.int .i64 0) (.int .i64 0) (.int .i64 0)
            refine bodyPost_ret (v := .tuple #[Nd.zero.val, .bool false]) (by simp [results, Tryz.results62, go_sem, Nd.val, Nd.zero, hend.1]) rfl ⟨by rw [Hr.out]; rfl, hend.2⟩
        · have d2 : ((ws.length : Int) != 2 + (many kind : Int)) = true := by rw [bne_iff_ne]; omega
          have d2' : ((ws.length : Int) == 2 + (many kind : Int)) = false := by rw [beq_eq_false_iff_ne]; omega
          have Hr := Lib.hid (show rowP had ws = none by rw [Hrow.out, if_neg (by omega)])
          have Hln2 := Lib.hid hln2
          clear hln2
          go_wp2_with fail
          have hend := nd_end O5.out 1 rfl (.int .i64 0) (.int .u64 0) (.int .i64 0) (.int .i64 0) (.int .i64 0)
          refine bodyPost_ret (v := .tuple #[Nd.zero.val, .bool false]) (by simp [results, Tryz.results62, go_sem, Nd.val, Nd.zero, hend.1]) rfl ⟨by rw [Hr.out]; rfl, hend.2⟩
  · have Hr := Lib.hid (show rowP had ws = none by unfold rowP; rw [H0.out]; cases hn : numI s0 with | none => rfl | some v => rw [hn] at hk; cases hk)
    clear hk
    go_wp2_with fail
    have hend := nd_end O3.out 1 rfl (.int .i64 0) (.int .u64 0) (.int .i64 0) (.int .i64 0) (.int .i64 0)
    refine bodyPost_ret (v := .tuple #[Nd.zero.val, .bool false]) (by simp [results, Tryz.results62, go_sem, Nd.val, Nd.zero, hend.1]) rfl ⟨by rw [Hr.out]; rfl, hend.2⟩
end Go.Proofs.YtfelbecofbdeaaaGreatDoor
