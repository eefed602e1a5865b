/- build of layer 2: rows made in an arena. -/
import Derived.Test.YtfelbecofbdeaaaGreatDoorCRow
import Derived.Laws.Closers25
namespace Go.Proofs.YtfelbecofbdeaaaGreatDoor
open Go.RowKit

def BuildPost (w0 : World) (L : List Thing) (i r : Nat) (R : Ar × Int × Int) (e : Ending) (w' : World) : Prop :=
  e = .returned (.tuple #[.int .i64 R.2.1, .int .i64 R.2.2]) ∧ Own w0 w' (L.set i (arena r R.1))
/-- What build works on. -/
def BL (bp : Nat) (ss : List ByteArray) (v : Value) (had : List Int) (r : Nat) (A : Ar) (M : List Thing) : List Thing :=
  rowT 3 1 v had.length (intsV had) :: blk bp (piecesO ss) :: arena r A :: M
set_option maxHeartbeats 3200000 in
set_option maxRecDepth 100000 in
theorem build_calls {w0 w : World} {M : List Thing} {r : Nat} {A : Ar} (h : Own w0 w (arena r A :: M)) (he : Env w0) (s : ByteArray) (hs : s.size ≤ 16384) :
    Calls Tryz.prog 30 #[.pointer (some ⟨r, 0, none⟩), .string s] w (BuildPost w0 (arena r A :: M) 0 r (buildA A s)) := by
  have H := Lib.hid h
  have HE := Lib.hid he
  have hln := splitS_pos 59 s
  have Hsz := Lib.hid (fun x h => splitS_mem_size (c := 59) (s := s) (x := x) h)
  have hlw : (splitS 59 s).length ≤ 16385 := by
    have h1 := congrArg List.length (splitS_data 59 s)
    rw [List.length_map] at h1
    have h3 := splitL_length 59 s.data.toList
    rw [Array.length_toList] at h3
    rw [h1]; exact Nat.le_trans h3 (by show s.size + 1 ≤ 16385; omega)
  have Hb := Lib.hid (show buildA A s = if (splitS 59 s).length < 2 ∨ (splitS 59 s).getLastD ⟨#[]⟩ ≠ ⟨#[]⟩ then (A, 0, 2) else buildF (splitS 59 s).dropLast A [] from rfl)
  clear h he
  go_enter Tryz.func30, Tryz.ntmps30
  go_wp2_with fail
  refine (split_calls 59 s (by omega) _ (HE.out.below H.out.below)).mono ?_
  rintro e w2 ⟨rfl, hw2⟩
  have o2 : Own w0 w2 (blk w.heap.size (piecesO (splitS 59 s)) :: arena r A :: M) := by rw [hw2]; exact H.out.alloc _
  generalize hss : splitS 59 s = ss at *
  clear hw2 hss H
  generalize w.heap.size = bp at *
  have Hlast := Lib.hid (show ss[ss.length - 1]? = some (ss.getLastD ⟨#[]⟩) by
    have : ss ≠ [] := fun e => by rw [e] at hln; simp at hln
    rw [List.getLastD_eq_getLast?, List.getLast?_eq_getElem?, List.getElem?_eq_getElem (by omega)]; rfl)
  have cl := piece_at (o2.blk (i := 0) rfl) Hlast.out
  have O2 := Lib.hid o2
  clear o2
  generalize hlastx : ss.getLastD ⟨#[]⟩ = sl at *
  clear hlastx
  by_cases h2 : ss.length < 2
  · have d0 : decide (ss.length < 2) = true := decide_eq_true h2
    have d1 : decide ((ss.length : Int) < 2) = true := decide_eq_true (by omega)
    have Hr := Lib.hid (show buildA A s = (A, 0, 2) by rw [Hb.out, if_pos (.inl h2)])
    go_wp2_with fail
    go_ret2
    exact ⟨by rw [Hr.out]; rfl, by rw [Hr.out]; exact O2.out.tail⟩
  · have d0 : decide (ss.length < 2) = false := decide_eq_false h2
    have d1 : decide ((ss.length : Int) < 2) = false := decide_eq_false (by omega)
    have hl1 : (0 : Int) ≤ (ss.length : Int) - 1 := by omega
    have hl2 : ((ss.length : Int) - 1) < (ss.length : Int) := by omega
    have hl3 : ((ss.length : Int) - 1).toNat = ss.length - 1 := by omega
    by_cases hle : sl = ⟨#[]⟩
    · have hem : sl.toList.isEmpty = true := by rw [← decide_eq_emptyBytes]; exact decide_eq_true hle
      have Hbf := Lib.hid (show buildA A s = buildF ss.dropLast A [] by rw [Hb.out, if_neg (by rintro (h | h); exact h2 h; exact h hle)])
      clear hle
      go_wp2_with fail
      obtain ⟨m, hm⟩ : ∃ m, ss.length - 1 = m := ⟨_, rfl⟩
      have Hm := Lib.hid (show ss.length = m + 1 by omega)
      have hm1 : 1 ≤ m := by omega
      have hm2 : m ≤ 16384 := by omega
      rw [hm]
      have O3 : Hid (Own w0 w2 (BL bp ss (.slice none 0 0) [] r A M)) := Lib.hid (O2.out.nilRow 3 1)
      clear hm cl O2 hl1 hl2 hl3 Hlast h2 hln hlw d0 d1 Hb hem
      obtain ⟨N, hN⟩ : ∃ N, ss.length = N := ⟨_, rfl⟩
      have Hm' : Hid (ss.length = m + 1) := Hm
      clear Hm
      rw [hN]
      clear hN
      go_loopw [7, 34] (fun v i wr => ∃ (k : Nat) (had : List Int) (A' : Ar) (Ah : Option Addr) (ch : Nat), k ≤ m ∧ i = .int .i64 k ∧ v = .slice Ah had.length ch ∧ Hid (had.length = k) ∧ Hid (buildA A s = buildF (ss.dropLast.drop k) A' had) ∧ Own w0 wr (BL bp ss (.slice Ah had.length ch) had r A' M)) (fun _ i _ => m - (intOf i).toNat)
      case atStart => exact ⟨0, [], A, none, 0, by omega, rfl, rfl, Lib.hid rfl, Hbf, O3.out⟩
      case round =>
        clear O3 Hbf
        obtain ⟨k, had, A', Ah, ch, hk, rfl, rfl, hhl, hbf, o4⟩ := hrel
        have O4 := Lib.hid o4
        by_cases hkm : k < m
        · obtain ⟨sk, hsk⟩ : ∃ sk, ss[k]? = some sk := ⟨_, List.getElem?_eq_getElem (by rw [Hm'.out]; omega)⟩
          have ck := piece_at (o4.blk (i := 1) rfl) hsk
          have hzk := Hsz.out sk (List.mem_of_getElem? hsk)
          have Hdk := Lib.hid (show ss.dropLast.drop k = sk :: ss.dropLast.drop (k + 1) by
            have h1 : ss.dropLast[k]? = some sk := by rw [List.getElem?_dropLast]; rw [if_pos (by rw [Hm'.out]; omega)]; exact hsk
            have h2 := (List.getElem?_eq_some_iff.1 h1).1
            rw [List.drop_eq_getElem_cons h2]
            congr 1
            rw [List.getElem?_eq_getElem h2] at h1; cases h1; rfl)
          have Hbk := Lib.hid (show buildA A s = buildF (sk :: ss.dropLast.drop (k + 1)) A' had by rw [← Hdk.out]; exact hbf.out)
          have ikm : (k : Int) < (m : Int) := by omega
          have HHo := Lib.hid (show Holds wr Ah (intsV had) by obtain ⟨A2, c2, e1, e2, -⟩ := holds_of_owns (o4.row (i := 0) rfl); cases e1; exact e2)
          have hh0 := Nat.le_of_eq hhl.out
          clear o4 hsk hbf
          go_wp2_with fail
          refine (row_calls sk (by omega) Ah ch had _ (HE.out.below O4.out.below) HHo.out (by omega)).mono ?_
          rintro e w5 ⟨rfl, hb5⟩
          have O5 := Lib.hid (O4.out.call hb5)
          clear hb5 ck
          cases hrow : rowP had (splitS 32 sk) with
          | none =>
            have Hr := Lib.hid (show buildA A s = (A', 0, 2) by rw [Hbk.out, buildF, hrow])
            clear hrow
            simp only [Option.getD_none, Option.isSome_none]
            simp only [Nd.val, Nd.zero]
            go_wp2_with fail
            go_ret2
            refine ⟨by rw [Hr.out]; rfl, ?_⟩
            rw [Hr.out]
            exact (O5.out.call ((Below.refl _ _).alloc (Nat.le_refl _) _)).tail.tail
          | some nx =>
            have hu := rowP_u64 hrow
            have Hr := Lib.hid (show buildA A s = if (mk A' nx).2.2 = 1 then ((mk A' nx).1, 0, 2) else if (mk A' nx).2.2 ≠ 0 then ((mk A' nx).1, 0, (mk A' nx).2.2) else buildF (ss.dropLast.drop (k + 1)) (mk A' nx).1 (had ++ [(mk A' nx).2.1]) by rw [Hbk.out, buildF, hrow])
            have Hu := Lib.hid hu
            clear hrow hu Hbk
            simp only [Option.getD_some, Option.isSome_some]
            have o6 := O5.out.alloc (ndObj nx)
            obtain ⟨d0, d1, d2, d3, d4⟩ := NdAt.cells (n := nx) (o6.blk (i := 0) rfl)
            have O6 := Lib.hid o6
            clear o6
            simp only [Nd.val]
            go_wp2_with fail
            refine (mk_own O6.out 3 rfl nx Hu.out.1 Hu.out.2).mono ?_
            rintro e w7 ⟨rfl, o7⟩
            have o7' : Own w0 w7 (BL bp ss (.slice Ah had.length ch) had r (mk A' nx).1 M) := o7.tail
            have O7 := Lib.hid o7'
            clear o7 o7' d0 d1 d2 d3 d4 O5 O6
            generalize hmk : mk A' nx = R at *
            obtain ⟨A2, ref, er⟩ := R
            dsimp only at *
            clear hmk
            by_cases he1 : er = 1
            · subst he1
              have Hr1 := Lib.hid (show buildA A s = (A2, 0, 2) by rw [Hr.out, if_pos rfl])
              go_wp2_with fail
              go_ret2
              refine ⟨by rw [Hr1.out]; rfl, ?_⟩
              rw [Hr1.out]
              exact O7.out.tail.tail
            · have hd1 : (er == 1) = false := by rw [beq_eq_false_iff_ne]; exact he1
              by_cases he0 : er = 0
              · subst he0
                have Hr1 : Hid (buildA A s = buildF (ss.dropLast.drop (k + 1)) A2 (had ++ [ref])) := Lib.hid (by rw [Hr.out, if_neg (by decide), if_neg (by decide)])
                have o8 := O7.out.alloc (.cells #[.int .i64 ref] 3)
                go_wp2_with (at_builtin; go_loud (refine wpList_ocat o8 rfl (.tmp 57) (.tmp 59) 70 rfl 3 (.int .i64 0) 1 8 Tryz.underlying70 einfo_int' rfl (by decide) (.slice Ah had.length ch) had.length (intsV had) rfl 1 rfl (some ⟨w7.heap.size, 0, none⟩) 1 1 [.int .i64 ref] rfl (News.block (cs := [.int .i64 ref]) (new_at rfl) rfl) (by simp [Value.oneCell']) (by unfold maxLen; omega) (by omega) ?_))
                intro v9 w9 o9
                obtain ⟨A9, c9, rfl⟩ := row_form' (o9.row (i := 1) rfl)
                have hin : intsV had ++ [Value.int .i64 ref] = intsV (had ++ [ref]) := by simp [intsV]
                have hln : had.length + 1 = (had ++ [ref]).length := by simp
                rw [hln] at o9 ⊢
                rw [hin] at o9
                have O9 : Hid (Own w0 w9 (BL bp ss (.slice A9 (had ++ [ref]).length c9) (had ++ [ref]) r A2 M)) := Lib.hid o9.tail
                have Hl9 := Lib.hid (show (had ++ [ref]).length = k + 1 by simp; exact hhl.out)
                clear o8 o9 hin hln
                generalize had ++ [ref] = had9 at *
                go_wp2_with fail
                go_roundw
                case rel => exact ⟨k + 1, had9, A2, A9, c9, by omega, by go_num, rfl, Hl9, Hr1, O9.out⟩
                case measure => simp [intOf]; omega
              · have hd0 : (er != 0) = true := by rw [bne_iff_ne]; exact he0
                have hd0' : (er == 0) = false := by rw [beq_eq_false_iff_ne]; exact he0
                have Hr1 := Lib.hid (show buildA A s = (A2, 0, er) by rw [Hr.out, if_neg he1, if_pos he0])
                clear he1 he0
                go_wp2_with fail
                go_ret2
                refine ⟨by rw [Hr1.out]; rfl, ?_⟩
                rw [Hr1.out]
                exact O7.out.tail.tail
        · obtain rfl : k = m := by omega
          have hnil : ss.dropLast.drop k = [] := List.drop_eq_nil_of_le (by rw [List.length_dropLast, Hm'.out]; omega)
          have hh0 := Nat.le_of_eq hhl.out.symm
          obtain ⟨x, hx⟩ : ∃ x, had[had.length - 1]? = some x := ⟨_, List.getElem?_eq_getElem (by omega)⟩
          have Hr := Lib.hid (show buildA A s = (A', x, 0) by
            rw [hbf.out, hnil, buildF, List.getLastD_eq_getLast?, List.getLast?_eq_getElem?, hx]; rfl)
          obtain ⟨bh, oh, rfl, hc⟩ : ∃ b o, Ah = some ⟨b, o, none⟩ ∧ wr.cell? ⟨b, o + (had.length - 1), none⟩ = some (.int .i64 x) := by
            obtain ⟨A2, c2, e1, e2, -⟩ := holds_of_owns (o4.row (i := 0) rfl)
            cases e1
            obtain ⟨b, o, e3, e4⟩ := intsV_at e2 (k := had.length - 1) (by omega)
            refine ⟨b, o, e3, ?_⟩
            rw [List.getElem?_eq_getElem (by omega)] at hx
            cases hx; exact e4
          have l0 : (0 : Int) ≤ (had.length : Int) - 1 := by omega
          have l3 : had.length ≤ 16384 := by have := hhl.out; omega
          have l4 : 1 ≤ had.length := by omega
          have l1 : ((had.length : Int) - 1) < (had.length : Int) := by omega
          have l2 : ((had.length : Int) - 1).toNat = had.length - 1 := by omega
          clear hnil hx hbf o4 hhl hh0
          generalize had.length = H at *
          go_wp2_with fail
          go_ret2
          refine ⟨by rw [Hr.out]; rfl, ?_⟩
          rw [Hr.out]
          exact O4.out.tail.tail
    · have Hr := Lib.hid (show buildA A s = (A, 0, 2) by rw [Hb.out, if_pos (.inr hle)])
      have hem : sl.toList.isEmpty = false := by rw [← decide_eq_emptyBytes]; exact decide_eq_false hle
      go_wp2_with fail
      go_ret2
      exact ⟨by rw [Hr.out]; rfl, by rw [Hr.out]; exact O2.out.tail⟩
end Go.Proofs.YtfelbecofbdeaaaGreatDoor
