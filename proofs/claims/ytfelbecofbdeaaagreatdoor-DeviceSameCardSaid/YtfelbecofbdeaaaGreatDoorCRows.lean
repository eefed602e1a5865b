/- Rows of layer 2: all that a term is made of. -/
import Derived.Test.YtfelbecofbdeaaaGreatDoorOwnA
import Derived.Test.YtfelbecofbdeaaaGreatDoorMth
import Derived.Test.YtfelbecofbdeaaaGreatDoorRw
import Derived.Deep.CutBlock
import Derived.Deep.DeepCutAuto
import Derived.Laws.EntriesVeiled
namespace Go.Proofs.YtfelbecofbdeaaaGreatDoor
open Go.RowKit

set_option maxHeartbeats 400000 in
theorem cparts_calls (w : World) : Calls Tryz.prog 86 #[] w fun e w' => e = .returned tenV ∧ Below w.heap.size w w' := by
  go_enter Tryz.func86, Tryz.ntmps86
  go_wp2
  exact bodyPost_ret (v := tenV) (by simp [results, Tryz.results86, go_sem, tenV]) rfl ⟨rfl, by first | exact (Below.refl _ _).alloc (Nat.le_refl _) _ | exact ((Below.refl _ _).alloc (Nat.le_refl _) _).setCell (by simp) _⟩
def threeO (n : Nd) : Obj := .cells #[.int .i64 n.a, .int .i64 n.b, .int .i64 n.c] 3 (0, 0)
def MadePost (n : Nd) (w : World) (e : Ending) (w' : World) : Prop :=
  ∃ b, e = .returned (.slice (some ⟨b, 0, none⟩) (many n.kind) 3) ∧ w.heap.size ≤ b ∧ w'.heap[b]? = some (threeO n) ∧ Below w.heap.size w w'
set_option maxHeartbeats 1600000 in
set_option maxRecDepth 100000 in
theorem made_calls (x : Nd) (hk0 : 0 ≤ x.kind) (hk9 : x.kind ≤ 9) (w : World) : Calls Tryz.prog 58 #[x.val] w (MadePost x w) := by
  have hi10 := fun w => index10 hk0 hk9 w
  have hm := many_le x.kind
  have hm3 : (many x.kind : Int) ≤ 3 := by omega
  have hm0 : (0 : Int) ≤ (many x.kind : Int) := by omega
  clear hk0 hk9
  have hvx : x.val = .agg #[.int .i64 x.kind, .int .u64 x.n, .int .i64 x.a, .int .i64 x.b, .int .i64 x.c] := rfl
  rw [hvx]
  clear hvx
  go_enter Tryz.func58, Tryz.ntmps58
  go_wp2_with fail
  obtain ⟨W, hW⟩ : ∃ W, W = w.alloc (.cells #[.int .i64 x.kind, .int .u64 x.n, .int .i64 x.a, .int .i64 x.b, .int .i64 x.c] 61) := ⟨_, rfl⟩
  have hbw : Below w.heap.size w W := by rw [hW]; exact (Below.refl _ _).alloc (Nat.le_refl _) _
  have hsz : W.heap.size = w.heap.size + 1 := by rw [hW]; simp
  have nx : NdAt W w.heap.size x := by rw [hW]; exact heap_alloc_new w _
  have lx := lt_of_heap nx
  have KS := Lib.hid (show ∀ w', Below W.heap.size W w' → (Below W.heap.size W w' ∧ w'.cell? ⟨w.heap.size, 0, none⟩ = some (.int .i64 x.kind) ∧ w'.cell? ⟨w.heap.size, 2, none⟩ = some (.int .i64 x.a) ∧ w'.cell? ⟨w.heap.size, 3, none⟩ = some (.int .i64 x.b) ∧ w'.cell? ⟨w.heap.size, 4, none⟩ = some (.int .i64 x.c)) from fun w' h => by
    obtain ⟨t0, t1, t2, t3, t4⟩ := (nx.below h).cells
    exact ⟨h, t0, t2, t3, t4⟩)
  have HSZ := Lib.hid hsz
  obtain ⟨c0, c1, c2, c3, c4⟩ := nx.cells
  rw [← hW]
  have hbb : Below W.heap.size W W := Below.refl _ _
  have HB := Lib.hid hbw
  clear hW hsz nx hbw c1
  go_region_held3 (fun w' => Below W.heap.size W w' ∧ w'.cell? ⟨w.heap.size, 0, none⟩ = some (.int .i64 x.kind) ∧ w'.cell? ⟨w.heap.size, 2, none⟩ = some (.int .i64 x.a) ∧ w'.cell? ⟨w.heap.size, 3, none⟩ = some (.int .i64 x.b) ∧ w'.cell? ⟨w.heap.size, 4, none⟩ = some (.int .i64 x.c))
    (first | exact KS.out _ (by repeat (first | with_reducible assumption | with_reducible refine Below.drew ?_ | with_reducible refine belowAlloc ?_ _)))
    (first | (go_at_call 86; refine (cparts_calls _).mono ?_; rintro e wp ⟨rfl, hbp⟩
              have hxp : Below W.heap.size W wp := below_call (by repeat (first | with_reducible assumption | with_reducible refine Below.drew ?_ | with_reducible refine belowAlloc ?_ _)) hbp
              have kk := fun (k : Nat) (o : Obj) h => (hbp.block k (lt_of_heap (o := o) h)).trans h
              first | have zq := kk W.heap.size _ (new_at rfl) | have zq := trivial
              clear kk
              obtain ⟨d0, d2, d3, d4⟩ := (KS.out _ hxp).2))
  all_goals go_wp2_with fail
  all_goals go_ret
  all_goals have := HSZ.out
  all_goals first
    | exact ⟨_, rfl, by omega, zq, HB.out.trans (Below.mono (by repeat (first | with_reducible assumption | with_reducible refine Below.drew ?_ | with_reducible refine belowAlloc ?_ _)) (by omega))⟩
    | exact ⟨_, rfl, by have := hxp.size; omega, new_at rfl, HB.out.trans (Below.mono (by repeat (first | with_reducible assumption | with_reducible refine Below.drew ?_ | with_reducible refine belowAlloc ?_ _)) (by omega))⟩

def keyV2 (n : Int) : Value := .int .i64 n
theorem row_form' {w : World} {base : Nat} {e : TypeId} {v : Value} {n : Nat} {xs : List Value} {size : Nat} (h : w.ownsRow base e size v n xs) : ∃ A cap, v = .slice A n cap := by
  rcases h.2 with ⟨h2, h3⟩ | ⟨g, cp, cur, h2, _⟩
  · exact ⟨none, 0, by rw [h2, h3]⟩
  · exact ⟨_, _, h2⟩
/-- What 'down' works on: the rows so far, the variable that holds them, what was had, its variable, the function's own variable, the arena's. -/
def downV (pa ph pd po : Nat) : Value := .func (.func 83) #[] #[.pointer (some ⟨pa, 0, none⟩), .pointer (some ⟨ph, 0, none⟩), .pointer (some ⟨pd, 0, none⟩), .pointer (some ⟨po, 0, none⟩)]
def RL (pa r pd po ph bm : Nat) (v : Value) (acc hs : List Int) (M : List Thing) : List Thing :=
  rowT 3 1 v acc.length (intsV acc) :: blk po (.cells #[v] 70 (0, 0)) :: mapT keyV2 bm (encB hs) :: blk ph (.cells #[.map (some bm)] 128 (0, 0)) :: blk pd (.cells #[downV pa ph pd po] 129 (0, 0)) :: blk pa (.cells #[.pointer (some ⟨r, 0, none⟩)] 24 (0, 0)) :: M
def DownPost (w0 : World) (pa r pd po ph bm : Nat) (acc' hs : List Int) (M : List Thing) (e : Ending) (w' : World) : Prop :=
  e = .returned (.tuple #[]) ∧ ∃ v' hs', Own w0 w' (RL pa r pd po ph bm v' acc' hs' M) ∧ ∀ y, y ∈ hs' ↔ y ∈ hs ∨ y ∈ acc'
theorem keyOkI : KeyOk Tryz.prog 3 keyV2 := keyOk_int Tryz.underlying3
theorem three_at {w : World} {b k : Nat} {n : Nd} (h : w.heap[b]? = some (threeO n)) (hk : k < many n.kind) : ∃ p, (kids n)[k]? = some p ∧ w.cell? ⟨b, k, none⟩ = some (.int .i64 p) := by
  have h3 := many_le n.kind
  have hc := cell_of_heap (o := k) h
  match k, hk with
  | 0, hk => exact ⟨n.a, by unfold kids; rw [List.getElem?_take, if_pos hk]; rfl, hc⟩
  | 1, hk => exact ⟨n.b, by unfold kids; rw [List.getElem?_take, if_pos hk]; rfl, hc⟩
  | 2, hk => exact ⟨n.c, by unfold kids; rw [List.getElem?_take, if_pos hk]; rfl, hc⟩
  | k + 3, hk => omega
theorem einfo_int' : (Tryz.prog.info? 3).map (fun i => (i.zero, i.size, i.bytes)) = some (some (.int .i64 0), 1, 8) := by kernel_rfl
set_option maxHeartbeats 3200000 in
set_option maxRecDepth 100000 in
theorem down_calls {w0 : World} {r : Nat} {A : Ar} {S : Nat → Prop} (hA : IsArena w0 r A S) (pa pd po ph bm : Nat) : ∀ (n : Nat) (x : Int) (w : World) (v : Value) (acc hs : List Int) (M : List Thing), x.toNat < n →
    Own w0 w (RL pa r pd po ph bm v acc hs M) → (∀ y ∈ acc, y ∈ hs) → (∀ y ∈ hs, y ∈ acc ∨ x < y) → Refs A.l acc →
    Calls Tryz.prog 83 #[.int .i64 x, .pointer (some ⟨pa, 0, none⟩), .pointer (some ⟨ph, 0, none⟩), .pointer (some ⟨pd, 0, none⟩), .pointer (some ⟨po, 0, none⟩)] w (DownPost w0 pa r pd po ph bm (rowsA A.l acc x) hs M) := by
  intro n
  induction n with
  | zero => intro x w v acc hs M h; omega
  | succ n ih =>
    intro x w v acc hs M hxn ho hsub hst href
    have Hwf := Lib.hid hA.wf
    have Hsub := Lib.hid hsub
    have Hst := Lib.hid hst
    have Href := Lib.hid href
    have Heq := Lib.hid (rowsA_eq hA.wf acc x)
    have Ho := Lib.hid ho
    have IH := Lib.hid ih
    have HA := Lib.hid hA
    have ha := ho.blk (i := 5) rfl
    have ca := cell_of_heap (o := 0) ha
    simp only [List.getElem?_toArray, List.getElem?_cons_zero] at ca
    clear hsub hst href ho ih hA ha
    go_enter Tryz.func83, Tryz.ntmps83
    go_wp2_with fail
    refine (get_calls x (HA.out.below Ho.out.below)).mono ?_
    rintro e w1 ⟨rfl, hb1⟩
    have o1 := (Ho.out.call hb1).alloc (ndObj (getNd A.l x))
    have O1 := Lib.hid o1
    obtain ⟨iE, hE, hz, -, -⟩ := info_parts (show (Tryz.prog.info? 4).map (fun i => (i.zero, i.size, i.bytes)) = some (some (.bool false), 1, 1) by kernel_rfl)
    have hlk := lookup_plain keyOkI Tryz.underlying128 hE hz (o1.map (i := 3) rfl) x
    have ch := cell_of_heap (o := 0) (o1.blk (i := 4) rfl)
    simp only [List.getElem?_toArray, List.getElem?_cons_zero] at ch
    rw [findL_encB] at hlk
    unfold keyV2 ndObj at hlk
    unfold ndObj at ch
    clear hE hz o1 hb1 ca
    simp only [Nd.val]
    cases hx : has A.l x with
    | false =>
      have he := Lib.hid (show rowsA A.l acc x = acc by rw [Heq.out, if_pos (.inl hx)])
      go_wp2_with fail
      go_end0
      exact ⟨rfl, v, hs, by rw [he.out]; exact O1.out.tail, fun y => by rw [he.out]; exact ⟨.inl, fun h => h.elim id (Hsub.out y)⟩⟩
    | true =>
      by_cases hxa : x ∈ hs
      · have hxc : x ∈ acc := (Hst.out x hxa).elim id (fun h => by omega)
        have he := Lib.hid (show rowsA A.l acc x = acc by rw [Heq.out, if_pos (.inr hxc)])
        have hd : decide (x ∈ hs) = true := decide_eq_true hxa
        rw [hd] at hlk
        clear hxa hxc hd
        go_wp2_with fail
        go_end0
        exact ⟨rfl, v, hs, by rw [he.out]; exact O1.out.tail, fun y => by rw [he.out]; exact ⟨.inl, fun h => h.elim id (Hsub.out y)⟩⟩
      · have hxc : x ∉ acc := fun h => hxa (Hsub.out x h)
        have he := Lib.hid (show rowsA A.l acc x = foldR A.l acc (kids (nd A.l x)) ++ [x] by rw [Heq.out, if_neg (by simp [hx, hxc])]; rfl)
        have hd : decide (x ∈ hs) = false := decide_eq_false hxa
        rw [hd] at hlk
        obtain ⟨w2, r2, m2, u2, s2, -⟩ := update_ok keyOkI Tryz.underlying128 (O1.out.map (i := 3) rfl) x (.bool true)
        rw [setL_encB hxa] at m2
        have O2 : Hid (Own w0 w2 (blk w1.heap.size (ndObj (getNd A.l x)) :: RL pa r pd po ph bm v acc (hs ++ [x]) M)) := Lib.hid (O1.out.mapSet (i := 3) rfl m2 u2)
        rw [getNd_of_has hx] at O2 r2 hlk ch ⊢
        have Hkid := Lib.hid (fun p hp => Hwf.out.kid hx (p := p) hp)
        have hfit := Hwf.out.fits _ (nd_mem hx)
        generalize nd A.l x = nx at *
        unfold keyV2 ndObj at r2
        obtain ⟨d0, d1, d2, d3, d4⟩ := NdAt.cells (n := nx) (O2.out.blk (i := 0) rfl)
        clear Heq hx hxa hd m2 u2 s2
        go_wp2_with fail
        refine (made_calls nx hfit.2.2.1 hfit.2.2.2 w2).mono ?_
        rintro e w3 ⟨b, rfl, hb, hbk, hb3⟩
        have O3 : Hid (Own w0 w3 (RL pa r pd po ph bm v acc (hs ++ [x]) (blk b (threeO nx) :: M))) := Lib.hid (Own.sink 6 (L := blk b (threeO nx) :: RL pa r pd po ph bm v acc (hs ++ [x]) M) ((O2.out.tail).new hb3 (Q := blk b (threeO nx)) (S := One b) ⟨hbk, fun _ => Iff.rfl⟩ (fun k hk => by unfold One at hk; omega))
          (fun i hi => match i, hi with | 0, _ => rfl | 1, _ => rfl | 2, _ => rfl | 3, _ => rfl | 4, _ => rfl | 5, _ => rfl) rfl (fun i hi => match i, hi with | k + 7, _ => rfl))
        have hm3 := many_le nx.kind
        clear O1 O2 hbk hb hb3 hfit r2 d0 d1 d2 d3 d4
        go_wp2_with fail
        go_loopw [28] (fun i wr => ∃ (k : Nat) (v : Value) (hs1 : List Int), k ≤ many nx.kind ∧ i = .int .i64 k ∧ Own w0 wr (RL pa r pd po ph bm v (foldR A.l acc ((kids nx).take k)) hs1 (blk b (threeO nx) :: M)) ∧ Hid (∀ y, y ∈ hs1 ↔ y ∈ hs ++ [x] ∨ y ∈ foldR A.l acc ((kids nx).take k))) (fun i _ => many nx.kind - (intOf i).toNat)
        case atStart => exact ⟨0, v, hs ++ [x], by omega, rfl, O3.out, Lib.hid (fun y => ⟨.inl, fun h => h.elim id (fun h => List.mem_append_left _ (Hsub.out y h))⟩)⟩
        case round =>
          clear O3
          obtain ⟨k, v, hs1, hk, rfl, ok, hiff⟩ := hrel
          have Hk := Lib.hid hk
          have Ok := Lib.hid ok
          by_cases hlt : k < many nx.kind
          · obtain ⟨p, hp, hc⟩ := three_at (ok.blk (i := 6) rfl) hlt
            have Hp := Lib.hid hp
            have hpm := Hkid.out p (List.mem_of_getElem? hp)
            have hik : (k : Int) < (many nx.kind : Int) := by omega
            have cd := cell_of_heap (o := 0) (ok.blk (i := 4) rfl)
            simp only [List.getElem?_toArray, List.getElem?_cons_zero] at cd
            unfold downV at cd
            clear ok hp hk hlt
            generalize many nx.kind = m at *
            go_wp2_with fail
            refine (IH.out p wr v _ hs1 _ (by omega) Ok.out (fun y hy => (hiff.out y).2 (.inr hy)) (fun y hy => ?_) (foldR_refs Hwf.out _ _ Href.out)).mono ?_
            · rcases (hiff.out y).1 hy with h | h
              · rcases List.mem_append.1 h with h | h
                · rcases Hst.out y h with h | h
                  · exact .inl (foldR_sub Hwf.out _ _ y h)
                  · exact .inr (by omega)
                · simp at h; exact .inr (by omega)
              · exact .inl h
            · rintro e w4 ⟨rfl, v4, hs4, o4, h4⟩
              rw [← foldR_snoc _ _ _ Hp.out] at o4
              have O4 := Lib.hid o4
              have H4 := Lib.hid h4
              clear o4 h4
              go_wp2_with fail
              go_roundw
              case rel => exact ⟨k + 1, v4, hs4, by omega, by go_num, O4.out, Lib.hid (fun y => by
                rw [H4.out y, hiff.out y, ← foldR_snoc _ _ _ Hp.out]
                refine ⟨fun h => ?_, fun h => ?_⟩
                · rcases h with (h | h) | h
                  · exact .inl h
                  · right; rw [foldR_snoc _ _ _ Hp.out]; exact rows_sub Hwf.out _ _ y h
                  · exact .inr h
                · rcases h with h | h
                  · exact .inl (.inl h)
                  · exact .inr h)⟩
              case measure => simp [intOf]; omega
          · obtain rfl : k = many nx.kind := by omega
            have hall : (kids nx).take (many nx.kind) = kids nx := List.take_of_length_le (by rw [kids_length]; exact Nat.le_refl _)
            have href := foldR_refs Hwf.out (kids nx) acc Href.out
            have hlen := href.length
            have hroom := HA.out.room
            have O5 : Hid (Own w0 wr (RL pa r pd po ph bm v (foldR A.l acc (kids nx)) hs1 (blk b (threeO nx) :: M))) := Lib.hid (by rw [← hall]; exact Ok.out)
            have hiff5 : Hid (∀ y, y ∈ hs1 ↔ y ∈ hs ++ [x] ∨ y ∈ foldR A.l acc (kids nx)) := by rw [hall] at hiff; exact hiff
            have cp := cell_of_heap (o := 0) (O5.out.blk (i := 1) rfl)
            have fp := fun o => frozen_of_heap (o := o) (O5.out.blk (i := 1) rfl)
            have lp := lt_of_heap (O5.out.blk (i := 1) rfl)
            simp only [List.getElem?_toArray, List.getElem?_cons_zero] at cp
            have o6 := O5.out.alloc (.cells #[.int .i64 x] 3)
            clear ok Ok hiff hall href hk hlt Hk
            generalize hacc : foldR A.l acc (kids nx) = acc5 at *
            have Hacc := Lib.hid hacc
            have hl5 : acc5.length ≤ 65536 := by omega
            clear hacc
            go_wp2_with (at_builtin; go_loud (refine wpList_ocat o6 rfl (.tmp 36) (.tmp 38) 70 rfl 3 (.int .i64 0) 1 8 Tryz.underlying70 einfo_int' rfl (by decide) v acc5.length (intsV acc5) rfl 1 rfl (some ⟨wr.heap.size, 0, none⟩) 1 1 [.int .i64 x] rfl (News.block (cs := [.int .i64 x]) (new_at rfl) rfl) (by simp [Value.oneCell']) (by unfold maxLen; omega) (by omega) ?_))
            intro v6 w6 o7
            obtain ⟨A6, c6, rfl⟩ := row_form' (o7.row (i := 1) rfl)
            have hb6 : w6.heap[po]? = some (.cells #[v] 70 (0, 0)) := o7.blk (i := 2) rfl
            have O7 := Lib.hid o7
            have cp6 := cell_of_heap (o := 0) hb6
            have fp6 := fun o => frozen_of_heap (o := o) hb6
            have lp6 := lt_of_heap hb6
            have Hb6 := Lib.hid hb6
            clear o7 o6 cp fp lp hb6
            go_wp2_with fail
            go_end0
            have hin : intsV acc5 ++ [Value.int .i64 x] = intsV (acc5 ++ [x]) := by simp [intsV]
            have hln : acc5.length + 1 = (acc5 ++ [x]).length := by simp
            have o8 := O7.out.store (i := 2) (b := po) (o := .cells #[v] 70 (0, 0)) (o' := .cells #[.slice A6 (acc5.length + 1) c6] 70 (0, 0)) rfl ((Upd.refl (One po) w6).setCell (b := po) (o := 0) (fun _ => rfl) _) (by have := heap_setCell_at (o := 0) Hb6.out (.slice A6 (acc5.length + 1) c6); simpa using this)
            rw [hln] at o8 ⊢
            rw [hin] at o8
            refine ⟨rfl, .slice A6 (acc5 ++ [x]).length c6, hs1, ?_, fun y => ?_⟩
            · rw [he.out]
              exact Own.drop 6 o8.tail (fun i hi => match i, hi with | 0, _ => rfl | 1, _ => rfl | 2, _ => rfl | 3, _ => rfl | 4, _ => rfl | 5, _ => rfl) (fun i hi => match i, hi with | k + 6, _ => rfl)
            · rw [he.out, hiff5.out y, List.mem_append, List.mem_append]
              constructor
              · rintro ((h | h) | h)
                · exact .inl h
                · exact .inr (.inr h)
                · exact .inr (.inl h)
              · rintro (h | h | h)
                · exact .inl (.inl h)
                · exact .inr h
                · exact .inl (.inr h)
/-- What Rows tells: a row of its own. -/
def RowsPost (l : List Int) (w : World) (e : Ending) (w' : World) : Prop :=
  ∃ v, e = .returned v ∧ w'.ownsRow w.heap.size 3 1 v l.length (intsV l) ∧ Below w.heap.size w w'
set_option maxHeartbeats 1600000 in
set_option maxRecDepth 100000 in
theorem rows_calls {w : World} {r : Nat} {A : Ar} {S : Nat → Prop} (hA : IsArena w r A S) (x : Int) :
    Calls Tryz.prog 55 #[.pointer (some ⟨r, 0, none⟩), .int .i64 x] w (RowsPost (rowsA A.l [] x) w) := by
  have hmm := @run_makeMap Tryz.prog
  have HA := Lib.hid hA
  clear hA
  go_enter Tryz.func55, Tryz.ntmps55
  go_wp2_with fail
  have o0 := ((((((Own.start w).alloc (.cells #[.pointer (some ⟨r, 0, none⟩)] 24)).alloc (.cells #[.slice none 0 0] 70)).newMap (enc := keyV2)).alloc (.cells #[.map (some (w.heap.size + 1 + 1))] 128)).alloc (.cells #[downV w.heap.size (w.heap.size + 1 + 1 + 1) (w.heap.size + 1 + 1 + 1 + 1) (w.heap.size + 1)] 129)).nilRow 3 1
  simp only [World.size_alloc] at o0
  have o1 : Own w _ (RL w.heap.size r (w.heap.size + 1 + 1 + 1 + 1) (w.heap.size + 1) (w.heap.size + 1 + 1 + 1) (w.heap.size + 1 + 1) (.slice none 0 0) [] [] []) := o0.pick [0, 4, 3, 2, 1, 5] rfl
  unfold downV at o1
  refine (down_calls HA.out w.heap.size (w.heap.size + 1 + 1 + 1 + 1) (w.heap.size + 1) (w.heap.size + 1 + 1 + 1) (w.heap.size + 1 + 1) (x.toNat + 1) x _ (.slice none 0 0) [] [] [] (by omega) o1 (fun y h => h) (fun y h => (List.not_mem_nil h).elim) (Refs.nil _)).mono ?_
  rintro e w1 ⟨rfl, v, hs, o2, -⟩
  have cp := cell_of_heap (o := 0) (o2.blk (i := 1) rfl)
  simp only [List.getElem?_toArray, List.getElem?_cons_zero] at cp
  obtain ⟨Av, cv, rfl⟩ := row_form' (o2.row (i := 0) rfl)
  have O2 := Lib.hid o2
  clear o0 o1 o2
  generalize rowsA A.l [] x = acc at *
  go_wp2_with fail
  go_ret
  exact ⟨_, rfl, O2.out.rowBase (i := 0) rfl, O2.out.below⟩
end Go.Proofs.YtfelbecofbdeaaaGreatDoor
