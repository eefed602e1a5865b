/- What the calls of TransBoth come to. No program in sight. -/
import Derived.Test.YtgcjhmffndijhaaArLaw2
import Derived.Test.YtgcjhmffndijhaaRef6
namespace Go.Proofs.Ytgcjhmffndijhaa
open Go.RowKit

theorem idx_get {l : List Nd} {x : Nd} {i : Nat} (h : l.idxOf? x = some i) : l[i]? = some x := by
  rw [List.idxOf?, List.findIdx?_eq_some_iff_getElem] at h
  obtain ⟨h1, h2, _⟩ := h
  rw [List.getElem?_eq_getElem h1]
  simpa using h2
/-- Mk where there is room: what it tells is the node. -/
theorem mk_ok {A : Ar} {x : Nd} (hr : right A.l x = true) (hroom : A.l.length < A.limit) (hnd : A.l.Nodup) :
    ∃ (A' : Ar) (k : Int), mk A x = (A', k, 0) ∧ A'.limit = A.limit ∧ A'.l.Nodup ∧ A'.l.length ≤ A.l.length + 1 ∧ (∀ y, has A.l y = true → has A'.l y = true) ∧ has A'.l k = true ∧ getNd A'.l k = x ∧ (right A'.l x = true → mk A' x = (A', k, 0)) := by
  cases hi : A.l.idxOf? x with
  | some i =>
    have hg := idx_get hi
    have hh : has A.l (i : Int) = true := has_iff.2 ⟨by omega, by have := (List.getElem?_eq_some_iff.1 hg).1; omega⟩
    refine ⟨A, i, mk_old hr hi, rfl, hnd, by omega, fun _ h => h, hh, ?_, fun _ => mk_old hr hi⟩
    rw [getNd_of_has hh]; exact nd_of_getElem? hg
  | none =>
    have hn : x ∉ A.l := List.idxOf?_eq_none_iff.1 hi
    refine ⟨⟨A.limit, A.l ++ [x]⟩, A.l.length, mk_new hr hn hroom, rfl, ?_, by simp, fun y hy => has_app hy _, ?_, get_last _ _, fun h2 => ?_⟩
    · rw [List.nodup_append]
      exact ⟨hnd, by simp, fun a ha b hb e => by simp at hb; subst hb; subst e; exact hn ha⟩
    · exact has_iff.2 ⟨by omega, by simp only [List.length_append, List.length_cons, List.length_nil]; omega⟩
    · refine mk_old h2 (idx_some ?_ ?_)
      · rw [List.nodup_append]
        exact ⟨hnd, by simp, fun a ha b hb e => by simp at hb; subst hb; subst e; exact hn ha⟩
      · simp
structure BothInv (A : Ar) (t : Tr) (s : Nat) : Prop where
  lim : A.limit = 500
  len : A.l.length ≤ 31 + s
  nodup : A.l.Nodup
  zero : has A.l 0 = true
  sh : t.send.has = true
  rh : t.recv.has = true
  sk : has A.l t.send.key = true
  rk : has A.l t.recv.key = true
  sn : 0 ≤ t.send.n ∧ t.send.n ≤ s
  rn : 0 ≤ t.recv.n ∧ t.recv.n ≤ s
theorem BothInv.turned {A : Ar} {t : Tr} {s : Nat} (h : BothInv A t s) : BothInv A t.turned s := ⟨h.lim, h.len, h.nodup, h.zero, h.rh, h.sh, h.rk, h.sk, h.rn, h.sn⟩
theorem both_seal {A : Ar} {t : Tr} {s : Nat} (h : BothInv A t s) (hs : s < 30) {X : Int} (hX : has A.l X = true) :
    ∃ (A' : Ar) (x : Int), sealT A t X = (A', ⟨laterC t.send, t.recv⟩, x, 0) ∧ openT A'.l t.turned x = (⟨t.recv, laterC t.send⟩, X, 0) ∧ openT A'.l ⟨t.recv, laterC t.send⟩ x = (Tr.zero, 0, 7) ∧ BothInv A' ⟨laterC t.send, t.recv⟩ (s + 1) := by
  obtain ⟨hlim, hlen, hnd, hz, hsh, hrh, hsk, hrk, hsn, hrn⟩ := h
  obtain ⟨⟨key, hs1, n⟩, ⟨key2, hs2, n2⟩⟩ := t
  simp only at hsh hrh hsk hrk hsn hrn
  subst hsh hrh
  obtain ⟨A', x, hm, hl', hnd', hlen', hkeep, hx, hg, _⟩ := mk_ok (right_seal (n := n) hsk hz hX) (by omega) hnd
  have hn1 : n ≠ 18446744073709551615 := by omega
  have hseal : sealC A ⟨key, true, n⟩ 0 X = (A', ⟨key, true, n + 1⟩, x, 0) := by
    have hmay : mayC A.l ⟨key, true, n⟩ [0, X] = 0 := by rw [mayC_two]; simp [hz, hX, hsk, hn1]
    unfold sealC
    simp [hmay, hm, laterC]
  have hopen : openC A'.l ⟨key, true, n⟩ 0 x = (⟨key, true, n + 1⟩, X, 0) := open_of (hkeep _ hz) hx (hkeep _ hsk) hn1 hg
  have hagain : openC A'.l ⟨key, true, n + 1⟩ 0 x = (Ci.zero, 0, 7) := open_not (hkeep _ hz) hx (hkeep _ hsk) (by omega) (by rw [hg]; intro e; simp at e; omega)
  refine ⟨A', x, ?_, ?_, ?_, ⟨by rw [hl', hlim], by omega, hnd', hkeep _ hz, rfl, rfl, hkeep _ hsk, hkeep _ hrk, ?_, ?_⟩⟩
  · simp [sealT, hseal, laterC]
  · simp [openT, Tr.turned, hopen, laterC]
  · simp [openT, hagain, laterC]
  · simp only [laterC]; omega
  · simp only; omega
def rekTr (t : Tr) (b : Bool) (k : Int) : Tr := if b then ⟨⟨k, true, t.send.n⟩, t.recv⟩ else ⟨t.send, ⟨k, true, t.recv.n⟩⟩
theorem both_rekey {A : Ar} {t : Tr} {s : Nat} (h : BothInv A t s) (hs : s < 30) (b : Bool) :
    ∃ (A' : Ar) (k : Int), rekeyT A t b = (A', rekTr t b k, 0) ∧ rekeyT A' t.turned (!b) = (A', (rekTr t b k).turned, 0) ∧ BothInv A' (rekTr t b k) (s + 1) := by
  obtain ⟨hlim, hlen, hnd, hz, hsh, hrh, hsk, hrk, hsn, hrn⟩ := h
  obtain ⟨⟨key, hs1, n⟩, ⟨key2, hs2, n2⟩⟩ := t
  simp only at hsh hrh hsk hrk hsn hrn
  subst hsh hrh
  cases b with
  | true =>
    obtain ⟨A', k, hm, hl', hnd', hlen', hkeep, hx, hg, hag⟩ := mk_ok (right_key (n := 4) (a := key) (b := 0) (by decide) (by decide) hsk hz) (by omega) hnd
    have hag := hag (right_key (n := 4) (a := key) (b := 0) (by decide) (by decide) (hkeep _ hsk) (hkeep _ hz))
    refine ⟨A', k, ?_, ?_, ⟨by rw [hl', hlim], by omega, hnd', hkeep _ hz, rfl, rfl, hx, hkeep _ hrk, ?_, ?_⟩⟩
    · simp [rekeyT, rekeyC, hm, rekTr]
    · simp [rekeyT, rekeyC, hag, rekTr, Tr.turned]
    · simp only [rekTr, if_true]; omega
    · simp only [rekTr, if_true]; omega
  | false =>
    obtain ⟨A', k, hm, hl', hnd', hlen', hkeep, hx, hg, hag⟩ := mk_ok (right_key (n := 4) (a := key2) (b := 0) (by decide) (by decide) hrk hz) (by omega) hnd
    have hag := hag (right_key (n := 4) (a := key2) (b := 0) (by decide) (by decide) (hkeep _ hrk) (hkeep _ hz))
    refine ⟨A', k, ?_, ?_, ⟨by rw [hl', hlim], by omega, hnd', hkeep _ hz, rfl, rfl, hkeep _ hsk, hx, ?_, ?_⟩⟩
    · simp [rekeyT, rekeyC, hm, rekTr]
    · simp [rekeyT, rekeyC, hag, rekTr, Tr.turned]
    · simp only [rekTr, Bool.false_eq_true, if_false]; omega
    · simp only [rekTr, Bool.false_eq_true, if_false]; omega
theorem mk_len (A : Ar) (x : Nd) : (mk A x).1.l.length ≤ A.l.length + 1 ∧ (mk A x).1.limit = A.limit := by
  unfold mk
  split
  · exact ⟨by simp, rfl⟩
  · split
    · exact ⟨by simp, rfl⟩
    · split
      · exact ⟨by simp, rfl⟩
      · exact ⟨by simp, rfl⟩
theorem bA_len (limit : Int) (xs : List Nd) : (bA limit xs).l.length ≤ 1 + xs.length ∧ (bA limit xs).limit = (newAr limit).limit := by
  unfold bA
  suffices h : ∀ A : Ar, (xs.foldl (fun A x => (mk A x).1) A).l.length ≤ A.l.length + xs.length ∧ (xs.foldl (fun A x => (mk A x).1) A).limit = A.limit by
    have := h (newAr limit)
    simpa [newAr] using this
  induction xs with
  | nil => intro A; simp
  | cons x xs ih =>
    intro A
    have h1 := ih (mk A x).1
    have h2 := mk_len A x
    rw [List.foldl_cons]
    refine ⟨?_, h1.2.trans h2.2⟩
    simp only [List.length_cons]; omega
theorem both_start {xs : List Nd} (hl : xs.length ≤ 30) (hw : Wf (bA 500 xs).l) {k m : Int} (hk : has (bA 500 xs).l k = true) (hm : has (bA 500 xs).l m = true) : BothInv (bA 500 xs) ⟨⟨k, true, 0⟩, ⟨m, true, 0⟩⟩ 0 := by
  have h := bA_len 500 xs
  refine ⟨by rw [h.2]; rfl, by omega, hw.nodup, ?_, rfl, rfl, hk, hm, by simp, by simp⟩
  have h0 := hw.head
  have := (List.getElem?_eq_some_iff.1 h0).1
  exact has_iff.2 ⟨by omega, by omega⟩
theorem BothInv.more {A : Ar} {t : Tr} {s : Nat} (h : BothInv A t s) : BothInv A t (s + 1) := ⟨h.lim, by have := h.len; omega, h.nodup, h.zero, h.sh, h.rh, h.sk, h.rk, by have := h.sn; omega, by have := h.rn; omega⟩
theorem both_seal' {A : Ar} {key n key2 n2 : Int} {s : Nat} (h : BothInv A ⟨⟨key, true, n⟩, ⟨key2, true, n2⟩⟩ s) (hs : s < 30) {X : Int} (hX : has A.l X = true) :
    ∃ (A' : Ar) (x : Int), sealT A ⟨⟨key, true, n⟩, ⟨key2, true, n2⟩⟩ X = (A', ⟨⟨key, true, n + 1⟩, ⟨key2, true, n2⟩⟩, x, 0) ∧ openT A'.l ⟨⟨key2, true, n2⟩, ⟨key, true, n⟩⟩ x = (⟨⟨key2, true, n2⟩, ⟨key, true, n + 1⟩⟩, X, 0) ∧ openT A'.l ⟨⟨key2, true, n2⟩, ⟨key, true, n + 1⟩⟩ x = (⟨⟨0, false, 0⟩, ⟨0, false, 0⟩⟩, 0, 7) ∧ BothInv A' ⟨⟨key, true, n + 1⟩, ⟨key2, true, n2⟩⟩ (s + 1) := both_seal h hs hX
theorem both_rekey1 {A : Ar} {key n key2 n2 : Int} {s : Nat} (h : BothInv A ⟨⟨key, true, n⟩, ⟨key2, true, n2⟩⟩ s) (hs : s < 30) :
    ∃ (A' : Ar) (k : Int), rekeyT A ⟨⟨key, true, n⟩, ⟨key2, true, n2⟩⟩ true = (A', ⟨⟨k, true, n⟩, ⟨key2, true, n2⟩⟩, 0) ∧ rekeyT A' ⟨⟨key2, true, n2⟩, ⟨key, true, n⟩⟩ false = (A', ⟨⟨key2, true, n2⟩, ⟨k, true, n⟩⟩, 0) ∧ BothInv A' ⟨⟨k, true, n⟩, ⟨key2, true, n2⟩⟩ (s + 1) := both_rekey h hs true
theorem both_rekey0 {A : Ar} {key n key2 n2 : Int} {s : Nat} (h : BothInv A ⟨⟨key, true, n⟩, ⟨key2, true, n2⟩⟩ s) (hs : s < 30) :
    ∃ (A' : Ar) (k : Int), rekeyT A ⟨⟨key, true, n⟩, ⟨key2, true, n2⟩⟩ false = (A', ⟨⟨key, true, n⟩, ⟨k, true, n2⟩⟩, 0) ∧ rekeyT A' ⟨⟨key2, true, n2⟩, ⟨key, true, n⟩⟩ true = (A', ⟨⟨k, true, n2⟩, ⟨key, true, n⟩⟩, 0) ∧ BothInv A' ⟨⟨key, true, n⟩, ⟨k, true, n2⟩⟩ (s + 1) := both_rekey h hs false
/-- The cells of the k-th one. -/
theorem two_at {w : World} {A : Option Addr} {os : List (Int × Int)} (h : Holds w A (os.flatMap two)) {k : Nat} {o : Int × Int} (hk : os[k]? = some o) :
    ∃ b f, A = some ⟨b, f, none⟩ ∧ w.cell? ⟨b, f + k * 2, none⟩ = some (.int .i64 o.1) ∧ w.cell? ⟨b, f + k * 2 + 1, none⟩ = some (.int .i64 o.2) := by
  have at_ : ∀ j u, (two o)[j]? = some u → (os.flatMap two)[k * 2 + j]? = some u := fun j u hj => by
    have hj5 : j < 2 := (List.getElem?_eq_some_iff.1 hj).1
    rw [flatMap_at two 2 (by decide) (fun _ => rfl), show (k * 2 + j) / 2 = k by omega, show (k * 2 + j) % 2 = j by omega, hk]
    exact hj
  rcases h with h | ⟨b, f, rfl, h⟩
  · have := at_ 0 _ rfl
    rw [h] at this; simp at this
  · exact ⟨b, f, rfl, h _ _ (at_ 0 _ rfl), h _ _ (at_ 1 _ rfl)⟩
end Go.Proofs.Ytgcjhmffndijhaa
