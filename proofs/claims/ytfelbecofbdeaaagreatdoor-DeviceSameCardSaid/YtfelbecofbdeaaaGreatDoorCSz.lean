/- Of a term's rows: those of a part are fewer; there is one, and no more than terms. No program in sight. -/
import Derived.Test.YtfelbecofbdeaaaGreatDoorTxt
namespace Go.Proofs.YtfelbecofbdeaaaGreatDoor
open Go.RowKit

theorem rows_mem {l : List Nd} (w : Wf l) {x : Int} (hx : has l x = true) : x ∈ rowsA l [] x :=
  (rows_ind w (fun a b => ∀ y ∈ a, y ∈ b) (fun a y h => h) (fun a b c h1 h2 y hy => h2 y (h1 y hy)) (fun acc acc' x _ _ _ _ _ y hy => by simp [hy]) (fun a b y h hy => h y hy) (x.toNat + 1) [] x (by omega)).2.1 hx
theorem rows_in {l : List Nd} (w : Wf l) (C : Int → Prop) (hC : ∀ y, C y → has l y = true → ∀ q ∈ kids (nd l y), C q) : ∀ (n : Nat) (acc : List Int) (x : Int), x.toNat < n → C x → (∀ z ∈ acc, C z) → ∀ z ∈ rowsA l acc x, C z
  | 0, _, _, h, _, _ => by omega
  | n + 1, acc, x, h, hx, ha => by
    rw [rowsA_eq w]
    by_cases hc : has l x = false ∨ x ∈ acc
    · rw [if_pos hc]; exact ha
    · rw [if_neg hc]
      have hxx : has l x = true := by
        cases hh : has l x with
        | true => rfl
        | false => exact absurd (.inl hh) hc
      have hf : ∀ (ks a : List Int), (∀ p ∈ ks, p ∈ kids (nd l x)) → (∀ z ∈ a, C z) → ∀ z ∈ ks.foldl (rowsA l) a, C z := by
        intro ks
        induction ks with
        | nil => intro a _ ha; exact ha
        | cons p ks ih =>
          intro a hks ha
          have hp := hks p (by simp)
          have hk := w.kid hxx hp
          exact ih _ (fun q hq => hks q (by simp [hq])) (rows_in w C hC n a p (by omega) (hC x hx hxx p hp) ha)
      intro z hz
      rcases List.mem_append.1 hz with hz | hz
      · exact hf _ _ (fun p hp => hp) ha z hz
      · simp at hz; subst hz; exact hx
theorem rows_kid {l : List Nd} (w : Wf l) {x p : Int} (hx : has l x = true) (hp : p ∈ kids (nd l x)) : (rowsA l [] p).length < (rowsA l [] x).length := by
  have hk := w.kid hx hp
  have hr := rows_refs w (Refs.nil l) p
  have hcl : ∀ y ∈ rowsA l [] x, ∀ q ∈ kids (nd l y), q ∈ rowsA l [] x := fun y hy q hq => by
    obtain ⟨k, hk⟩ := List.mem_iff_getElem?.1 hy
    exact List.mem_of_mem_take (rows_closed w x k y hk q hq)
  have hsub := rows_in w (fun z => z ∈ rowsA l [] x) (fun y hy _ q hq => hcl y hy q hq) (p.toNat + 1) [] p (by omega) (hcl x (rows_mem w hx) p hp) (fun z hz => (List.not_mem_nil hz).elim)
  have hnx : x ∉ rowsA l [] p := fun h => by
    rcases rows_le w [] p x h with h | h
    · exact (List.not_mem_nil h).elim
    · omega
  have := nodup_length (x :: rowsA l [] p) (rowsA l [] x) (List.nodup_cons.2 ⟨hnx, hr.nodup⟩) (fun y hy => by
    rcases List.mem_cons.1 hy with rfl | hy
    · exact rows_mem w hx
    · exact hsub y hy)
  simp at this; omega
theorem rows_none {l : List Nd} {x : Int} (w : Wf l) (h : has l x = false) : rowsA l [] x = [] := by rw [rowsA_eq w, if_pos (.inl h)]
theorem rows_some {l : List Nd} {x : Int} (w : Wf l) (h : has l x = true) : 1 ≤ (rowsA l [] x).length ∧ (rowsA l [] x).length ≤ l.length :=
  ⟨List.length_pos_of_mem (rows_mem w h), (rows_refs w (Refs.nil l) x).length⟩
end Go.Proofs.YtfelbecofbdeaaaGreatDoor
