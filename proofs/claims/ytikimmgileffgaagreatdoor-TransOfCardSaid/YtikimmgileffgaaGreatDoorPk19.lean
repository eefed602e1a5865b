/- Packed for this claim by packm.py: ShF. -/
import Derived.Test.YtikimmgileffgaaGreatDoorPk18
namespace Go.Proofs.YtikimmgileffgaaGreatDoor
open Go.RowKit

theorem Own.swap01 {w0 w : World} {P Q : Thing} {M : List Thing} (O : Own w0 w (P :: Q :: M)) : Own w0 w (Q :: P :: M) :=
  O.pull (fun i => if i = 0 then 1 else if i = 1 then 0 else i) (fun i X hX => by
    match i, hX with
    | 0, hX => exact hX
    | 1, hX => exact hX
    | i + 2, hX => exact hX) (fun i j hi hj hij => by
    match i, j, hij with
    | 0, 0, _ => rfl
    | 0, 1, h => simp at h
    | 0, j + 2, h => simp at h
    | 1, 0, h => simp at h
    | 1, 1, _ => rfl
    | 1, j + 2, h => simp at h
    | i + 2, 0, h => simp at h
    | i + 2, 1, h => simp at h
    | i + 2, j + 2, h => simpa using h)
theorem Own.startJ {w0 w : World} {X Y : Thing} {M : List Thing} {x : PatV} {p : Pat} {v : Value} {l : List Int} (O : Own w0 w (rowT 3 1 v l.length (intsV l) :: X :: Y :: patT x p :: M)) : Own w0 w (X :: shkT x p v l :: Y :: M) := by
  have h : Own w0 w (rowT 3 1 v l.length (intsV l) :: patT x p :: X :: Y :: M) :=
    O.pull (fun i => if i = 0 then 0 else if i = 1 then 3 else if i = 2 then 1 else if i = 3 then 2 else i) (fun i P hP => by
      match i, hP with
      | 0, hP => exact hP
      | 1, hP => exact hP
      | 2, hP => exact hP
      | 3, hP => exact hP
      | i + 4, hP => simpa using hP) (fun i j _ _ hij => by (repeat' split at hij) <;> omega)
  exact h.shk.swap01
theorem holds_cell {w : World} {A : Option Addr} {l : List Int} {b q k : Nat} {t : Int} (h : Holds w A (intsV l)) (hA : A = some ⟨b, q, none⟩) (ht : l[k]? = some t) : w.cell? ⟨b, q + k * 1, none⟩ = some (.int .i64 t) := by
  obtain ⟨b', q', hA', hc⟩ := holdsI_at h ht
  rw [hA] at hA'; cases hA'
  exact hc w (Below.refl _ _)
theorem toldL_no {md : Bool} {role kS kE kRS kRE who : Int} {l : List Int} {A : Ar} {y : Sy} {e : Int} (h : ¬ e = 0) : toldL md role kS kE kRS kRE who l (A, y, e) = (A, y, e) := by
  cases l with
  | nil => rfl
  | cons t l => simp [toldL, h]
def pickV (e : Int) (a b : Value) : Value := if e = 0 then a else b
theorem pickV_no {e : Int} (h : ¬ e = 0) (a b : Value) : pickV e a b = b := if_neg h
theorem needOf_right {p : Pat} {role : Int} (h : (needOf p role).2 = 0) : rightP p = true := by
  cases hq : rightP p with
  | true => rfl
  | false =>
    exfalso
    have hc : checkV p = (0, 0, 1) := by simp [checkV, hq]
    unfold needOf at h
    rw [hc] at h
    split at h
    · cases h
    · simp at h
theorem needX {w0 w : World} {M : List Thing} {A0 A1 A : Option Addr} {c0 c1 c : Nat} {p : Pat} {role : Int} {ns ne nrs nre : Bool} {np en : Int} (hrole : role = 0 ∨ role = 1) (O : Own w0 w M) (hp : PatIn w (Old w) (pvx A0 c0 A1 c1 A c p) p) (hfit : PatFits p) (hm : needOf p role = (⟨ns, ne, nrs, nre, np⟩, en)) :
    Calls Tryz.prog 58 #[.agg #[.string (strO p.name), .slice A0 p.pre0.length c0, .slice A1 p.pre1.length c1, .slice A p.msgs.length c], .int .i64 role] w fun e' w' => e' = .returned (.tuple #[.agg #[.bool ns, .bool ne, .bool nrs, .bool nre, .int .i64 np], .int .i64 en]) ∧ Own w0 w' M := by
  rcases hrole with rfl | rfl
  · refine (needE0 hp hp.pre0.at0 hp.pre1.at0 hfit.pre0 hfit.pre1 hfit).mono ?_
    rintro e' w' ⟨rfl, hb⟩
    rw [hm]; exact ⟨rfl, O.call hb⟩
  · refine (needE1 hp hp.pre0.at0 hp.pre1.at0 hfit.pre0 hfit.pre1 hfit).mono ?_
    rintro e' w' ⟨rfl, hb⟩
    rw [hm]; exact ⟨rfl, O.call hb⟩
theorem enoughX {w0 w : World} {M : List Thing} {ns ne nrs nre hs he hrs hre : Bool} {np hp : Int} {is : Bool} (O : Own w0 w M) (hm : enough ⟨ns, ne, nrs, nre, np⟩ ⟨hs, he, hrs, hre, hp⟩ = is) :
    Calls Tryz.prog 60 #[.agg #[.bool ns, .bool ne, .bool nrs, .bool nre, .int .i64 np], .agg #[.bool hs, .bool he, .bool hrs, .bool hre, .int .i64 hp]] w fun e' w' => e' = .returned (.bool is) ∧ Own w0 w' M :=
  enoughE.mono fun _ _ ⟨h, hb⟩ => ⟨by rw [← hm]; exact h, O.call hb⟩
theorem hasHE {w0 w : World} {M : List Thing} {r : Nat} {A : Ar} {xs : List Int} {B : Option Addr} {c : Nat} {is : Bool} (h : Own w0 w M) (i : Nat) (hi : M[i]? = some (arena r A)) (hh : Holds w B (intsV xs)) (hl : xs.length ≤ 9223372036854775807) (hm : (xs.all fun x => has A.l x) = is) :
    Calls Tryz.prog 59 #[.pointer (some ⟨r, 0, none⟩), .slice B xs.length c] w fun e w' => e = .returned (.bool is) ∧ Own w0 w' M := by
  obtain ⟨S, hr⟩ := h.arena hi
  refine (has_calls c hr hh hl).mono ?_
  rintro e w' ⟨rfl, hb⟩
  refine ⟨?_, h.call hb⟩
  rw [← hm]
  have : hasAll A.l.length xs = xs.all fun x => has A.l x := by
    unfold hasAll has
    rw [Bool.eq_iff_iff]; simp
  rw [this]
theorem printY {w0 w : World} {M : List Thing} {A0 A1 A : Option Addr} {c0 c1 c : Nat} {p : Pat} (O : Own w0 w M) (hp : PatIn w (Old w) (pvx A0 c0 A1 c1 A c p) p) (hfit : PatFits p) (hr : rightP p = true) :
    Calls Tryz.prog 61 #[.agg #[.string (strO p.name), .slice A0 p.pre0.length c0, .slice A1 p.pre1.length c1, .slice A p.msgs.length c]] w fun e w' => e = .returned (.tuple #[.string (strO (printT p)), .int .i64 0]) ∧ Own w0 w' M :=
  (print_calls hp hfit hr).mono fun _ _ h => by
    obtain ⟨he, hb⟩ := h
    exact ⟨he, O.call hb⟩
theorem keptY {w0 w : World} {M : List Thing} {ns ne nrs nre : Bool} {np kS kE kRS kRE : Int} {B : Option Addr} {d : Nat} {psks : List Int} (O : Own w0 w M) (hh : Holds w B (intsV psks)) (hl : psks.length * 8 ≤ 140737488355328) :
    Calls Tryz.prog 63 #[.agg #[.bool ns, .bool ne, .bool nrs, .bool nre, .int .i64 np], .agg #[.int .i64 kS, .int .i64 kE, .int .i64 kRS, .int .i64 kRE, .slice B psks.length d]] w fun e' w' => ∃ bk dk, e' = .returned (.agg #[.int .i64 (sel ns kS), .int .i64 (sel ne kE), .int .i64 (sel nrs kRS), .int .i64 (sel nre kRE), .slice bk psks.length dk]) ∧ Own w0 w' (rowT 3 1 (.slice bk psks.length dk) psks.length (intsV psks) :: M) :=
  (keptE (Own.start w) hh hl).mono fun _ _ ⟨bk, dk, he, h⟩ => ⟨bk, dk, he, O.join1 h⟩
/-- Something that stays true while the i-th thing changes and others are made. -/
def Kept (w0 : World) (M : List Thing) (i : Nat) (Φ : World → Prop) : Prop := ∀ (T : List Ent), (∀ (j : Nat) (y : Thing), j ≠ i → M[j]? = some y → (T.map Ent.t)[j]? = some y) → ∀ (w' : World) (G : List Ent) (y : Thing), Own w0 w' ((G ++ .thing y :: T).map Ent.t) → Φ w'
theorem kept_old {w0 : World} {M : List Thing} {i : Nat} {Φ : World → Prop} (h : ∀ w', Below w0.heap.size w0 w' → Φ w') : Kept w0 M i Φ := fun _ _ w' _ _ O => h w' O.below
theorem kept_thing {w0 : World} {M : List Thing} {i : Nat} {Φ : World → Prop} (j : Nat) (X : Thing) (hj : M[j]? = some X) (hij : j ≠ i) (hX : ∀ w S, X.P w S → Φ w) : Kept w0 M i Φ := fun T hT w' G y O => by
  have h1 := hT j X hij hj
  have h2 : ((G ++ .thing y :: T).map Ent.t)[G.length + 1 + j]? = some X := by
    rw [List.map_append, List.getElem?_append_right (by simp; omega), List.length_map, show G.length + 1 + j - G.length = j + 1 by omega, List.map_cons, List.getElem?_cons_succ]; exact h1
  obtain ⟨S, h3, _⟩ := O.at h2
  exact hX w' S h3
end Go.Proofs.YtikimmgileffgaaGreatDoor
