/- DeviceAccepts answers true. -/
import Derived.Test.YtlpcjngclgncmaaRunW
import Derived.Test.YtlpcjngclgncmaaAwake15
namespace Go.Proofs.Ytlpcjngclgncmaa
open Go.RowKit

def accQ (p : Int) (q : Option Int) : Int × Int := if p = 0 then (0, 11) else q.elim (if p = 1 then (0, 11) else (-1, 0)) (fun k => (k, 0))
theorem accD_accQ (D : Dv) (pub : Int) : accD D pub = accQ D.policy (wh pub D.peers) := by
  unfold accD accQ
  cases wh pub D.peers <;> rfl
def AccTrue (w : World) (e : Ending) (w' : World) : Prop := e = .returned (.bool true) ∧ Below w.heap.size w w'
set_option maxHeartbeats 3200000 in
set_option maxRecDepth 100000 in
theorem accepts_walk (policy : Int) (A : Option Addr) (c : Nat) (os : List (Int × Int × Int)) (pub : Int) (w : World) (hx : Holds w A (os.flatMap three)) (hmx : os.length ≤ maxLen) :
    Calls Try.prog 4 #[.int .i64 policy, .slice A os.length c, .int .i64 pub] w (AccTrue w) := by
  have Hx := Lib.hid hx
  clear hx
  have hmx2 : os.length ≤ 9223372036854775807 := by unfold maxLen at hmx; omega
  by_cases hbad : 30 < os.length ∨ policy < 0 ∨ 2 < policy
  · have hd : (decide (30 < os.length) = true ∧ decide ((30 : Int) < (os.length : Int)) = true) ∨ ((decide (30 < os.length) = false ∧ decide ((30 : Int) < (os.length : Int)) = false) ∧ decide (policy < 0) = true) ∨ ((decide (30 < os.length) = false ∧ decide ((30 : Int) < (os.length : Int)) = false) ∧ decide (policy < 0) = false ∧ decide (2 < policy) = true) := by
      by_cases h1 : 30 < os.length
      · exact .inl ⟨decide_eq_true h1, decide_eq_true (by omega)⟩
      · by_cases h2 : policy < 0
        · exact .inr (.inl ⟨⟨decide_eq_false h1, decide_eq_false (by omega)⟩, decide_eq_true h2⟩)
        · exact .inr (.inr ⟨⟨decide_eq_false h1, decide_eq_false (by omega)⟩, decide_eq_false h2, decide_eq_true (by omega)⟩)
    clear hbad
    rcases hd with ⟨d1, d2⟩ | ⟨⟨d1, d2⟩, d3⟩ | ⟨⟨d1, d2⟩, d3, d4⟩
    all_goals
      go_enter Try.func4, Try.ntmps4
      go_wp2_with fail
      refine (awake _).mono ?_
      rintro e w9 ⟨rfl, b9⟩
      go_wp2_with fail
      go_ret
      exact ⟨rfl, b9⟩
  · have d1 : decide (30 < os.length) = false := decide_eq_false (by omega)
    have d2 : decide ((30 : Int) < (os.length : Int)) = false := decide_eq_false (by omega)
    have d3 : decide (policy < 0) = false := decide_eq_false (by omega)
    have d4 : decide (2 < policy) = false := decide_eq_false (by omega)
    have hp : policy = 0 ∨ policy = 1 ∨ policy = 2 := by omega
    have hl : os.length ≤ 30 := by omega
    clear hbad
    go_enter Try.func4, Try.ntmps4
    go_wp2_with fail
    refine (run_calls w policy (by omega) (by omega) A c os Hx.out hl).mono ?_
    rintro e w1 ⟨d, r1, r2, v, D, l, rfl, hinv, hpol, o1⟩
    obtain ⟨S, hs⟩ := o1.storeAt (i := 3) rfl
    have ha := acc_calls (o1.blk (i := 1) rfl) hs pub
    have O1 := Lib.hid o1
    have hlen := hinv.len
    have hwh := wh_prs pub l
    rw [← hinv.peers] at hwh
    clear hs o1 hinv
    have Ha := Lib.hid (accD_accQ D pub)
    unfold AccPost at ha
    rw [hpol] at Ha
    clear hpol
    go_wp2_with fail
    refine ha.mono ?_
    rintro e w2 ⟨rfl, b2⟩
    have o2 := O1.out.call b2
    have O2 := Lib.hid o2
    have hw := who15_calls (o2.row (i := 0) rfl) (by omega) pub
    clear ha o2 b2
    go_wp2_with fail
    refine hw.mono ?_
    rintro e w3 ⟨rfl, b3⟩
    have o3 := O2.out.call b3
    have O3 := Lib.hid o3
    clear hw b3 o3
    generalize wh pub D.peers = q at *
    generalize atP (fun p => p.key == pub) l = k at *
    have hge : ∀ (n : Nat) (x : Pr), l[n]? = some x → ∃ g cap, v = .slice (some ⟨g, 0, none⟩) l.length cap := fun n x hx => (PeersAt.nil (w := w3) (B := 0) (v := v) (l := l) (O3.out.row (i := 0) rfl)).resolve_left (fun h => by rw [h.2] at hx; simp at hx)
    rcases hwh with ⟨h0, x, hxk, rfl⟩ | ⟨rfl, rfl⟩
    · obtain ⟨n, rfl⟩ : ∃ n : Nat, k = n := ⟨k.toNat, by omega⟩
      rw [Int.toNat_natCast] at hxk
      obtain ⟨g, cap, rfl⟩ := hge n x hxk
      obtain ⟨q0, q1, q2⟩ := PeersAt.peer (O3.out.row (i := 0) rfl) hxk
      have hn : n < l.length := (List.getElem?_eq_some_iff.1 hxk).1
      have hn2 : (n : Int) < l.length := by omega
      clear h0 hge hxk
      rcases hp with rfl | rfl | rfl
      · rw [show accD D pub = (0, 11) by rw [Ha.out]; rfl]
        go_wp2_with fail
        refine (awake _).mono ?_
        rintro e w9 ⟨rfl, b9⟩
        go_wp2_with fail
        go_ret
        exact ⟨rfl, (O3.out.call b9).below⟩
      · rw [show accD D pub = (x.id, 0) by rw [Ha.out]; rfl]
        go_wp2_with fail
        refine (awake _).mono ?_
        rintro e w9 ⟨rfl, b9⟩
        go_wp2_with fail
        go_ret
        exact ⟨rfl, (O3.out.call b9).below⟩
      · rw [show accD D pub = (x.id, 0) by rw [Ha.out]; rfl]
        go_wp2_with fail
        refine (awake _).mono ?_
        rintro e w9 ⟨rfl, b9⟩
        go_wp2_with fail
        go_ret
        exact ⟨rfl, (O3.out.call b9).below⟩
    · clear hge
      rcases hp with rfl | rfl | rfl
      · rw [show accD D pub = (0, 11) by rw [Ha.out]; rfl]
        go_wp2_with fail
        refine (awake _).mono ?_
        rintro e w9 ⟨rfl, b9⟩
        go_wp2_with fail
        go_ret
        exact ⟨rfl, (O3.out.call b9).below⟩
      · rw [show accD D pub = (0, 11) by rw [Ha.out]; rfl]
        go_wp2_with fail
        refine (awake _).mono ?_
        rintro e w9 ⟨rfl, b9⟩
        go_wp2_with fail
        go_ret
        exact ⟨rfl, (O3.out.call b9).below⟩
      · rw [show accD D pub = (-1, 0) by rw [Ha.out]; rfl]
        go_wp2_with fail
        refine (awake _).mono ?_
        rintro e w9 ⟨rfl, b9⟩
        go_wp2_with fail
        go_ret
        exact ⟨rfl, (O3.out.call b9).below⟩
end Go.Proofs.Ytlpcjngclgncmaa
