import Derived.Test.YtmmcdncaiedmgaaF
import Derived.Test.YtmmcdncaiedmgaaW
set_option linter.unusedVariables false
set_option linter.unusedSimpArgs false
namespace Go.Proofs.Ytmmcdncaiedmgaa
open Go.RowKit
def Awake : Prop := ∀ (w : World), Calls Try.prog 12 #[] w fun e w' => e = .returned (.bool true) ∧ Below w.heap.size w w'

set_option maxHeartbeats 4000000 in
set_option maxRecDepth 100000 in
theorem metric_walk (haw : Awake) (a b c : ByteArray) (w : World) (ha : a.size ≤ 9223372036854775807) (hb : b.size ≤ 9223372036854775807) (hc : c.size ≤ 9223372036854775807) :
    Calls Try.prog 3 #[.string a, .string b, .string c] w fun e w' => e = .returned (.bool true) ∧ Below w.heap.size w w' := by
  by_cases h12 : a.size ≤ 12 ∧ b.size ≤ 12 ∧ c.size ≤ 12
  · obtain ⟨ha12, hb12, hc12⟩ := h12
    clear ha hb hc
    have g1 : decide ((12 : Int) < (a.size : Int)) = false := by simp; omega
    have g2 : decide ((12 : Int) < (b.size : Int)) = false := by simp; omega
    have g3 : decide ((12 : Int) < (c.size : Int)) = false := by simp; omega
    have d1 := distance_ok a b
    have d2 := distance_ok b a
    have d3 := distance_ok b c
    have d4 := distance_ok a c
    rw [levS_symm b a] at d2
    have q1 := levS_zero a b
    have q2 := levS_trans a b c
    have q3 := levS_len a b
    have q4 := levS_max a b
    have m1 := levS_max b c
    have m2 := levS_max a c
    obtain ⟨x, hx⟩ : ∃ x, levS a b = x := ⟨_, rfl⟩
    obtain ⟨y, hy⟩ : ∃ x, levS b c = x := ⟨_, rfl⟩
    obtain ⟨z, hz⟩ : ∃ x, levS a c = x := ⟨_, rfl⟩
    simp only [hx, hy, hz] at d1 d2 d3 d4 q1 q2 q3 q4 m1 m2
    replace d1 := Lib.hid d1
    replace d2 := Lib.hid d2
    replace d3 := Lib.hid d3
    replace d4 := Lib.hid d4
    replace haw := Lib.hid haw
    have hbool : (((x : Int) == 0) == (a.toList == b.toList)) = true := by
      rw [str_beq]
      by_cases e : a = b
      · have : x = 0 := q1.2 e
        subst this; simp [e]
      · have : x ≠ 0 := fun h => e (q1.1 h)
        have h1 : ((x : Int) == 0) = false := by simp; omega
        rw [h1]; simp [e]
    clear q1 hx hy hz
    have hmx := max4_zero
    go_enter Try.func3, Try.ntmps3
    go_wp2_with fail
    refine (d1.out _ (by omega) (by omega)).mono ?_
    rintro e w1 ⟨rfl, hB1⟩
    go_wp2_with fail
    refine (d2.out _ (by omega) (by omega)).mono ?_
    rintro e w2 ⟨rfl, hB2⟩
    go_wp2_with fail
    refine (d3.out _ (by omega) (by omega)).mono ?_
    rintro e w3 ⟨rfl, hB3⟩
    go_wp2_with fail
    refine (d4.out _ (by omega) (by omega)).mono ?_
    rintro e w4 ⟨rfl, hB4⟩
    go_wp2_with fail
    all_goals
      refine (haw.out _).mono ?_
      rintro e w5 ⟨rfl, hB5⟩
      go_wp2_with fail
      go_ret
      exact ⟨rfl, (bst (bst (bst (bst hB1 hB2) hB3) hB4) hB5)⟩
  · have hcase : (decide ((12 : Int) < (a.size : Int)) = true) ∨ (decide ((12 : Int) < (a.size : Int)) = false ∧ decide ((12 : Int) < (b.size : Int)) = true) ∨
        (decide ((12 : Int) < (a.size : Int)) = false ∧ decide ((12 : Int) < (b.size : Int)) = false ∧ decide ((12 : Int) < (c.size : Int)) = true) := by
      simp only [decide_eq_true_eq, decide_eq_false_iff_not]; omega
    clear h12
    replace haw := Lib.hid haw
    rcases hcase with h1 | ⟨h1, h2⟩ | ⟨h1, h2, h3⟩
    all_goals
      go_enter Try.func3, Try.ntmps3
      go_wp2_with fail
      refine (haw.out _).mono ?_
      rintro e w5 ⟨rfl, hB5⟩
      go_wp2_with fail
      go_ret
      exact ⟨rfl, hB5⟩
end Go.Proofs.Ytmmcdncaiedmgaa
