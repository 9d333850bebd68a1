import Derived.Test.YtmmcdncaiedmgaaO
import Derived.Test.YtmmcdncaiedmgaaN1
set_option linter.unusedVariables false
set_option linter.unusedSimpArgs false
namespace Go.Proofs.Ytmmcdncaiedmgaa
open Go.RowKit
theorem simS_symm (a b : ByteArray) : simS a b = simS b a := by
  unfold simS; rw [levS_symm, Nat.max_comm]
theorem simS_le (a b : ByteArray) : simS a b ≤ 1000 := by
  unfold simS
  split
  · exact Nat.le_refl _
  · rename_i h
    generalize max a.size b.size = n at h ⊢
    refine Nat.div_le_of_le_mul ?_
    rw [Nat.mul_comm]; exact Nat.mul_le_mul_right _ (Nat.sub_le _ _)
theorem simS_eq (a b : ByteArray) : simS a b = 1000 ↔ a = b := by
  rw [← levS_zero]
  have hm := levS_max a b
  unfold simS
  split
  · rename_i h; exact ⟨fun _ => by omega, fun _ => rfl⟩
  · rename_i h
    generalize max a.size b.size = n at h hm ⊢
    generalize levS a b = d at hm ⊢
    constructor
    · intro h1
      by_cases hd : d = 0
      · exact hd
      · have : 1000 * (n - d) / n < 1000 := by
          rw [Nat.div_lt_iff_lt_mul (by omega)]; omega
        omega
    · intro h1; subst h1; rw [Nat.sub_zero, Nat.mul_div_cancel _ (by omega)]

set_option maxHeartbeats 4000000 in
set_option maxRecDepth 100000 in
theorem bounds_walk (haw : Awake) (a b : ByteArray) (m : Int) (w : World) (ha : a.size ≤ 9223372036854775807) (hb : b.size ≤ 9223372036854775807) (hm0 : 0 ≤ m) (hm1 : m < 256) :
    Calls Try.prog 6 #[.string a, .string b, .int .u8 m] w fun e w' => e = .returned (.bool true) ∧ Below w.heap.size w w' := by
  by_cases h12 : a.size ≤ 12 ∧ b.size ≤ 12
  · obtain ⟨ha12, hb12⟩ := h12
    clear ha hb
    have g1 : decide ((12 : Int) < (a.size : Int)) = false := by simp; omega
    have g2 : decide ((12 : Int) < (b.size : Int)) = false := by simp; omega
    have d1 := distance_ok a b
    have d2 := bounded_ok a b
    have d3 := similarity_ok a b
    have d4 := similarity_ok b a
    rw [simS_symm b a] at d4
    have hlt : m.tmod 16 < 16 := Int.tmod_lt_of_pos _ (by omega)
    have hge : 0 ≤ m.tmod 16 := Int.tmod_nonneg _ hm0
    have q1 := simS_le a b
    have q2 := simS_eq a b
    obtain ⟨x, hx⟩ : ∃ x, levS a b = x := ⟨_, rfl⟩
    obtain ⟨s, hs⟩ : ∃ s, simS a b = s := ⟨_, rfl⟩
    obtain ⟨t, ht⟩ : ∃ t, m.tmod 16 = t := ⟨_, rfl⟩
    simp only [hx, hs, ht, bndR] at d1 d2 d3 d4 q1 q2 hlt hge
    replace d1 := Lib.hid d1
    replace d2 := Lib.hid d2
    replace d3 := Lib.hid d3
    replace d4 := Lib.hid d4
    replace haw := Lib.hid haw
    have hbool : (((s : Int) == 1000) == (a.toList == b.toList)) = true := by
      rw [str_beq]
      by_cases e : a = b
      · have : s = 1000 := q2.2 e
        subst this; simp [e]
      · have : s ≠ 1000 := fun h => e (q2.1 h)
        have h1 : ((s : Int) == 1000) = false := by simp; omega
        rw [h1]; simp [e]
    clear q2 hx hs
    have hmx := max4_zero
    have d2' := d2.out t
    rw [if_neg (by omega)] at d2'
    clear d2
    by_cases hxt : (x : Int) ≤ t
    · have hdx : decide ((x : Int) ≤ t) = true := by simpa using hxt
      rw [if_pos hxt] at d2'
      replace d2' := Lib.hid d2'
      go_enter Try.func6, Try.ntmps6
      go_wp2_with fail
      refine (d1.out _ (by omega) (by omega)).mono ?_
      rintro e w1 ⟨rfl, hB1⟩
      go_wp2_with fail
      refine (d2'.out _ (by omega) (by omega)).mono ?_
      rintro e w2 ⟨rfl, hB2⟩
      go_wp2_with fail
      refine (d3.out _ (by omega) (by omega)).mono ?_
      rintro e w3 ⟨rfl, hB3⟩
      go_wp2_with fail
      refine (d4.out _ (by omega) (by omega)).mono ?_
      rintro e w4 ⟨rfl, hB4⟩
      go_wp2_with fail
      refine (haw.out _).mono ?_
      rintro e w5 ⟨rfl, hB5⟩
      go_wp2_with fail
      go_ret
      exact ⟨rfl, (bst (bst (bst (bst hB1 hB2) hB3) hB4) hB5)⟩
    · have hdx : decide ((x : Int) ≤ t) = false := by simpa using hxt
      rw [if_neg hxt] at d2'
      replace d2' := Lib.hid d2'
      go_enter Try.func6, Try.ntmps6
      go_wp2_with fail
      refine (d1.out _ (by omega) (by omega)).mono ?_
      rintro e w1 ⟨rfl, hB1⟩
      go_wp2_with fail
      refine (d2'.out _ (by omega) (by omega)).mono ?_
      rintro e w2 ⟨rfl, hB2⟩
      go_wp2_with fail
      refine (d3.out _ (by omega) (by omega)).mono ?_
      rintro e w3 ⟨rfl, hB3⟩
      go_wp2_with fail
      refine (d4.out _ (by omega) (by omega)).mono ?_
      rintro e w4 ⟨rfl, hB4⟩
      go_wp2_with fail
      refine (haw.out _).mono ?_
      rintro e w5 ⟨rfl, hB5⟩
      go_wp2_with fail
      go_ret
      exact ⟨rfl, (bst (bst (bst (bst hB1 hB2) hB3) hB4) hB5)⟩
  · have hcase : (decide ((12 : Int) < (a.size : Int)) = true) ∨ (decide ((12 : Int) < (a.size : Int)) = false ∧ decide ((12 : Int) < (b.size : Int)) = true) := by
      simp only [decide_eq_true_eq, decide_eq_false_iff_not]; omega
    clear h12
    replace haw := Lib.hid haw
    rcases hcase with h1 | ⟨h1, h2⟩
    all_goals
      go_enter Try.func6, Try.ntmps6
      go_wp2_with fail
      refine (haw.out _).mono ?_
      rintro e w5 ⟨rfl, hB5⟩
      go_wp2_with fail
      go_ret
      exact ⟨rfl, hB5⟩
end Go.Proofs.Ytmmcdncaiedmgaa
