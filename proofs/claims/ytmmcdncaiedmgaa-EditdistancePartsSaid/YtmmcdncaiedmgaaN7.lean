import Derived.Test.YtmmcdncaiedmgaaZ2
import Derived.Test.YtmmcdncaiedmgaaN1
set_option linter.unusedVariables false
set_option linter.unusedSimpArgs false
namespace Go.Proofs.Ytmmcdncaiedmgaa
open Go.RowKit
theorem bl_app (a b : ByteArray) : bl (a ++ b) = bl a ++ bl b := by simp [bl]
theorem max5_zero (w : World) : (Builtin.max_ #[23, 23, 23, 23, 23] 23 #[.int .i64 0, .int .i64 0, .int .i64 0, .int .i64 0, .int .i64 0]).run Try.prog w = .ok (.int .i64 0) w := by kernel_rfl
theorem turn_size (s : ByteArray) : (turn s).size = s.size := by rw [← size_bl, bl_turn, List.length_reverse, size_bl]

set_option maxHeartbeats 4000000 in
set_option maxRecDepth 100000 in
theorem parts_walk (haw : Awake) (a b c d : ByteArray) (w : World) (ha : a.size ≤ 9223372036854775807) (hb : b.size ≤ 9223372036854775807) (hc : c.size ≤ 9223372036854775807) (hd : d.size ≤ 9223372036854775807) :
    Calls Try.prog 11 #[.string a, .string b, .string c, .string d] w fun e w' => e = .returned (.bool true) ∧ Below w.heap.size w w' := by
  by_cases h8 : a.size ≤ 8 ∧ b.size ≤ 8 ∧ c.size ≤ 8 ∧ d.size ≤ 8
  · obtain ⟨ha8, hb8, hc8, hd8⟩ := h8
    clear ha hb hc hd
    have g1 : decide ((8 : Int) < (a.size : Int)) = false := by simp; omega
    have g2 : decide ((8 : Int) < (b.size : Int)) = false := by simp; omega
    have g3 : decide ((8 : Int) < (c.size : Int)) = false := by simp; omega
    have g4 : decide ((8 : Int) < (d.size : Int)) = false := by simp; omega
    have d1 := fun W => distance_ok a b W (by omega) (by omega)
    have d2 := fun W => distance_ok c d W (by omega) (by omega)
    have d3 := fun W => distance_ok (a ++ c) (b ++ d) W (by simp; omega) (by simp; omega)
    have d4 := fun W => distance_ok (c ++ a ++ d) (c ++ b ++ d) W (by simp; omega) (by simp; omega)
    have d5 := fun W => distance_ok (turn a) (turn b) W (by rw [turn_size]; omega) (by rw [turn_size]; omega)
    have p1 : levS (a ++ c) (b ++ d) ≤ levS a b + levS c d := by simp only [levS_ed, bl_app]; exact ed_append _ _ _ _
    have p2 : levS (c ++ a ++ d) (c ++ b ++ d) = levS a b := by simp only [levS_ed, bl_app]; rw [ed_append_right, ed_append_left]
    have p3 : levS (turn a) (turn b) = levS a b := by simp only [levS_ed, bl_turn]; exact ed_rev _ _
    have t1 := fun W => turned_any a W (by omega)
    have t2 := fun W => turned_any b W (by omega)
    rw [p2] at d4
    rw [p3] at d5
    obtain ⟨x, hx⟩ : ∃ x, levS a b = x := ⟨_, rfl⟩
    obtain ⟨y, hy⟩ : ∃ x, levS c d = x := ⟨_, rfl⟩
    obtain ⟨z, hz⟩ : ∃ x, levS (a ++ c) (b ++ d) = x := ⟨_, rfl⟩
    obtain ⟨ta, hta⟩ : ∃ x, turn a = x := ⟨_, rfl⟩
    obtain ⟨tb, htb⟩ : ∃ x, turn b = x := ⟨_, rfl⟩
    simp only [hx, hy, hz, hta, htb] at d1 d2 d3 d4 d5 p1 t1 t2
    have m1 := levS_max a b
    have m2 := levS_max c d
    rw [hx] at m1
    rw [hy] at m2
    replace d1 := Lib.hid d1
    replace d2 := Lib.hid d2
    replace d3 := Lib.hid d3
    replace d4 := Lib.hid d4
    replace d5 := Lib.hid d5
    replace t1 := Lib.hid t1
    replace t2 := Lib.hid t2
    replace haw := Lib.hid haw
    have b1 : decide ((z : Int) ≤ (x : Int) + (y : Int)) = true := by simp; omega
    have hmx := max5_zero
    have hxx : x ≤ 8 := by omega
    have hyy : y ≤ 8 := by omega
    clear hx hy hz hta htb p2 p3 p1 m1 m2
    go_enter Try.func11, Try.ntmps11
    go_wp2_with fail
    refine (d1.out _).mono ?_
    rintro e w1 ⟨rfl, hB1⟩
    go_wp2_with fail
    refine (d2.out _).mono ?_
    rintro e w2 ⟨rfl, hB2⟩
    go_wp2_with fail
    refine (d3.out _).mono ?_
    rintro e w3 ⟨rfl, hB3⟩
    go_wp2_with fail
    refine (d4.out _).mono ?_
    rintro e w4 ⟨rfl, hB4⟩
    go_wp2_with fail
    refine (t1.out _).mono ?_
    rintro e w5 ⟨rfl, hB5⟩
    go_wp2_with fail
    refine (t2.out _).mono ?_
    rintro e w6 ⟨rfl, hB6⟩
    go_wp2_with fail
    refine (d5.out _).mono ?_
    rintro e w7 ⟨rfl, hB7⟩
    have hB := bst (bst (bst (bst (bst (bst hB1 hB2) hB3) hB4) hB5) hB6) hB7
    clear hB1 hB2 hB3 hB4 hB5 hB6 hB7
    go_wp2_with fail
    refine (contains_x _).mono ?_
    rintro e w8 ⟨rfl, rfl⟩
    go_wp2_with fail
    refine (haw.out _).mono ?_
    rintro e w9 ⟨rfl, hB9⟩
    go_wp2_with fail
    go_ret
    exact ⟨rfl, bst hB hB9⟩
  · replace haw := Lib.hid haw
    have h4 : (8 < a.size) ∨ (a.size ≤ 8 ∧ 8 < b.size) ∨ (a.size ≤ 8 ∧ b.size ≤ 8 ∧ 8 < c.size) ∨ (a.size ≤ 8 ∧ b.size ≤ 8 ∧ c.size ≤ 8 ∧ 8 < d.size) := by omega
    clear h8
    rcases h4 with h1 | ⟨h1, h2⟩ | ⟨h1, h2, h3⟩ | ⟨h1, h2, h3, h4⟩
    · have g1 : decide ((8 : Int) < (a.size : Int)) = true := by simp; omega
      go_enter Try.func11, Try.ntmps11
      go_wp2_with fail
      refine (haw.out _).mono ?_
      rintro e w9 ⟨rfl, hB9⟩
      go_wp2_with fail
      go_ret
      exact ⟨rfl, hB9⟩
    · have g1 : decide ((8 : Int) < (a.size : Int)) = false := by simp; omega
      have g2 : decide ((8 : Int) < (b.size : Int)) = true := by simp; omega
      go_enter Try.func11, Try.ntmps11
      go_wp2_with fail
      refine (haw.out _).mono ?_
      rintro e w9 ⟨rfl, hB9⟩
      go_wp2_with fail
      go_ret
      exact ⟨rfl, hB9⟩
    · have g1 : decide ((8 : Int) < (a.size : Int)) = false := by simp; omega
      have g2 : decide ((8 : Int) < (b.size : Int)) = false := by simp; omega
      have g3 : decide ((8 : Int) < (c.size : Int)) = true := by simp; omega
      go_enter Try.func11, Try.ntmps11
      go_wp2_with fail
      refine (haw.out _).mono ?_
      rintro e w9 ⟨rfl, hB9⟩
      go_wp2_with fail
      go_ret
      exact ⟨rfl, hB9⟩
    · have g1 : decide ((8 : Int) < (a.size : Int)) = false := by simp; omega
      have g2 : decide ((8 : Int) < (b.size : Int)) = false := by simp; omega
      have g3 : decide ((8 : Int) < (c.size : Int)) = false := by simp; omega
      have g4 : decide ((8 : Int) < (d.size : Int)) = true := by simp; omega
      go_enter Try.func11, Try.ntmps11
      go_wp2_with fail
      refine (haw.out _).mono ?_
      rintro e w9 ⟨rfl, hB9⟩
      go_wp2_with fail
      go_ret
      exact ⟨rfl, hB9⟩
end Go.Proofs.Ytmmcdncaiedmgaa
