import Derived.Test.YtnlenhhmajecjaaA
set_option linter.unusedVariables false
set_option linter.unusedSimpArgs false
namespace Go.Proofs.Ytnlenhhmajecjaa
open Go.RowKit
set_option maxHeartbeats 4000000 in
theorem rkind_conc (n : Nat) (h : n = 94 ∨ n = 126 ∨ n = 37 ∨ n = 39 ∨ n = 32 ∨ n = 0 ∨ n = 46 ∨ n = 44 ∨ n = 59 ∨ n = 58 ∨ n = 33 ∨ n = 63 ∨ n = 40 ∨ n = 41 ∨ n = 45) (w : World) :
    Calls Try.prog 13 #[.int .u8 n] w fun e w' => e = .returned (.int .i64 (kindN n)) ∧ w' = w := by
  rcases h with rfl | rfl | rfl | rfl | rfl | rfl | h
  all_goals first
    | (go_enter Try.func13, Try.ntmps13
       go_wp2_with fail
       go_ret
       exact ⟨rfl, rfl⟩)
    | skip
  rcases h with rfl | rfl | rfl | rfl | rfl | rfl | rfl | rfl | rfl
  all_goals
    go_enter Try.func13, Try.ntmps13
    go_wp2_with fail
    go_ret
    exact ⟨rfl, rfl⟩
set_option maxHeartbeats 4000000 in
theorem rkind_else (n : Nat) (hn : n < 256) (h1 : ¬ n ∈ punct) (h2 : n ≠ 94 ∧ n ≠ 126 ∧ n ≠ 37 ∧ n ≠ 39 ∧ n ≠ 32 ∧ n ≠ 0) (h3 : ¬ (48 ≤ n ∧ n ≤ 57)) (h4 : ¬ ((97 ≤ n ∧ n ≤ 122) ∨ (65 ≤ n ∧ n ≤ 90))) (w : World) :
    Calls Try.prog 13 #[.int .u8 n] w fun e w' => e = .returned (.int .i64 (0 : Nat)) ∧ w' = w := by
  obtain ⟨a1, a2, a3, a4, a5, a6⟩ := h2
  have e1 : ((n : Int) == 94) = false := by simp; omega
  have e2 : ((n : Int) == 126) = false := by simp; omega
  have e3 : ((n : Int) == 37) = false := by simp; omega
  have e4 : ((n : Int) == 39) = false := by simp; omega
  have e5 : ((n : Int) == 32) = false := by simp; omega
  have e6 : ((n : Int) != 0) = true := by simp; omega
  have h1' : n ≠ 46 ∧ n ≠ 44 ∧ n ≠ 59 ∧ n ≠ 58 ∧ n ≠ 33 ∧ n ≠ 63 ∧ n ≠ 40 ∧ n ≠ 41 ∧ n ≠ 45 := by simp only [punct, List.mem_cons, List.not_mem_nil, or_false] at h1; omega
  obtain ⟨p1, p2, p3, p4, p5, p6, p7, p8, p9⟩ := h1'
  have q0 : ((n : Int) == 46) = false := by simp; omega
  have q1 : ((n : Int) == 44) = false := by simp; omega
  have q2 : ((n : Int) == 59) = false := by simp; omega
  have q3 : ((n : Int) == 58) = false := by simp; omega
  have q4 : ((n : Int) == 33) = false := by simp; omega
  have q5 : ((n : Int) == 63) = false := by simp; omega
  have q6 : ((n : Int) == 40) = false := by simp; omega
  have q7 : ((n : Int) == 41) = false := by simp; omega
  have q8 : ((n : Int) == 45) = false := by simp; omega
  have hr : n < 48 ∨ (58 ≤ n ∧ n < 65) ∨ (91 ≤ n ∧ n < 97) ∨ 123 ≤ n := by omega
  clear h3 h4
  replace h1 := Lib.hid h1
  rcases hr with r | ⟨r, r'⟩ | ⟨r, r'⟩ | r
  · have d0 : ¬ 97 ≤ n := by omega
    have b0 : decide ((97 : Int) ≤ (n : Int)) = false := by simp; omega
    have d1 : ¬ 65 ≤ n := by omega
    have b1 : decide ((65 : Int) ≤ (n : Int)) = false := by simp; omega
    have d2 : ¬ 48 ≤ n := by omega
    have b2 : decide ((48 : Int) ≤ (n : Int)) = false := by simp; omega
    go_enter Try.func13, Try.ntmps13
    go_wp2_with fail
    go_ret
    exact ⟨rfl, rfl⟩
  · have d0 : ¬ 97 ≤ n := by omega
    have b0 : decide ((97 : Int) ≤ (n : Int)) = false := by simp; omega
    have d1 : ¬ 65 ≤ n := by omega
    have b1 : decide ((65 : Int) ≤ (n : Int)) = false := by simp; omega
    have d2 : 48 ≤ n := by omega
    have b2 : decide ((48 : Int) ≤ (n : Int)) = true := by simp; omega
    have d3 : ¬ n ≤ 57 := by omega
    have b3 : decide ((n : Int) ≤ 57) = false := by simp; omega
    go_enter Try.func13, Try.ntmps13
    go_wp2_with fail
    go_ret
    exact ⟨rfl, rfl⟩
  · have d0 : ¬ 97 ≤ n := by omega
    have b0 : decide ((97 : Int) ≤ (n : Int)) = false := by simp; omega
    have d1 : 65 ≤ n := by omega
    have b1 : decide ((65 : Int) ≤ (n : Int)) = true := by simp; omega
    have d2 : ¬ n ≤ 90 := by omega
    have b2 : decide ((n : Int) ≤ 90) = false := by simp; omega
    have d3 : 48 ≤ n := by omega
    have b3 : decide ((48 : Int) ≤ (n : Int)) = true := by simp; omega
    have d4 : ¬ n ≤ 57 := by omega
    have b4 : decide ((n : Int) ≤ 57) = false := by simp; omega
    go_enter Try.func13, Try.ntmps13
    go_wp2_with fail
    go_ret
    exact ⟨rfl, rfl⟩
  · have d0 : 97 ≤ n := by omega
    have b0 : decide ((97 : Int) ≤ (n : Int)) = true := by simp; omega
    have d1 : ¬ n ≤ 122 := by omega
    have b1 : decide ((n : Int) ≤ 122) = false := by simp; omega
    have d2 : 65 ≤ n := by omega
    have b2 : decide ((65 : Int) ≤ (n : Int)) = true := by simp; omega
    have d3 : ¬ n ≤ 90 := by omega
    have b3 : decide ((n : Int) ≤ 90) = false := by simp; omega
    have d4 : 48 ≤ n := by omega
    have b4 : decide ((48 : Int) ≤ (n : Int)) = true := by simp; omega
    have d5 : ¬ n ≤ 57 := by omega
    have b5 : decide ((n : Int) ≤ 57) = false := by simp; omega
    go_enter Try.func13, Try.ntmps13
    go_wp2_with fail
    go_ret
    exact ⟨rfl, rfl⟩
theorem rkind_rng (n : Nat) (k : Nat) (h : (97 ≤ n ∧ n ≤ 122 ∧ k = 1) ∨ (65 ≤ n ∧ n ≤ 90 ∧ k = 1) ∨ (48 ≤ n ∧ n ≤ 57 ∧ k = 3)) (w : World) :
    Calls Try.prog 13 #[.int .u8 n] w fun e w' => e = .returned (.int .i64 k) ∧ w' = w := by
  rcases h with ⟨r, r', rfl⟩ | ⟨r, r', rfl⟩ | ⟨r, r', rfl⟩
  · have d0 : 97 ≤ n := by omega
    have b0 : decide ((97 : Int) ≤ (n : Int)) = true := by simp; omega
    have d1 : n ≤ 122 := by omega
    have b1 : decide ((n : Int) ≤ 122) = true := by simp; omega
    go_enter Try.func13, Try.ntmps13
    go_wp2_with fail
    go_ret
    exact ⟨rfl, rfl⟩
  · have d0 : ¬ 97 ≤ n := by omega
    have b0 : decide ((97 : Int) ≤ (n : Int)) = false := by simp; omega
    have d1 : 65 ≤ n := by omega
    have b1 : decide ((65 : Int) ≤ (n : Int)) = true := by simp; omega
    have d2 : n ≤ 90 := by omega
    have b2 : decide ((n : Int) ≤ 90) = true := by simp; omega
    go_enter Try.func13, Try.ntmps13
    go_wp2_with fail
    go_ret
    exact ⟨rfl, rfl⟩
  · have d0 : ¬ 97 ≤ n := by omega
    have b0 : decide ((97 : Int) ≤ (n : Int)) = false := by simp; omega
    have d1 : ¬ 65 ≤ n := by omega
    have b1 : decide ((65 : Int) ≤ (n : Int)) = false := by simp; omega
    have d2 : 48 ≤ n := by omega
    have b2 : decide ((48 : Int) ≤ (n : Int)) = true := by simp; omega
    have d3 : n ≤ 57 := by omega
    have b3 : decide ((n : Int) ≤ 57) = true := by simp; omega
    have e0 : ((n : Int) == 94) = false := by simp; omega
    have e0' : ¬ n = 94 := by omega
    have e1 : ((n : Int) == 126) = false := by simp; omega
    have e1' : ¬ n = 126 := by omega
    have e2 : ((n : Int) == 37) = false := by simp; omega
    have e2' : ¬ n = 37 := by omega
    go_enter Try.func13, Try.ntmps13
    go_wp2_with fail
    go_ret
    exact ⟨rfl, rfl⟩
theorem rkind_any (n : Nat) (hn : n < 256) (w : World) : Calls Try.prog 13 #[.int .u8 n] w fun e w' => e = .returned (.int .i64 (kindN n)) ∧ w' = w := by
  by_cases hc : n = 94 ∨ n = 126 ∨ n = 37 ∨ n = 39 ∨ n = 32 ∨ n = 0 ∨ n = 46 ∨ n = 44 ∨ n = 59 ∨ n = 58 ∨ n = 33 ∨ n = 63 ∨ n = 40 ∨ n = 41 ∨ n = 45
  · exact rkind_conc n hc w
  · by_cases h1 : (97 ≤ n ∧ n ≤ 122) ∨ (65 ≤ n ∧ n ≤ 90)
    · have hk : kindN n = 1 := by unfold kindN; rw [if_pos h1]
      rw [hk]
      exact rkind_rng n 1 (by omega) w
    · by_cases h2 : 48 ≤ n ∧ n ≤ 57
      · have hk : kindN n = 3 := by unfold kindN; rw [if_neg h1, if_neg (by omega), if_pos h2]
        rw [hk]
        exact rkind_rng n 3 (by omega) w
      · have hk : kindN n = 0 := by unfold kindN; rw [if_neg h1, if_neg (by omega), if_neg h2, if_neg (by omega), if_neg (by omega), if_neg (by omega)]
        rw [hk]
        exact rkind_else n hn (by simp only [punct, List.mem_cons, List.not_mem_nil, or_false]; omega) (by omega) h2 h1 w
end Go.Proofs.Ytnlenhhmajecjaa
