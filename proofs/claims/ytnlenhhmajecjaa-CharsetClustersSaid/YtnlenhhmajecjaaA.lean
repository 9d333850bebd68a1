import Derived.Test.YtnlenhhmajecjaaProg
import Derived.Test.YtnlenhhmajecjaaM
import Derived.Laws.StandIn
import Derived.Lib.Bytealg
import Derived.Lib.IndexAny
set_option linter.unusedVariables false
set_option linter.unusedSimpArgs false
namespace Go.Proofs.Ytnlenhhmajecjaa
open Go.RowKit
/-- the kind of a character -/
def kindN (n : Nat) : Nat :=
  if (97 ≤ n ∧ n ≤ 122) ∨ (65 ≤ n ∧ n ≤ 90) then 1
  else if n = 94 ∨ n = 126 ∨ n = 37 then 2
  else if 48 ≤ n ∧ n ≤ 57 then 3
  else if n = 39 then 4
  else if n = 32 then 6
  else if n = 46 ∨ n = 44 ∨ n = 59 ∨ n = 58 ∨ n = 33 ∨ n = 63 ∨ n = 40 ∨ n = 41 ∨ n = 45 then 5
  else 0
theorem call63 (s : ByteArray) (n : Nat) (w : World) : (callFunc 63 #[.string s, .int .u8 n]).run Try.prog w = .ok (.value (.int .i64 (Lib.indexByte s.data.toList n.toUInt8))) w := by
  have h := run_callFunc_indexByte (P := Try.prog) (f := 63) (fn := Try.f63) Try.func63 (by kernel_rfl) (by kernel_rfl) (by kernel_rfl) (by kernel_rfl) #[.string s, .int .u8 n] w
  rw [h, Lib.run_indexByteString]
  rfl
theorem ib55 (s : ByteArray) (n : Nat) (w : World) : Calls Try.prog 55 #[.string s, .int .u8 n] w fun e w' => e = .returned (.int .i64 (Lib.indexByte s.data.toList n.toUInt8)) ∧ w' = w := by
  have hc := call63 s n w
  go_enter Try.func55, Try.ntmps55
  go_wp2_with fail
  go_ret
  exact ⟨rfl, rfl⟩
theorem ib_any (s : ByteArray) (n : Nat) (w : World) : Calls Try.prog 37 #[.string s, .int .u8 n] w fun e w' => e = .returned (.int .i64 (Lib.indexByte s.data.toList n.toUInt8)) ∧ w' = w := by
  go_enter Try.func37, Try.ntmps37
  go_wp2_with (refine (ib55 _ _ _).mono ?_; rintro e w' ⟨rfl, rfl⟩)
  go_ret
  exact ⟨rfl, rfl⟩
def punct : List Nat := [46, 44, 59, 58, 33, 63, 40, 41, 45]
theorem punct_mem : ∀ n, n < 256 → ((⟨#[46, 44, 59, 58, 33, 63, 40, 41, 45]⟩ : ByteArray).data.toList.contains n.toUInt8 = true ↔ n ∈ punct) := by decide +kernel
theorem ibp_any (n : Nat) (hn : n < 256) (w : World) : Calls Try.prog 37 #[.string ⟨#[46, 44, 59, 58, 33, 63, 40, 41, 45]⟩, .int .u8 n] w fun e w' => (∃ r : Int, e = .returned (.int .i64 r) ∧ (0 ≤ r ↔ n ∈ punct)) ∧ w' = w := by
  refine (ib_any _ _ _).mono ?_
  rintro e w' ⟨rfl, rfl⟩
  refine ⟨⟨_, rfl, ?_⟩, rfl⟩
  rw [← punct_mem n hn, Lib.contains_iff_indexByte, decide_eq_true_iff]
/-- the walk at a character of the punctuation, and at the others that are named -/
theorem kind_conc (n : Nat) (h : n = 94 ∨ n = 126 ∨ n = 37 ∨ n = 39 ∨ n = 32 ∨ n = 0 ∨ n = 46 ∨ n = 44 ∨ n = 59 ∨ n = 58 ∨ n = 33 ∨ n = 63 ∨ n = 40 ∨ n = 41 ∨ n = 45) (w : World) :
    Calls Try.prog 12 #[.int .u8 n] w fun e w' => e = .returned (.int .i64 (kindN n)) ∧ w' = w := by
  rcases h with rfl | rfl | rfl | rfl | rfl | rfl | h
  all_goals first
    | (go_enter Try.func12, Try.ntmps12
       go_wp2_with fail
       go_ret
       exact ⟨rfl, rfl⟩)
    | skip
  rcases h with rfl | rfl | rfl | rfl | rfl | rfl | rfl | rfl | rfl
  all_goals
    go_enter Try.func12, Try.ntmps12
    go_wp2_with fail
    refine (ibp_any _ (by decide) _).mono ?_
    rintro e w' ⟨⟨r, rfl, hr⟩, rfl⟩
    have hr0 : 0 ≤ r := hr.2 (by decide)
    have hr1 : decide (0 ≤ r) = true := by simpa using hr0
    clear hr
    go_wp2_with fail
    go_ret
    exact ⟨rfl, rfl⟩
theorem kind_else (n : Nat) (hn : n < 256) (h1 : ¬ n ∈ punct) (h2 : n ≠ 94 ∧ n ≠ 126 ∧ n ≠ 37 ∧ n ≠ 39 ∧ n ≠ 32 ∧ n ≠ 0) (h3 : ¬ (48 ≤ n ∧ n ≤ 57)) (h4 : ¬ ((97 ≤ n ∧ n ≤ 122) ∨ (65 ≤ n ∧ n ≤ 90))) (w : World) :
    Calls Try.prog 12 #[.int .u8 n] w fun e w' => e = .returned (.int .i64 (0 : Nat)) ∧ w' = w := by
  obtain ⟨a1, a2, a3, a4, a5, a6⟩ := h2
  have e1 : ((n : Int) == 94) = false := by simp; omega
  have e2 : ((n : Int) == 126) = false := by simp; omega
  have e3 : ((n : Int) == 37) = false := by simp; omega
  have e4 : ((n : Int) == 39) = false := by simp; omega
  have e5 : ((n : Int) == 32) = false := by simp; omega
  have e6 : ((n : Int) != 0) = true := by simp; omega
  have hib := fun w => ibp_any n hn w
  have hr : n < 48 ∨ (58 ≤ n ∧ n < 65) ∨ (91 ≤ n ∧ n < 97) ∨ 123 ≤ n := by omega
  clear h3 h4
  replace h1 := Lib.hid h1
  replace hib := Lib.hid hib
  rcases hr with r | ⟨r, r'⟩ | ⟨r, r'⟩ | r
  · have d0 : ¬ 97 ≤ n := by omega
    have b0 : decide ((97 : Int) ≤ (n : Int)) = false := by simp; omega
    have d1 : ¬ 65 ≤ n := by omega
    have b1 : decide ((65 : Int) ≤ (n : Int)) = false := by simp; omega
    have d2 : ¬ 48 ≤ n := by omega
    have b2 : decide ((48 : Int) ≤ (n : Int)) = false := by simp; omega
    go_enter Try.func12, Try.ntmps12
    go_wp2_with fail
    refine (hib.out _).mono ?_
    rintro e w' ⟨⟨z, rfl, hz⟩, rfl⟩
    have hz0 : ¬ 0 ≤ z := fun h => h1.out (hz.1 h)
    have hz1 : decide (0 ≤ z) = false := by simpa using hz0
    clear hz
    go_wp2_with fail
    go_ret
    exact ⟨rfl, rfl⟩
  · have d0 : ¬ 97 ≤ n := by omega
    have b0 : decide ((97 : Int) ≤ (n : Int)) = false := by simp; omega
    have d1 : ¬ 65 ≤ n := by omega
    have b1 : decide ((65 : Int) ≤ (n : Int)) = false := by simp; omega
    have d2 : 48 ≤ n := by omega
    have b2 : decide ((48 : Int) ≤ (n : Int)) = true := by simp; omega
    have d3 : ¬ n ≤ 57 := by omega
    have b3 : decide ((n : Int) ≤ 57) = false := by simp; omega
    go_enter Try.func12, Try.ntmps12
    go_wp2_with fail
    refine (hib.out _).mono ?_
    rintro e w' ⟨⟨z, rfl, hz⟩, rfl⟩
    have hz0 : ¬ 0 ≤ z := fun h => h1.out (hz.1 h)
    have hz1 : decide (0 ≤ z) = false := by simpa using hz0
    clear hz
    go_wp2_with fail
    go_ret
    exact ⟨rfl, rfl⟩
  · have d0 : ¬ 97 ≤ n := by omega
    have b0 : decide ((97 : Int) ≤ (n : Int)) = false := by simp; omega
    have d1 : 65 ≤ n := by omega
    have b1 : decide ((65 : Int) ≤ (n : Int)) = true := by simp; omega
    have d2 : ¬ n ≤ 90 := by omega
    have b2 : decide ((n : Int) ≤ 90) = false := by simp; omega
    have d3 : 48 ≤ n := by omega
    have b3 : decide ((48 : Int) ≤ (n : Int)) = true := by simp; omega
    have d4 : ¬ n ≤ 57 := by omega
    have b4 : decide ((n : Int) ≤ 57) = false := by simp; omega
    go_enter Try.func12, Try.ntmps12
    go_wp2_with fail
    refine (hib.out _).mono ?_
    rintro e w' ⟨⟨z, rfl, hz⟩, rfl⟩
    have hz0 : ¬ 0 ≤ z := fun h => h1.out (hz.1 h)
    have hz1 : decide (0 ≤ z) = false := by simpa using hz0
    clear hz
    go_wp2_with fail
    go_ret
    exact ⟨rfl, rfl⟩
  · have d0 : 97 ≤ n := by omega
    have b0 : decide ((97 : Int) ≤ (n : Int)) = true := by simp; omega
    have d1 : ¬ n ≤ 122 := by omega
    have b1 : decide ((n : Int) ≤ 122) = false := by simp; omega
    have d2 : 65 ≤ n := by omega
    have b2 : decide ((65 : Int) ≤ (n : Int)) = true := by simp; omega
    have d3 : ¬ n ≤ 90 := by omega
    have b3 : decide ((n : Int) ≤ 90) = false := by simp; omega
    have d4 : 48 ≤ n := by omega
    have b4 : decide ((48 : Int) ≤ (n : Int)) = true := by simp; omega
    have d5 : ¬ n ≤ 57 := by omega
    have b5 : decide ((n : Int) ≤ 57) = false := by simp; omega
    go_enter Try.func12, Try.ntmps12
    go_wp2_with fail
    refine (hib.out _).mono ?_
    rintro e w' ⟨⟨z, rfl, hz⟩, rfl⟩
    have hz0 : ¬ 0 ≤ z := fun h => h1.out (hz.1 h)
    have hz1 : decide (0 ≤ z) = false := by simpa using hz0
    clear hz
    go_wp2_with fail
    go_ret
    exact ⟨rfl, rfl⟩
theorem kind_rng (n : Nat) (k : Nat) (h : (97 ≤ n ∧ n ≤ 122 ∧ k = 1) ∨ (65 ≤ n ∧ n ≤ 90 ∧ k = 1) ∨ (48 ≤ n ∧ n ≤ 57 ∧ k = 3)) (w : World) :
    Calls Try.prog 12 #[.int .u8 n] w fun e w' => e = .returned (.int .i64 k) ∧ w' = w := by
  rcases h with ⟨r, r', rfl⟩ | ⟨r, r', rfl⟩ | ⟨r, r', rfl⟩
  · have d0 : 97 ≤ n := by omega
    have b0 : decide ((97 : Int) ≤ (n : Int)) = true := by simp; omega
    have d1 : n ≤ 122 := by omega
    have b1 : decide ((n : Int) ≤ 122) = true := by simp; omega
    go_enter Try.func12, Try.ntmps12
    go_wp2_with fail
    go_ret
    exact ⟨rfl, rfl⟩
  · have d0 : ¬ 97 ≤ n := by omega
    have b0 : decide ((97 : Int) ≤ (n : Int)) = false := by simp; omega
    have d1 : 65 ≤ n := by omega
    have b1 : decide ((65 : Int) ≤ (n : Int)) = true := by simp; omega
    have d2 : n ≤ 90 := by omega
    have b2 : decide ((n : Int) ≤ 90) = true := by simp; omega
    go_enter Try.func12, Try.ntmps12
    go_wp2_with fail
    go_ret
    exact ⟨rfl, rfl⟩
  · have d0 : ¬ 97 ≤ n := by omega
    have b0 : decide ((97 : Int) ≤ (n : Int)) = false := by simp; omega
    have d1 : ¬ 65 ≤ n := by omega
    have b1 : decide ((65 : Int) ≤ (n : Int)) = false := by simp; omega
    have d2 : 48 ≤ n := by omega
    have b2 : decide ((48 : Int) ≤ (n : Int)) = true := by simp; omega
    have d3 : n ≤ 57 := by omega
    have b3 : decide ((n : Int) ≤ 57) = true := by simp; omega
    have e0 : ((n : Int) == 94) = false := by simp; omega
    have e0' : ¬ n = 94 := by omega
    have e1 : ((n : Int) == 126) = false := by simp; omega
    have e1' : ¬ n = 126 := by omega
    have e2 : ((n : Int) == 37) = false := by simp; omega
    have e2' : ¬ n = 37 := by omega
    go_enter Try.func12, Try.ntmps12
    go_wp2_with fail
    go_ret
    exact ⟨rfl, rfl⟩
theorem kind_any (n : Nat) (hn : n < 256) (w : World) : Calls Try.prog 12 #[.int .u8 n] w fun e w' => e = .returned (.int .i64 (kindN n)) ∧ w' = w := by
  by_cases hc : n = 94 ∨ n = 126 ∨ n = 37 ∨ n = 39 ∨ n = 32 ∨ n = 0 ∨ n = 46 ∨ n = 44 ∨ n = 59 ∨ n = 58 ∨ n = 33 ∨ n = 63 ∨ n = 40 ∨ n = 41 ∨ n = 45
  · exact kind_conc n hc w
  · by_cases h1 : (97 ≤ n ∧ n ≤ 122) ∨ (65 ≤ n ∧ n ≤ 90)
    · have hk : kindN n = 1 := by unfold kindN; rw [if_pos h1]
      rw [hk]
      exact kind_rng n 1 (by omega) w
    · by_cases h2 : 48 ≤ n ∧ n ≤ 57
      · have hk : kindN n = 3 := by unfold kindN; rw [if_neg h1, if_neg (by omega), if_pos h2]
        rw [hk]
        exact kind_rng n 3 (by omega) w
      · have hk : kindN n = 0 := by unfold kindN; rw [if_neg h1, if_neg (by omega), if_neg h2, if_neg (by omega), if_neg (by omega), if_neg (by omega)]
        rw [hk]
        exact kind_else n hn (by simp only [punct, List.mem_cons, List.not_mem_nil, or_false]; omega) (by omega) h2 h1 w
end Go.Proofs.Ytnlenhhmajecjaa
