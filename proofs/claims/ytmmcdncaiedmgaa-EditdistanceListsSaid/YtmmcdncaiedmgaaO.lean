import Derived.Test.YtmmcdncaiedmgaaG
import Derived.Test.YtmmcdncaiedmgaaD
import Derived.Test.YtmmcdncaiedmgaaC
set_option linter.unusedVariables false
set_option linter.unusedSimpArgs false
namespace Go.Proofs.Ytmmcdncaiedmgaa
open Go.RowKit

/-- `Bounded`, strings of at most 256 bytes -/
def bndR (a b : ByteArray) (m : Int) : Array Value :=
  if m < 0 then #[.int .i64 0, .bool false, .int .i64 2]
  else if (levS a b : Int) ≤ m then #[.int .i64 (levS a b), .bool true, .int .i64 0]
  else #[.int .i64 0, .bool false, .int .i64 0]

set_option maxRecDepth 100000 in
theorem bounded_ok (a b : ByteArray) (m : Int) (w : World) (ha : a.size ≤ 256) (hb : b.size ≤ 256) :
    Calls Try.prog 20 #[.string a, .string b, .int .i64 m] w fun e w' => e = .returned (.tuple (bndR a b m)) ∧ Below w.heap.size w w' := by
  have hd : decide (256 < max (a.size : Int) (b.size : Int)) = false := by simp; omega
  have hof := of_any a b w ha hb
  unfold bndR
  obtain ⟨d, hdd⟩ : ∃ d, levS a b = d := ⟨_, rfl⟩
  rw [hdd] at hof ⊢
  replace hof := Lib.hid hof
  clear hdd
  by_cases hm : m < 0
  · rw [if_pos hm]
    go_enter Try.func20, Try.ntmps20
    go_wp2_with (go_at_call 41; refine (long_any _ _ _).mono ?_; rintro e w' ⟨rfl, rfl⟩)
    go_ret3
    exact ⟨rfl, Below.refl _ _⟩
  · rw [if_neg hm]
    by_cases h : (d : Int) ≤ m
    · rw [if_pos h]
      go_enter Try.func20, Try.ntmps20
      go_wp2_with (first | (go_at_call 41; refine (long_any _ _ _).mono ?_; rintro e w' ⟨rfl, rfl⟩) | (go_at_call 42; refine (hof.out).mono ?_; rintro e w' ⟨rfl, hB⟩))
      go_ret3
      exact ⟨rfl, hB⟩
    · rw [if_neg h]
      go_enter Try.func20, Try.ntmps20
      go_wp2_with (first | (go_at_call 41; refine (long_any _ _ _).mono ?_; rintro e w' ⟨rfl, rfl⟩) | (go_at_call 42; refine (hof.out).mono ?_; rintro e w' ⟨rfl, hB⟩))
      go_ret3
      exact ⟨rfl, hB⟩

/-! too long -/
set_option maxRecDepth 100000 in
theorem distance_long (a b : ByteArray) (w : World) (h : 256 < max (a.size : Int) (b.size : Int)) (ha : a.size ≤ 9223372036854775807) (hb : b.size ≤ 9223372036854775807) :
    Calls Try.prog 13 #[.string a, .string b] w fun e w' => e = .returned (.tuple #[.int .i64 0, .int .i64 4]) ∧ w' = w := by
  have hd : decide (256 < max (a.size : Int) (b.size : Int)) = true := by simpa using h
  go_enter Try.func13, Try.ntmps13
  go_wp2_with (go_at_call 41; refine (long_any _ _ _).mono ?_; rintro e w' ⟨rfl, rfl⟩)
  go_ret2
  exact ⟨rfl, rfl⟩
set_option maxRecDepth 100000 in
theorem similarity_long (a b : ByteArray) (w : World) (h : 256 < max (a.size : Int) (b.size : Int)) (ha : a.size ≤ 9223372036854775807) (hb : b.size ≤ 9223372036854775807) :
    Calls Try.prog 22 #[.string a, .string b] w fun e w' => e = .returned (.tuple #[.int .i64 0, .int .i64 4]) ∧ w' = w := by
  have hd : decide (256 < max (a.size : Int) (b.size : Int)) = true := by simpa using h
  go_enter Try.func22, Try.ntmps22
  go_wp2_with (go_at_call 41; refine (long_any _ _ _).mono ?_; rintro e w' ⟨rfl, rfl⟩)
  go_ret2
  exact ⟨rfl, rfl⟩
set_option maxRecDepth 100000 in
theorem bounded_long (a b : ByteArray) (m : Int) (w : World) (h : 256 < max (a.size : Int) (b.size : Int)) (ha : a.size ≤ 9223372036854775807) (hb : b.size ≤ 9223372036854775807) :
    Calls Try.prog 20 #[.string a, .string b, .int .i64 m] w fun e w' => e = .returned (.tuple #[.int .i64 0, .bool false, .int .i64 4]) ∧ w' = w := by
  have hd : decide (256 < max (a.size : Int) (b.size : Int)) = true := by simpa using h
  go_enter Try.func20, Try.ntmps20
  go_wp2_with (go_at_call 41; refine (long_any _ _ _).mono ?_; rintro e w' ⟨rfl, rfl⟩)
  go_ret3
  exact ⟨rfl, rfl⟩
set_option maxRecDepth 100000 in
theorem script_long (a b : ByteArray) (w : World) (h : 256 < max (a.size : Int) (b.size : Int)) (ha : a.size ≤ 9223372036854775807) (hb : b.size ≤ 9223372036854775807) :
    Calls Try.prog 18 #[.string a, .string b] w fun e w' => e = .returned (.tuple #[.slice none 0 0, .int .i64 4]) ∧ w' = w := by
  have hd : decide (256 < max (a.size : Int) (b.size : Int)) = true := by simpa using h
  go_enter Try.func18, Try.ntmps18
  go_wp2_with (go_at_call 41; refine (long_any _ _ _).mono ?_; rintro e w' ⟨rfl, rfl⟩)
  go_ret2
  exact ⟨rfl, rfl⟩
set_option maxRecDepth 100000 in
theorem lists_long (A A' : Option Addr) (n n' c c' : Nat) (w : World) (h : 256 < max (n : Int) (n' : Int)) :
    Calls Try.prog 15 #[.slice A n c, .slice A' n' c'] w fun e w' => e = .returned (.tuple #[.int .i64 0, .int .i64 4]) ∧ w' = w := by
  have hd : decide (256 < max (n : Int) (n' : Int)) = true := by simpa using h
  go_enter Try.func15, Try.ntmps15
  go_wp2_with (go_at_call 41; refine (long_any _ _ _).mono ?_; rintro e w' ⟨rfl, rfl⟩)
  go_ret2
  exact ⟨rfl, rfl⟩
set_option maxRecDepth 100000 in
theorem common_long (A A' : Option Addr) (n n' c c' : Nat) (w : World) (h : 256 < max (n : Int) (n' : Int)) :
    Calls Try.prog 31 #[.slice A n c, .slice A' n' c'] w fun e w' => e = .returned (.tuple #[.slice none 0 0, .int .i64 4]) ∧ w' = w := by
  have hd : decide (256 < max (n : Int) (n' : Int)) = true := by simpa using h
  go_enter Try.func31, Try.ntmps31
  go_wp2_with (go_at_call 41; refine (long_any _ _ _).mono ?_; rintro e w' ⟨rfl, rfl⟩)
  go_ret2
  exact ⟨rfl, rfl⟩
end Go.Proofs.Ytmmcdncaiedmgaa
