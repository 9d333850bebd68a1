import Derived.Test.YtmmcdncaiedmgaaN2
import Derived.Test.YtmmcdncaiedmgaaN4
import Derived.Test.YtmmcdncaiedmgaaO
set_option linter.unusedVariables false
set_option linter.unusedSimpArgs false
namespace Go.Proofs.Ytmmcdncaiedmgaa
open Go.RowKit
/-! the reference's small functions -/
theorem great_any (s : ByteArray) (n : Nat) (w : World) (h : s.size ≤ 9223372036854775807) (hn : n ≤ 1000) :
    Calls Try.prog 16 #[.string s, .int .i64 n] w fun e w' => e = .returned (.bool (decide (n < s.size ∧ s.size ≤ 256 ∨ 258 < s.size))) ∧ w' = w := by
  by_cases h1 : n < s.size
  · have g1 : decide ((n : Int) < (s.size : Int)) = true := by simp; omega
    by_cases h2 : s.size ≤ 256
    · have g2 : decide ((s.size : Int) ≤ 256) = true := by simp; omega
      go_enter Try.func16, Try.ntmps16
      go_wp2_with fail
      go_ret
      exact ⟨ret_bool (by symm; rw [decide_eq_true_iff]; exact .inl ⟨h1, h2⟩), rfl⟩
    · have g2 : decide ((s.size : Int) ≤ 256) = false := by simp; omega
      have g3 : decide ((258 : Int) < (s.size : Int)) = decide (258 < s.size) := by rw [Bool.eq_iff_iff]; simp only [decide_eq_true_eq]; omega
      go_enter Try.func16, Try.ntmps16
      go_wp2_with fail
      go_ret
      exact ⟨ret_bool (by rw [Bool.eq_iff_iff]; simp; omega), rfl⟩
  · have g1 : decide ((n : Int) < (s.size : Int)) = false := by simp; omega
    go_enter Try.func16, Try.ntmps16
    go_wp2_with fail
    go_ret
    exact ⟨ret_bool (by rw [Bool.eq_iff_iff]; simp; omega), rfl⟩

set_option maxHeartbeats 4000000 in
set_option maxRecDepth 100000 in
theorem rbytes_any (s : ByteArray) (w : World) (hs : s.size ≤ 258) :
    Calls Try.prog 45 #[.string s] w fun e w' => ∃ v, e = .returned v ∧ StrR w' w.heap.size v (singles s) ∧ Below w.heap.size w w' := by
  go_enter Try.func45, Try.ntmps45
  go_wp2_with fail
  go_loopg [4, 3] s.size (fun g c v wr => ∃ i : Nat, i ≤ s.size ∧ g = s.size - i ∧ c = .int .i64 i ∧ wr.ownsRow w.heap.size 9 1 v i (((List.range i).map (one s)).map Value.string) ∧ Below w.heap.size w wr)
  case atStart => exact ⟨0, by omega, by omega, rfl, World.ownsRow_nil _ _ _ _, Below.refl _ _⟩
  case round =>
    obtain ⟨i, hi, hg, rfl, hown, hbl⟩ := hrel
    have HO := Lib.hid (And.intro hown hbl)
    clear hown hbl
    by_cases hlt : i < s.size
    · have hltz : (i : Int) < (s.size : Int) := by omega
      have hsl := fun W => run_slice_string (P := Try.prog) W 9 s .i64 .i64 i ((i : Int) + 1) Try.underlying9 (by omega) (by omega) (by omega)
      go_wp2_with (at_builtin; refine app_new _ rfl _ _ 27 9 rfl _ 1 16 Try.underlying27 info9 rfl (by decide) w.heap.size _ i (((List.range i).map (one s)).map Value.string) rfl (HO.out.1) 1 1 _ rfl rfl (by simp [Value.oneCell']) (by unfold maxLen; omega) (by omega) (by exact HO.out.2.size) ?_; intro v' w1 hown' hgrow)
      go_roundg (s.size - (i + 1))
      case measure => go_light; omega
      case rel =>
        go_light
        obtain ⟨z2, z3⟩ := HO.out
        refine ⟨i + 1, by omega, by omega, by go_num, ?_, app_below z3 z3.size z2 hgrow⟩
        rw [List.range_succ, List.map_append, List.map_append]; exact hown'
    · have hi' : i = s.size := by omega
      subst hi'
      go_wp2_with fail
      go_ret
      go_light
      obtain ⟨z2, z3⟩ := HO.out
      have hS : StrR wr w.heap.size u3 (singles s) := strR_of_own (by rw [singles, List.length_map, List.length_range]; exact z2)
      exact ⟨_, rfl, hS, z3⟩
end Go.Proofs.Ytmmcdncaiedmgaa
