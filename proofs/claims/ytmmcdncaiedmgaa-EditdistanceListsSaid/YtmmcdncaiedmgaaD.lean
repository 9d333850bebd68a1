import Derived.Test.YtmmcdncaiedmgaaB
set_option linter.unusedVariables false
set_option linter.unusedSimpArgs false
namespace Go.Proofs.Ytmmcdncaiedmgaa
open Go.RowKit
theorem lev_le_max (p : Nat → Nat → Bool) : ∀ i k, lev p i k ≤ max i k
  | 0, k => by rw [lev_zero]; omega
  | i + 1, 0 => by rw [lev_succ_zero]; omega
  | i + 1, k + 1 => by have := lev_le_max p i k; rw [lev_succ_succ]; split <;> omega
def simS (a b : ByteArray) : Nat := if max a.size b.size = 0 then 1000 else 1000 * (max a.size b.size - levS a b) / max a.size b.size
theorem sim_eq {n d : Nat} (h : d ≤ n) : (1000 * ((n : Int) - (d : Int))) / (n : Int) = ((1000 * (n - d) / n : Nat) : Int) := by
  rw [show (n : Int) - (d : Int) = ((n - d : Nat) : Int) from by omega]
  simp

set_option maxRecDepth 100000 in
theorem similarity_ok (a b : ByteArray) (w : World) (ha : a.size ≤ 256) (hb : b.size ≤ 256) :
    Calls Try.prog 22 #[.string a, .string b] w fun e w' => e = .returned (.tuple #[.int .i64 (simS a b), .int .i64 0]) ∧ Below w.heap.size w w' := by
  have hd : decide (256 < max (a.size : Int) (b.size : Int)) = false := by simp; omega
  have hle : levS a b ≤ max a.size b.size := lev_le_max _ _ _
  by_cases h0 : max a.size b.size = 0
  · have h1 : a.size = 0 := by omega
    have h2 : b.size = 0 := by omega
    have HS := Lib.hid (show simS a b = 1000 from by simp [simS, h0])
    clear hle h0
    go_enter Try.func22, Try.ntmps22
    go_wp2_with (go_at_call 41; refine (long_any _ _ _).mono ?_; rintro e w' ⟨rfl, rfl⟩)
    go_ret2
    exact ⟨by rw [HS.out]; rfl, Below.refl _ _⟩
  · have HS := Lib.hid (show simS a b = 1000 * (max a.size b.size - levS a b) / max a.size b.size from by simp only [simS, if_neg h0])
    have hof := of_any a b w ha hb
    have hn : max a.size b.size = if (a.size : Int) < (b.size : Int) then b.size else a.size := by split <;> omega
    obtain ⟨d, hdd⟩ : ∃ d, levS a b = d := ⟨_, rfl⟩
    rw [hdd] at hof hle HS
    have HO := Lib.hid hof
    clear hof hdd
    by_cases hab : (a.size : Int) < (b.size : Int)
    · rw [if_pos hab] at hn
      rw [hn] at hle h0 HS
      clear hn
      have hz : ((b.size : Int) == 0) = false := beq_eq_false_iff_ne.2 (by omega)
      go_enter Try.func22, Try.ntmps22
      go_wp2_with (first | (go_at_call 41; refine (long_any _ _ _).mono ?_; rintro e w' ⟨rfl, rfl⟩) | (go_at_call 42; refine (HO.out).mono ?_; rintro e w' ⟨rfl, hB⟩))
      go_ret2
      exact ⟨by rw [HS.out, ← sim_eq hle]; rfl, hB⟩
    · rw [if_neg hab] at hn
      rw [hn] at hle h0 HS
      clear hn
      have hz : ((a.size : Int) == 0) = false := beq_eq_false_iff_ne.2 (by omega)
      go_enter Try.func22, Try.ntmps22
      go_wp2_with (first | (go_at_call 41; refine (long_any _ _ _).mono ?_; rintro e w' ⟨rfl, rfl⟩) | (go_at_call 42; refine (HO.out).mono ?_; rintro e w' ⟨rfl, hB⟩))
      go_ret2
      exact ⟨by rw [HS.out, ← sim_eq hle]; rfl, hB⟩
end Go.Proofs.Ytmmcdncaiedmgaa
