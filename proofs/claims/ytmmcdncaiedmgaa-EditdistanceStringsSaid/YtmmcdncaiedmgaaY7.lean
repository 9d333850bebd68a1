import Derived.Test.YtmmcdncaiedmgaaY4
set_option linter.unusedVariables false
set_option linter.unusedSimpArgs false
namespace Go.Proofs.Ytmmcdncaiedmgaa
open Go.RowKit
/-- the reference's `Bounded` -/
def bR (a b : ByteArray) (m : Int) : Array Value := if 256 < a.size ∨ 256 < b.size then #[.int .i64 0, .bool false, .int .i64 4] else bndR a b m
set_option maxRecDepth 100000 in
theorem rbounded_any (a b : ByteArray) (m : Int) (w : World) (ha : a.size ≤ 258) (hb : b.size ≤ 258) :
    Calls Try.prog 21 #[.string a, .string b, .int .i64 m] w fun e w' => e = .returned (.tuple (bR a b m)) ∧ Below w.heap.size w w' := by
  have hD := rdistance_any a b w ha hb
  unfold bR
  by_cases hl : 256 < a.size ∨ 256 < b.size
  · rw [if_pos hl]
    rw [dR, if_pos hl] at hD
    replace hD := Lib.hid hD
    clear hl
    go_enter Try.func21, Try.ntmps21
    go_wp2_with (refine hD.out.mono ?_; rintro e w' ⟨rfl, hB⟩)
    go_ret3
    exact ⟨rfl, hB⟩
  · rw [if_neg hl]
    rw [dR, if_neg hl] at hD
    unfold bndR
    obtain ⟨d, hdd⟩ : ∃ d, levS a b = d := ⟨_, rfl⟩
    rw [hdd] at hD ⊢
    replace hD := Lib.hid hD
    clear hdd hl
    by_cases hm : m < 0
    · rw [if_pos hm]
      go_enter Try.func21, Try.ntmps21
      go_wp2_with (refine hD.out.mono ?_; rintro e w' ⟨rfl, hB⟩)
      go_ret3
      exact ⟨rfl, hB⟩
    · rw [if_neg hm]
      by_cases h : (d : Int) ≤ m
      · rw [if_pos h]
        have hz : ¬ m < (d : Int) := by omega
        go_enter Try.func21, Try.ntmps21
        go_wp2_with (refine hD.out.mono ?_; rintro e w' ⟨rfl, hB⟩)
        go_ret3
        exact ⟨rfl, hB⟩
      · rw [if_neg h]
        have hz : m < (d : Int) := by omega
        go_enter Try.func21, Try.ntmps21
        go_wp2_with (refine hD.out.mono ?_; rintro e w' ⟨rfl, hB⟩)
        go_ret3
        exact ⟨rfl, hB⟩
def sR (a b : ByteArray) : Nat × Nat := if 256 < a.size ∨ 256 < b.size then (0, 4) else (simS a b, 0)
set_option maxRecDepth 100000 in
theorem rsimilarity_any (a b : ByteArray) (w : World) (ha : a.size ≤ 258) (hb : b.size ≤ 258) :
    Calls Try.prog 23 #[.string a, .string b] w fun e w' => e = .returned (.tuple #[.int .i64 (sR a b).1, .int .i64 (sR a b).2]) ∧ Below w.heap.size w w' := by
  have hD := rdistance_any a b w ha hb
  unfold sR
  by_cases hl : 256 < a.size ∨ 256 < b.size
  · rw [if_pos hl]
    rw [dR, if_pos hl] at hD
    replace hD := Lib.hid hD
    clear hl
    go_enter Try.func23, Try.ntmps23
    go_wp2_with (refine hD.out.mono ?_; rintro e w' ⟨rfl, hB⟩)
    go_ret2
    exact ⟨rfl, hB⟩
  · rw [if_neg hl]
    rw [dR, if_neg hl] at hD
    have hle : levS a b ≤ max a.size b.size := lev_le_max _ _ _
    by_cases h0 : max a.size b.size = 0
    · have h1 : a.size = 0 := by omega
      have h2 : b.size = 0 := by omega
      have HS := Lib.hid (show simS a b = 1000 from by simp [simS, h0])
      obtain ⟨d, hdd⟩ : ∃ d, levS a b = d := ⟨_, rfl⟩
      rw [hdd] at hD
      replace hD := Lib.hid hD
      clear hle h0 hl hdd
      go_enter Try.func23, Try.ntmps23
      go_wp2_with (refine hD.out.mono ?_; rintro e w' ⟨rfl, hB⟩)
      go_ret2
      exact ⟨by rw [HS.out]; rfl, hB⟩
    · have HS := Lib.hid (show simS a b = 1000 * (max a.size b.size - levS a b) / max a.size b.size from by simp only [simS, if_neg h0])
      have hn : max a.size b.size = if (a.size : Int) < (b.size : Int) then b.size else a.size := by split <;> omega
      obtain ⟨d, hdd⟩ : ∃ d, levS a b = d := ⟨_, rfl⟩
      rw [hdd] at hD hle HS
      have HO := Lib.hid hD
      clear hD hdd
      by_cases hab : (a.size : Int) < (b.size : Int)
      · rw [if_pos hab] at hn
        rw [hn] at hle h0 HS
        clear hn
        have hz : ((b.size : Int) == 0) = false := beq_eq_false_iff_ne.2 (by omega)
        go_enter Try.func23, Try.ntmps23
        go_wp2_with (refine HO.out.mono ?_; rintro e w' ⟨rfl, hB⟩)
        go_ret2
        exact ⟨by rw [HS.out, ← sim_eq hle]; rfl, hB⟩
      · rw [if_neg hab] at hn
        rw [hn] at hle h0 HS
        clear hn
        have hz : ((a.size : Int) == 0) = false := beq_eq_false_iff_ne.2 (by omega)
        go_enter Try.func23, Try.ntmps23
        go_wp2_with (refine HO.out.mono ?_; rintro e w' ⟨rfl, hB⟩)
        go_ret2
        exact ⟨by rw [HS.out, ← sim_eq hle]; rfl, hB⟩
end Go.Proofs.Ytmmcdncaiedmgaa
