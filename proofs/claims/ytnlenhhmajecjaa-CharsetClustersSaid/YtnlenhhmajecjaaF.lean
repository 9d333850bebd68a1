import Derived.Test.YtnlenhhmajecjaaA1
set_option linter.unusedVariables false
set_option linter.unusedSimpArgs false
namespace Go.Proofs.Ytnlenhhmajecjaa
open Go.RowKit
def kd (s : ByteArray) (i : Nat) : Nat := kindN (bat s i).toNat
theorem bat_lt (s : ByteArray) (i : Nat) : (bat s i).toNat < 256 := (bat s i).toNat_lt
/-- the letters and digits among the first characters -/
def letU (s : ByteArray) : Nat → Nat
  | 0 => 0
  | i + 1 => letU s i + if kd s i = 1 ∨ kd s i = 3 then 1 else 0
theorem letU_le (s : ByteArray) : ∀ i, letU s i ≤ i
  | 0 => Nat.le_refl _
  | i + 1 => by have := letU_le s i; rw [letU]; split <;> omega
def letN (s : ByteArray) : Nat := letU s s.size
set_option maxRecDepth 100000 in
theorem letters_any (s : ByteArray) (w : World) (hs : s.size ≤ 9223372036854775807) :
    Calls Try.prog 24 #[.string s] w fun e w' => e = .returned (.int .i64 (letN s)) ∧ w' = w := by
  go_enter Try.func24, Try.ntmps24
  go_wp2_with fail
  go_loopg [8, 3] s.size (fun g s8 s3 wr => ∃ i : Nat, i ≤ s.size ∧ g = s.size - i ∧ s8 = .int .i64 i ∧ s3 = .int .i64 (letU s i) ∧ wr = w)
  case atStart => exact ⟨0, by omega, by omega, rfl, rfl, rfl⟩
  case round =>
    obtain ⟨i, hi, hg, rfl, rfl, rfl⟩ := hrel
    by_cases hlt : i < s.size
    · have hltz : (i : Int) < (s.size : Int) := by omega
      have hx := fun W => run_index_str (P := Try.prog) 9 s (i : Int) i rfl hlt hs Try.underlying9 W
      have hk := fun W => kind_any _ (bat_lt s i) W
      have hkd : kindN (bat s i).toNat = kd s i := rfl
      have hle := letU_le s i
      have hst : letU s (i + 1) = letU s i + if kd s i = 1 ∨ kd s i = 3 then 1 else 0 := rfl
      rw [hkd] at hk
      obtain ⟨k, hkk⟩ : ∃ k, kd s i = k := ⟨_, rfl⟩
      obtain ⟨n, hn⟩ : ∃ n, letU s i = n := ⟨_, rfl⟩
      rw [hkk] at hk hst
      rw [hn] at hst hle ⊢
      replace hk := Lib.hid hk
      replace hst := Lib.hid hst
      clear hkd hkk hn
      by_cases h1 : k = 1
      · subst h1
        go_wp2_with (refine (hk.out _).mono ?_; rintro e w' ⟨rfl, rfl⟩)
        go_roundg (s.size - (i + 1))
        case measure => go_light; omega
        case rel =>
          go_light
          exact ⟨i + 1, by omega, by omega, by go_num, by rw [hst.out, if_pos (by simp)]; go_num, rfl⟩
      · have g1 : ((k : Int) == 1) = false := by simp; omega
        by_cases h3 : k = 3
        · subst h3
          clear h1
          go_wp2_with (refine (hk.out _).mono ?_; rintro e w' ⟨rfl, rfl⟩)
          go_roundg (s.size - (i + 1))
          case measure => go_light; omega
          case rel =>
            go_light
            exact ⟨i + 1, by omega, by omega, by go_num, by rw [hst.out, if_pos (by simp)]; go_num, rfl⟩
        · have g3 : ((k : Int) == 3) = false := by simp; omega
          go_wp2_with (refine (hk.out _).mono ?_; rintro e w' ⟨rfl, rfl⟩)
          go_roundg (s.size - (i + 1))
          case measure => go_light; omega
          case rel =>
            go_light
            exact ⟨i + 1, by omega, by omega, by go_num, by rw [hst.out, if_neg (by omega)]; rfl, rfl⟩
    · have hi' : i = s.size := by omega
      subst hi'
      go_wp2_with fail
      go_ret
      exact ⟨rfl, rfl⟩
set_option maxRecDepth 100000 in
theorem rletters_any (s : ByteArray) (w : World) (hs : s.size ≤ 9223372036854775807) :
    Calls Try.prog 25 #[.string s] w fun e w' => e = .returned (.int .i64 (letN s)) ∧ w' = w := by
  go_enter Try.func25, Try.ntmps25
  go_wp2_with fail
  go_loopg [4, 3] s.size (fun g s8 s3 wr => ∃ i : Nat, i ≤ s.size ∧ g = s.size - i ∧ s8 = .int .i64 i ∧ s3 = .int .i64 (letU s i) ∧ wr = w)
  case atStart => exact ⟨0, by omega, by omega, rfl, rfl, rfl⟩
  case round =>
    obtain ⟨i, hi, hg, rfl, rfl, rfl⟩ := hrel
    by_cases hlt : i < s.size
    · have hltz : (i : Int) < (s.size : Int) := by omega
      have hx := fun W => run_index_str (P := Try.prog) 9 s (i : Int) i rfl hlt hs Try.underlying9 W
      have hk := fun W => rkind_any _ (bat_lt s i) W
      have hkd : kindN (bat s i).toNat = kd s i := rfl
      have hle := letU_le s i
      have hst : letU s (i + 1) = letU s i + if kd s i = 1 ∨ kd s i = 3 then 1 else 0 := rfl
      rw [hkd] at hk
      obtain ⟨k, hkk⟩ : ∃ k, kd s i = k := ⟨_, rfl⟩
      obtain ⟨n, hn⟩ : ∃ n, letU s i = n := ⟨_, rfl⟩
      rw [hkk] at hk hst
      rw [hn] at hst hle ⊢
      replace hk := Lib.hid hk
      replace hst := Lib.hid hst
      clear hkd hkk hn
      by_cases h1 : k = 1
      · subst h1
        go_wp2_with (refine (hk.out _).mono ?_; rintro e w' ⟨rfl, rfl⟩)
        go_roundg (s.size - (i + 1))
        case measure => go_light; omega
        case rel =>
          go_light
          exact ⟨i + 1, by omega, by omega, by go_num, by rw [hst.out, if_pos (by simp)]; go_num, rfl⟩
      · have g1 : ((k : Int) == 1) = false := by simp; omega
        by_cases h3 : k = 3
        · subst h3
          clear h1
          go_wp2_with (refine (hk.out _).mono ?_; rintro e w' ⟨rfl, rfl⟩)
          go_roundg (s.size - (i + 1))
          case measure => go_light; omega
          case rel =>
            go_light
            exact ⟨i + 1, by omega, by omega, by go_num, by rw [hst.out, if_pos (by simp)]; go_num, rfl⟩
        · have g3 : ((k : Int) == 3) = false := by simp; omega
          go_wp2_with (refine (hk.out _).mono ?_; rintro e w' ⟨rfl, rfl⟩)
          go_roundg (s.size - (i + 1))
          case measure => go_light; omega
          case rel =>
            go_light
            exact ⟨i + 1, by omega, by omega, by go_num, by rw [hst.out, if_neg (by omega)]; rfl, rfl⟩
    · have hi' : i = s.size := by omega
      subst hi'
      go_wp2_with fail
      go_ret
      exact ⟨rfl, rfl⟩
end Go.Proofs.Ytnlenhhmajecjaa
