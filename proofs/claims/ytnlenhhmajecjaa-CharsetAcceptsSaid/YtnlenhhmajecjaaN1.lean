import Derived.Test.YtnlenhhmajecjaaL
set_option linter.unusedVariables false
set_option linter.unusedSimpArgs false
namespace Go.Proofs.Ytnlenhhmajecjaa
open Go.RowKit
def wantU (s : ByteArray) : Nat → Bool
  | 0 => true
  | i + 1 => wantU s i && decide (good s i)
theorem wantU_iff (s : ByteArray) : ∀ i, wantU s i = true ↔ ∀ j, j < i → good s j
  | 0 => ⟨fun _ j hj => absurd hj (Nat.not_lt_zero _), fun _ => rfl⟩
  | i + 1 => by
    rw [wantU, Bool.and_eq_true, wantU_iff s i, decide_eq_true_iff]
    constructor
    · rintro ⟨h1, h2⟩ j hj
      by_cases e : j = i
      · subst e; exact h2
      · exact h1 j (by omega)
    · intro h; exact ⟨fun j hj => h j (by omega), h i (by omega)⟩
theorem kindN_le (n : Nat) : kindN n ≤ 6 := by
  unfold kindN
  repeat' split
  all_goals omega
set_option maxHeartbeats 8000000 in
set_option maxRecDepth 100000 in
theorem accepts_walk (haw : Awake) (s : ByteArray) (w : World) (hs : s.size ≤ 9223372036854775807) :
    Calls Try.prog 5 #[.string s] w fun e w' => e = .returned (.bool true) ∧ Below w.heap.size w w' := by
  replace haw := Lib.hid haw
  by_cases h80 : 80 < s.size
  · have g1 : decide ((80 : Int) < (s.size : Int)) = true := by simp; omega
    go_enter Try.func5, Try.ntmps5
    go_wp2_with fail
    refine (haw.out _).mono ?_
    rintro e w9 ⟨rfl, hB9⟩
    go_wp2_with fail
    go_ret
    exact ⟨rfl, hB9⟩
  · have g1 : decide ((80 : Int) < (s.size : Int)) = false := by simp; omega
    have hck := check_any s w hs
    have hcz := chk_zero s (by omega)
    rw [← wantU_iff s s.size] at hcz
    have hbb : ((chkR s : Int) == 0) = wantU s s.size := by rw [Bool.eq_iff_iff, ← hcz]; simp
    obtain ⟨c, hc⟩ : ∃ c, chkR s = c := ⟨_, rfl⟩
    rw [hc] at hck hbb
    replace hck := Lib.hid hck
    replace hbb := Lib.hid hbb
    clear hcz hc
    go_enter Try.func5, Try.ntmps5
    go_wp2_with fail
    go_loopg [12, 3] s.size (fun g s12 s3 wr => ∃ i : Nat, i ≤ s.size ∧ g = s.size - i ∧ s12 = .int .i64 i ∧ s3 = .bool (wantU s i) ∧ wr = w)
    case atStart => exact ⟨0, by omega, by omega, rfl, rfl, rfl⟩
    case round =>
      obtain ⟨i, hi, hg, rfl, rfl, rfl⟩ := hrel
      by_cases hlt : i < s.size
      · have hltz : (i : Int) < (s.size : Int) := by omega
        have hx := fun W => run_index_str (P := Try.prog) 9 s (i : Int) i rfl hlt hs Try.underlying9 W
        have hk := fun W => kind_any _ (bat_lt s i) W
        have hkd : kindN (bat s i).toNat = kd s i := rfl
        have hle : kd s i ≤ 6 := kindN_le _
        have hgood : good s i ↔ kd s i ≠ 0 ∧ (kd s i = 2 → 0 < i ∧ (kd s (i - 1) = 1 ∨ kd s (i - 1) = 2)) := Iff.rfl
        have hstep : wantU s (i + 1) = (wantU s i && decide (good s i)) := rfl
        have hk1 := fun W => kind_any _ (bat_lt s (i - 1)) W
        have hkd1 : kindN (bat s (i - 1)).toNat = kd s (i - 1) := rfl
        have hx1 : 0 < i → ∀ W, (Instr.index 9 (.string s) (.int .i64 ((i : Int) - 1))).run Try.prog W = .ok (.int .u8 (bat s (i - 1)).toNat) W := fun h0 W => run_index_str (P := Try.prog) 9 s ((i : Int) - 1) (i - 1) (by omega) (by omega) hs Try.underlying9 W
        rw [hkd] at hk
        rw [hkd1] at hk1
        obtain ⟨k, hkk⟩ : ∃ k, kd s i = k := ⟨_, rfl⟩
        obtain ⟨k', hkk'⟩ : ∃ k, kd s (i - 1) = k := ⟨_, rfl⟩
        obtain ⟨u, hu⟩ : ∃ u, wantU s i = u := ⟨_, rfl⟩
        rw [hkk] at hk hle hgood
        rw [hkk'] at hk1 hgood
        rw [hu] at hstep ⊢
        replace hk := Lib.hid hk
        replace hk1 := Lib.hid hk1
        replace hgood := Lib.hid hgood
        replace hstep := Lib.hid hstep
        replace hx1 := Lib.hid hx1
        clear hkd hkd1 hkk hkk' hu
        have hg6 : decide ((6 : Int) < (k : Int)) = false := by simp; omega
        have hg6' : ¬ 6 < k := by omega
        by_cases h0 : k = 0
        · subst h0
          go_wp2_with fail
          refine (hk.out _).mono ?_
          rintro e w' ⟨rfl, rfl⟩
          go_wp2_with fail
          go_roundg (s.size - (i + 1))
          case measure => go_light; omega
          case rel =>
            go_light
            exact ⟨i + 1, by omega, by omega, by go_num, by rw [hstep.out, decide_eq_false (show ¬ good s i from fun h => by have := hgood.out.1 h; omega), Bool.and_false], rfl⟩
        · have g0 : ((k : Int) == 0) = false := by simp; omega
          by_cases h2 : k = 2
          · subst h2
            by_cases hi0 : i = 0
            · have gi : ((i : Int) == 0) = true := by simp; omega
              have HI := Lib.hid hi0
              clear hi0
              go_wp2_with fail
              refine (hk.out _).mono ?_
              rintro e w' ⟨rfl, rfl⟩
              go_wp2_with fail
              go_roundg (s.size - (i + 1))
              case measure => go_light; omega
              case rel =>
                go_light
                exact ⟨i + 1, by omega, by omega, by go_num, by rw [hstep.out, decide_eq_false (show ¬ good s i from fun h => by have h9 := (hgood.out.1 h).2 (by simp); have := HI.out; omega), Bool.and_false], rfl⟩
            · have gi : ((i : Int) == 0) = false := by simp; omega
              have hx1' := hx1.out (by omega)
              by_cases h1 : k' = 1
              · subst h1
                go_wp2_with fail
                refine (hk.out _).mono ?_
                rintro e w' ⟨rfl, rfl⟩
                go_wp2_with fail
                refine (hk1.out _).mono ?_
                rintro e w' ⟨rfl, rfl⟩
                go_wp2_with fail
                go_roundg (s.size - (i + 1))
                case measure => go_light; omega
                case rel =>
                  go_light
                  exact ⟨i + 1, by omega, by omega, by go_num, by rw [hstep.out, decide_eq_true (show good s i from hgood.out.2 ⟨by omega, fun _ => ⟨by omega, by simp⟩⟩), Bool.and_true], rfl⟩
              · have g3 : ((k' : Int) != 1) = true := by simp; omega
                by_cases h3 : k' = 2
                · subst h3
                  go_wp2_with fail
                  refine (hk.out _).mono ?_
                  rintro e w' ⟨rfl, rfl⟩
                  go_wp2_with fail
                  refine (hk1.out _).mono ?_
                  rintro e w' ⟨rfl, rfl⟩
                  go_wp2_with fail
                  refine (hk1.out _).mono ?_
                  rintro e w' ⟨rfl, rfl⟩
                  go_wp2_with fail
                  go_roundg (s.size - (i + 1))
                  case measure => go_light; omega
                  case rel =>
                    go_light
                    exact ⟨i + 1, by omega, by omega, by go_num, by rw [hstep.out, decide_eq_true (show good s i from hgood.out.2 ⟨by omega, fun _ => ⟨by omega, by simp⟩⟩), Bool.and_true], rfl⟩
                · have g4 : ((k' : Int) != 2) = true := by simp; omega
                  go_wp2_with fail
                  refine (hk.out _).mono ?_
                  rintro e w' ⟨rfl, rfl⟩
                  go_wp2_with fail
                  refine (hk1.out _).mono ?_
                  rintro e w' ⟨rfl, rfl⟩
                  go_wp2_with fail
                  refine (hk1.out _).mono ?_
                  rintro e w' ⟨rfl, rfl⟩
                  go_wp2_with fail
                  go_roundg (s.size - (i + 1))
                  case measure => go_light; omega
                  case rel =>
                    go_light
                    exact ⟨i + 1, by omega, by omega, by go_num, by rw [hstep.out, decide_eq_false (show ¬ good s i from fun h => by have h9 := (hgood.out.1 h).2 (by simp); omega), Bool.and_false], rfl⟩
          · have g2 : ((k : Int) == 2) = false := by simp; omega
            go_wp2_with fail
            refine (hk.out _).mono ?_
            rintro e w' ⟨rfl, rfl⟩
            go_wp2_with fail
            go_roundg (s.size - (i + 1))
            case measure => go_light; omega
            case rel =>
              go_light
              exact ⟨i + 1, by omega, by omega, by go_num, by rw [hstep.out, decide_eq_true (show good s i from hgood.out.2 (by omega)), Bool.and_true], rfl⟩
      · have hi' : i = s.size := by omega
        subst hi'
        obtain ⟨u, hu⟩ : ∃ u, wantU s s.size = u := ⟨_, rfl⟩
        have hb2 := hbb.out
        rw [hu] at hb2 ⊢
        clear hbb
        go_wp2_with fail
        refine hck.out.mono ?_
        rintro e w2 ⟨rfl, hB2⟩
        have hb3 : (((c : Int) == 0) == u) = true := by rw [hb2]; simp
        go_wp2_with fail
        refine (haw.out _).mono ?_
        rintro e w9 ⟨rfl, hB9⟩
        have hB := Lib.hid (bst hB2 hB9)
        clear hB2 hB9
        go_wp2_with fail
        go_ret
        exact ⟨rfl, hB.out⟩
end Go.Proofs.Ytnlenhhmajecjaa
