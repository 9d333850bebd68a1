import Derived.Test.YtmmcdncaiedmgaaS2
import Derived.Test.YtmmcdncaiedmgaaS3
import Derived.Test.YtmmcdncaiedmgaaS4
import Derived.Test.YtmmcdncaiedmgaaS5
import Derived.Test.YtmmcdncaiedmgaaS6
import Derived.Test.YtmmcdncaiedmgaaS7
set_option linter.unusedVariables false
set_option linter.unusedSimpArgs false
namespace Go.Proofs.Ytmmcdncaiedmgaa
open Go.RowKit

/-- what `Script` leaves -/
def ScriptPost (a b : ByteArray) (w : World) (e : Ending) (w' : World) : Prop :=
  ∃ v, e = .returned (.tuple #[v, .int .i64 0]) ∧ EdR w' w.heap.size v (script a b) ∧ Below w.heap.size w w'

theorem trace_zero (p : Nat → Nat → Bool) (b : ByteArray) (f : Nat) : trace p b f 0 0 = [] := by
  cases f <;> simp [trace]
theorem edAt_reverse (L : List Ed) : ∀ t, t < L.length → edAt L (L.length - 1 - t) = edAt L.reverse t := by
  intro t ht
  unfold edAt
  simp only [List.getD_eq_getElem?_getD]
  rw [List.getElem?_reverse ht]

set_option maxHeartbeats 16000000 in
set_option maxRecDepth 1000000 in
theorem script_any (a b : ByteArray) (w : World) (ha : a.size ≤ 256) (hb : b.size ≤ 256) :
    Calls Try.prog 18 #[.string a, .string b] w (ScriptPost a b w) := by
  have hd : decide (256 < max (a.size : Int) (b.size : Int)) = false := by simp; omega
  have hmk1 := run_make_row' (P := Try.prog) 60 61 (.slice none 0 0) 24 Try.underlying60 info61 rfl .i64 .i64 (a.size + 1) (by omega) (by omega)
  rw [show ((a.size + 1 : Nat) : Int) = (a.size : Int) + 1 from by omega] at hmk1
  go_enter Try.func18, Try.ntmps18
  go_upto_block 0 with (go_at_call 41; refine (long_any _ _ _).mono ?_; rintro e w' ⟨rfl, rfl⟩)
  clear hmk1
  refine script_table a b w ha hb ?_
  intro _ _ _ _ _ _ _ _ _ _ _ _ _ _ _ _ _ _ _ _ _ _ _ _ _ _ _ _ _ _ _ _ _ _ _ _ _ _ _ _ _ _ _ _ _ _ _ _ _ _ _ _ _ _ _ _ _ _ _ _ _ _ _ _ _ _ _ _ _ _ _ _ _ _ _ _ _ _ _ _ _ _ _ _ _ _ _ _ _ _ _ _ _ _ _ _ _ _ _ _ _ _ _ _ _ _ _ _ _ _ _ _ _ _ _ wc hcut
  obtain ⟨hbw, htb⟩ := hcut
  have hB0 : w.heap.size ≤ wc.heap.size := hbw.size
  have H0 : Hid (TabAt a b w wc) := Lib.hid (And.intro hbw htb)
  clear hbw htb
  go_wp2_with fail
  go_loopg [9, 10, 11] (a.size + b.size) (fun g s9 s10 s11 wr => TrRel a b wc g s9 s10 s11 wr)
  case atStart =>
    go_light
    exact ⟨a.size, b.size, [], by omega, by omega, by omega, by simp, rfl, rfl, by simp [script], World.ownsRow_nil _ _ _ _, Below.refl _ _⟩
  case round =>
    obtain ⟨i, k, L, hi, hk, hik, hL, rfl, rfl, htr, hown, hbl⟩ := hrel
    by_cases hz : i = 0 ∧ k = 0
    · obtain ⟨hi0, hk0⟩ := hz
      have g1 : decide ((0 : Int) < (i : Int)) = false := by simp; omega
      have g2 : decide ((0 : Int) < (k : Int)) = false := by simp; omega
      have g1' : decide (0 < i) = false := by simp; omega
      have g2' : decide (0 < k) = false := by simp; omega
      have HI := Lib.hid (And.intro hi0 hk0)
      have HT := Lib.hid htr
      have HO := Lib.hid (And.intro hown hbl)
      clear hi0 hk0 htr hown hbl
      go_wp2_with fail
      rcases own_forms HO.out.1 with ⟨rfl, hL0, _⟩ | ⟨g, cap, rfl, hg1, hg2, hcap⟩
      · refine (reverse_nil _).mono ?_
        rintro e w' ⟨rfl, rfl⟩
        go_wp2_with fail
        go_ret2
        go_light
        have hLn : L = [] := List.eq_nil_of_length_eq_zero hL0
        obtain ⟨rfl, rfl⟩ := HI.out
        have := HT.out
        rw [trace_zero, hLn] at this
        exact ⟨_, rfl, .inl ⟨rfl, this.symm⟩, H0.out.1.trans (HO.out.2.mono hB0)⟩
      · refine (reverse_any g L.length cap (edAt L) _ (by omega) ((own_has HO.out.1).congr (edc_get L))).mono ?_
        rintro e w' ⟨rfl, hR, hOn⟩
        go_wp2_with fail
        go_ret2
        go_light
        obtain ⟨rfl, rfl⟩ := HI.out
        have hs := HT.out
        rw [trace_zero, List.nil_append] at hs
        refine ⟨_, rfl, .inr ⟨g, cap, by rw [← hs, List.length_reverse]; rfl, by omega, ?_⟩, (H0.out.1.trans (HO.out.2.mono hB0)).trans (hOn.below (by omega) (by have := HO.out.2.size; omega))⟩
        rw [← hs, List.length_reverse]
        exact hR.congr (ecl_congr (edAt_reverse L))
    · by_cases hA : 0 < i ∧ 0 < k
      · by_cases h1 : peq a b (i - 1) (k - 1) = true ∧ lev (peq a b) i k = lev (peq a b) (i - 1) (k - 1)
        · refine trace_match a b w wc ha hb H0 gk i k L wr hi hk hik hL htr hown hbl hA h1 ?_
          clear htr hown hbl
          intro _ _ _ _ _ _ _ _ _ _ _ _ _ _ _ _ _ _ _ _ _ _ _ _ _ _ _ _ _ _ _ _ _ _ _ _ _ _ _ _ _ _ _ _ _ _ _ _ _ _ _ _ _ _ _ _ _ _ _ _ _ _ _ _ _ _ _ _ _ _ _ _ _ _ _ _ _ _ _ _ _ _ _ _ _ _ _ _ _ _ _ _ _ _ _ _ _ _ _ _ _ _ _ _ _ _ _ _ _ _ _ _ _ _ _ _ _ _ _ _ _ _ _ _ _ _ _ _ _ _ _ _ wx hr
          dsimp only
          go_wp2_with fail
          go_roundg (gk - 1)
          case measure => go_light; omega
          case rel => exact hr
        · by_cases h2 : lev (peq a b) i k = lev (peq a b) (i - 1) (k - 1) + 1
          · refine trace_change a b w wc ha hb H0 gk i k L wr hi hk hik hL htr hown hbl hA h1 h2 ?_
            clear htr hown hbl
            intro _ _ _ _ _ _ _ _ _ _ _ _ _ _ _ _ _ _ _ _ _ _ _ _ _ _ _ _ _ _ _ _ _ _ _ _ _ _ _ _ _ _ _ _ _ _ _ _ _ _ _ _ _ _ _ _ _ _ _ _ _ _ _ _ _ _ _ _ _ _ _ _ _ _ _ _ _ _ _ _ _ _ _ _ _ _ _ _ _ _ _ _ _ _ _ _ _ _ _ _ _ _ _ _ _ _ _ _ _ _ _ _ _ _ _ _ _ _ _ _ _ _ _ _ _ _ _ _ _ _ _ _ wx hr
            dsimp only
            go_wp2_with fail
            go_roundg (gk - 1)
            case measure => go_light; omega
            case rel => exact hr
          · by_cases h3 : lev (peq a b) i k = lev (peq a b) (i - 1) k + 1
            · refine trace_delete a b w wc ha hb H0 gk i k L wr hi hk hik hL htr hown hbl hA h1 h2 h3 ?_
              clear htr hown hbl
              intro _ _ _ _ _ _ _ _ _ _ _ _ _ _ _ _ _ _ _ _ _ _ _ _ _ _ _ _ _ _ _ _ _ _ _ _ _ _ _ _ _ _ _ _ _ _ _ _ _ _ _ _ _ _ _ _ _ _ _ _ _ _ _ _ _ _ _ _ _ _ _ _ _ _ _ _ _ _ _ _ _ _ _ _ _ _ _ _ _ _ _ _ _ _ _ _ _ _ _ _ _ _ _ _ _ _ _ _ _ _ _ _ _ _ _ _ _ _ _ _ _ _ _ _ _ _ _ _ _ _ _ _ wx hr
              dsimp only
              go_wp2_with fail
              go_roundg (gk - 1)
              case measure => go_light; omega
              case rel => exact hr
            · refine trace_insert a b w wc ha hb H0 gk i k L wr hi hk hik hL htr hown hbl hA h1 h2 h3 ?_
              clear htr hown hbl
              intro _ _ _ _ _ _ _ _ _ _ _ _ _ _ _ _ _ _ _ _ _ _ _ _ _ _ _ _ _ _ _ _ _ _ _ _ _ _ _ _ _ _ _ _ _ _ _ _ _ _ _ _ _ _ _ _ _ _ _ _ _ _ _ _ _ _ _ _ _ _ _ _ _ _ _ _ _ _ _ _ _ _ _ _ _ _ _ _ _ _ _ _ _ _ _ _ _ _ _ _ _ _ _ _ _ _ _ _ _ _ _ _ _ _ _ _ _ _ _ _ _ _ _ _ _ _ _ _ _ _ _ _ wx hr
              dsimp only
              go_wp2_with fail
              go_roundg (gk - 1)
              case measure => go_light; omega
              case rel => exact hr
      · by_cases hi0 : 0 < i
        · refine trace_first a b w wc ha hb H0 gk i k L wr hi hk hik hL htr hown hbl hi0 hA ?_
          clear htr hown hbl
          intro _ _ _ _ _ _ _ _ _ _ _ _ _ _ _ _ _ _ _ _ _ _ _ _ _ _ _ _ _ _ _ _ _ _ _ _ _ _ _ _ _ _ _ _ _ _ _ _ _ _ _ _ _ _ _ _ _ _ _ _ _ _ _ _ _ _ _ _ _ _ _ _ _ _ _ _ _ _ _ _ _ _ _ _ _ _ _ _ _ _ _ _ _ _ _ _ _ _ _ _ _ _ _ _ _ _ _ _ _ _ _ _ _ _ _ _ _ _ _ _ _ _ _ _ _ _ _ _ _ _ _ _ wx hr
          dsimp only
          go_wp2_with fail
          go_roundg (gk - 1)
          case measure => go_light; omega
          case rel => exact hr
        · refine trace_second a b w wc ha hb H0 gk i k L wr hi hk hik hL htr hown hbl hi0 hz ?_
          clear htr hown hbl
          intro _ _ _ _ _ _ _ _ _ _ _ _ _ _ _ _ _ _ _ _ _ _ _ _ _ _ _ _ _ _ _ _ _ _ _ _ _ _ _ _ _ _ _ _ _ _ _ _ _ _ _ _ _ _ _ _ _ _ _ _ _ _ _ _ _ _ _ _ _ _ _ _ _ _ _ _ _ _ _ _ _ _ _ _ _ _ _ _ _ _ _ _ _ _ _ _ _ _ _ _ _ _ _ _ _ _ _ _ _ _ _ _ _ _ _ _ _ _ _ _ _ _ _ _ _ _ _ _ _ _ _ _ wx hr
          dsimp only
          go_wp2_with fail
          go_roundg (gk - 1)
          case measure => go_light; omega
          case rel => exact hr
end Go.Proofs.Ytmmcdncaiedmgaa
