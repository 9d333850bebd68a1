import Derived.Test.YtmmcdncaiedmgaaProg
import Derived.Test.YtmmcdncaiedmgaaM
set_option linter.unusedVariables false
set_option linter.unusedSimpArgs false
namespace Go.Proofs.Ytmmcdncaiedmgaa
open Go.RowKit

def rev (n i : Nat) (M : Nat → Ed) (t : Nat) : Ed := if t < i ∨ n - i ≤ t then M (n - 1 - t) else M t

set_option maxHeartbeats 1000000 in
set_option maxRecDepth 100000 in
theorem reverse_any (g n cap : Nat) (M : Nat → Ed) (w : World) (hn : n ≤ 1000000) (h : Has w g 43 (n * 3) (ecl M)) :
    Calls Try.prog 46 #[.slice (some ⟨g, 0, none⟩) n cap] w fun e w' => e = .returned (.tuple #[]) ∧ Has w' g 43 (n * 3) (ecl fun t => M (n - 1 - t)) ∧ Only g w w' := by
  go_enter Try.func46, Try.ntmps46
  go_wp2_with fail
  go_loopg [2, 3] n (fun k s2 s3 wr => ∃ i : Nat, i ≤ n ∧ k = n - i ∧ (0 < i → i ≤ n - i) ∧ s2 = .int .i64 i ∧ s3 = .int .i64 ((n : Int) - 1 - i) ∧ Has wr g 43 (n * 3) (ecl (rev n i M)) ∧ Only g w wr)
  case atStart =>
    go_light
    exact ⟨0, by omega, by omega, by omega, rfl, by simp, by
      exact h.congr (ecl_congr fun t ht => by unfold rev; rw [if_neg (by omega)]), Only.refl _ _⟩
  case round =>
    clear h
    obtain ⟨i, hi, hk, hii, rfl, rfl, hH, hO⟩ := hrel
    by_cases hlt : i < n - 1 - i
    · have hltz : (i : Int) < (n : Int) - 1 - i := by omega
      have a0 := hH.cell (i := i * 3) (by omega)
      have a1 := hH.cell (i := i * 3 + 1) (by omega)
      have a2 := hH.cell (i := i * 3 + 2) (by omega)
      have b0 := hH.cell (i := (n - 1 - i) * 3) (by omega)
      have b1 := hH.cell (i := (n - 1 - i) * 3 + 1) (by omega)
      have b2 := hH.cell (i := (n - 1 - i) * 3 + 2) (by omega)
      have f0 := hH.frozen (i * 3)
      have f1 := hH.frozen (i * 3 + 1)
      have f2 := hH.frozen (i * 3 + 2)
      have f3 := hH.frozen ((n - 1 - i) * 3)
      have f4 := hH.frozen ((n - 1 - i) * 3 + 1)
      have f5 := hH.frozen ((n - 1 - i) * 3 + 2)
      rw [ecl0] at a0 b0
      rw [ecl1] at a1 b1
      rw [ecl2] at a2 b2
      have HH := Lib.hid (And.intro hH hO)
      clear hH hO
      obtain ⟨x, hx⟩ : ∃ x, rev n i M i = x := ⟨_, rfl⟩
      obtain ⟨y, hy⟩ : ∃ x, rev n i M (n - 1 - i) = x := ⟨_, rfl⟩
      rw [hx] at a0 a1 a2
      rw [hy] at b0 b1 b2
      replace hx := Lib.hid hx
      replace hy := Lib.hid hy
      go_wp2_with fail
      go_region
      all_goals go_wp2_with fail
      go_roundg (n - (i + 1))
      case measure => go_light; omega
      case rel =>
        go_light
        obtain ⟨h1, h2⟩ := HH.out
        refine ⟨i + 1, by omega, by omega, by omega, by go_num, by rw [show (n : Int) - 1 - ((i + 1 : Nat) : Int) = (n : Int) - 1 - i - 1 from by omega], ?_, (((((((h2.set _ _).set _ _).set _ _).set _ _).set _ _).set _ _).drew)⟩
        refine ((h1.set3 i y).set3 (n - 1 - i) x).drew.congr (ecl_congr fun t ht => ?_)
        rw [← hx.out, ← hy.out]
        unfold rev
        by_cases e1 : t = n - 1 - i
        · subst e1
          rw [if_pos rfl, if_neg (by omega), if_pos (by omega)]
          congr 1; omega
        · rw [if_neg e1]
          by_cases e2 : t = i
          · subst e2
            rw [if_pos rfl, if_neg (by omega), if_pos (by omega)]
          · rw [if_neg e2]
            by_cases e3 : t < i ∨ n - i ≤ t
            · rw [if_pos e3, if_pos (by omega)]
            · rw [if_neg e3, if_neg (by omega)]
    · have hge : (n : Int) - 1 - i ≤ i := by omega
      have hfin : Has wr g 43 (n * 3) (ecl fun t => M (n - 1 - t)) := hH.congr (ecl_congr fun t ht => by
        unfold rev
        by_cases e3 : t < i ∨ n - i ≤ t
        · rw [if_pos e3]
        · rw [if_neg e3]; congr 1; omega)
      clear hH
      go_wp2_with fail
      go_end0
      exact ⟨rfl, hfin, hO⟩
theorem reverse_nil (w : World) : Calls Try.prog 46 #[.slice none 0 0] w fun e w' => e = .returned (.tuple #[]) ∧ w = w' := by
  go_enter Try.func46, Try.ntmps46
  go_wp2_with fail
  go_loopg [2, 3] 1 (fun k s2 s3 wr => k = 1 ∧ s2 = .int .i64 0 ∧ s3 = .int .i64 (-1) ∧ w = wr)
  case atStart => exact ⟨rfl, rfl, rfl, rfl⟩
  case round =>
    obtain ⟨rfl, rfl, rfl, rfl⟩ := hrel
    go_wp2_with fail
    go_end0
    exact ⟨rfl, rfl⟩
end Go.Proofs.Ytmmcdncaiedmgaa
