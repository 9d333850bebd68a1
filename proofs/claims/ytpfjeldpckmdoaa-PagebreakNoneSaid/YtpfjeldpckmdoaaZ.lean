import Derived.Test.YtpfjeldpckmdoaaV
set_option linter.unusedVariables false
set_option linter.unusedSimpArgs false
namespace Go.Proofs.Ytpfjeldpckmdoaa
open Go.RowKit
set_option maxHeartbeats 4000000 in
set_option maxRecDepth 100000 in
theorem index_any (A : Option Addr) (c : Nat) (l : List Int) (x : Int) (w : World) (B : Nat) (h : Ints w B A l) (hl : l.length ≤ 1000000) :
    Calls Try.prog 26 #[.slice A l.length c, .int .i64 x] w fun e w' => ∃ k : Int, e = .returned (.int .i64 k) ∧ (0 ≤ k ↔ ∃ i, i < l.length ∧ l.getD i 0 = x) ∧ w' = w := by
  go_enter Try.func26, Try.ntmps26
  go_wp2_with fail
  go_loopg [8] (l.length) (fun g s wr => ∃ i : Nat, i ≤ l.length ∧ g = l.length - i ∧ s = .int .i64 i ∧ wr = w ∧ (∀ j, j < i → l.getD j 0 ≠ x))
  case atStart => exact ⟨0, by omega, by omega, rfl, rfl, fun j hj => absurd hj (Nat.not_lt_zero _)⟩
  case round =>
    obtain ⟨i, hi, hg, rfl, rfl, hno⟩ := hrel
    by_cases hlt : i < l.length
    · obtain ⟨b, o, rfl, hb, hc⟩ := h (by omega)
      have hltz : (i : Int) < (l.length : Int) := by omega
      have c0 := hc i hlt
      clear hc h
      obtain ⟨y, hy⟩ : ∃ y, l.getD i 0 = y := ⟨_, rfl⟩
      rw [hy] at c0
      by_cases he : x = y
      · have hb2 : (x == y) = true := by simpa using he
        have HE : Hid (∃ i, i < l.length ∧ l.getD i 0 = x) := Lib.hid ⟨i, hlt, by rw [hy, he]⟩
        clear he hy hno
        go_wp2_with fail
        go_ret
        go_light
        exact ⟨_, rfl, by simp only [HE.out, iff_true]; omega, rfl⟩
      · have hb2 : (x == y) = false := by simpa using he
        have HE : Hid (∀ j, j < i + 1 → l.getD j 0 ≠ x) := Lib.hid fun j hj e => by
          by_cases ej : j = i
          · subst ej; exact he (by rw [← e, hy])
          · exact hno j (by omega) e
        clear he hy hno
        go_wp2_with fail
        go_roundg (l.length - (i + 1))
        case measure => go_light; omega
        case rel =>
          go_light
          exact ⟨i + 1, by omega, by omega, by go_num, rfl, HE.out⟩
    · have HE : Hid (¬ ∃ i, i < l.length ∧ l.getD i 0 = x) := Lib.hid fun ⟨j, hj, e⟩ => hno j (by omega) e
      clear hno
      go_wp2_with fail
      go_ret
      go_light
      exact ⟨_, rfl, by simp only [HE.out, iff_false]; omega, rfl⟩
theorem contains_any (A : Option Addr) (c : Nat) (l : List Int) (x : Int) (w : World) (B : Nat) (h : Ints w B A l) (hl : l.length ≤ 1000000) (hx : ∃ i, i < l.length ∧ l.getD i 0 = x) :
    Calls Try.prog 14 #[.slice A l.length c, .int .i64 x] w fun e w' => e = .returned (.bool true) ∧ w' = w := by
  have H := Lib.hid (index_any A c l x w B h hl)
  clear h
  go_enter Try.func14, Try.ntmps14
  go_wp2_with fail
  refine H.out.mono ?_
  rintro e w1 ⟨k, rfl, hk, rfl⟩
  have hd : decide (0 ≤ k) = true := by simpa using hk.2 hx
  clear hk H
  go_wp2_with fail
  go_ret
  exact ⟨rfl, rfl⟩
end Go.Proofs.Ytpfjeldpckmdoaa
