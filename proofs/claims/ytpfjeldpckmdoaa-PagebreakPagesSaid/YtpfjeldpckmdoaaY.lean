import Derived.Test.YtpfjeldpckmdoaaV
import Derived.Test.YtpfjeldpckmdoaaK
set_option linter.unusedVariables false
set_option linter.unusedSimpArgs false
namespace Go.Proofs.Ytpfjeldpckmdoaa
open Go.RowKit
/-- page ends below a line: with any greater last one they rise -/
def Low (i : Nat) (L : List Nat) : Prop := ∀ n, i ≤ n → Up n 0 (L ++ [n])
theorem low_start : Low 1 [] := fun n h => ⟨by omega, Nat.le_refl _, rfl⟩
theorem low_skip {i : Nat} {L : List Nat} (h : Low i L) : Low (i + 1) L := fun n hn => h n (by omega)
theorem low_take {i : Nat} {L : List Nat} (h : Low i L) : Low (i + 1) (L ++ [i]) := fun n hn => up_snoc (by omega) (h i (Nat.le_refl _))
theorem low_len {i : Nat} {L : List Nat} (h : Low i L) : L.length < i := by
  have := up_len (h i (Nat.le_refl _))
  simp at this; omega
set_option maxHeartbeats 8000000 in
set_option maxRecDepth 100000 in
theorem choose_any (n m : Nat) (hn : n ≤ 10) (hm : m ≤ 65535) (w : World) :
    Calls Try.prog 13 #[.int .i64 n, .int .u16 m] w fun e w' => ∃ (L : List Nat) (v : Value), e = .returned v ∧ Up n 0 L ∧ w'.ownsRow w.heap.size 3 1 v L.length (nums L) ∧ Below w.heap.size w w' := by
  go_enter Try.func13, Try.ntmps13
  go_wp2_with fail
  go_loopg [6, 5] (n - 1) (fun g s6 s5 wr => ∃ (i : Nat) (L : List Nat), 1 ≤ i ∧ (i ≤ n ∨ i = 1) ∧ g = n - i ∧ s6 = .int .i64 i ∧ Low i L ∧ (i = 1 → L = []) ∧ wr.ownsRow w.heap.size 3 1 s5 L.length (nums L) ∧ Below w.heap.size w wr)
  case atStart =>
    go_light
    exact ⟨1, [], by omega, .inr rfl, rfl, rfl, low_start, fun _ => rfl, World.ownsRow_nil _ _ _ _, Below.refl _ _⟩
  case round =>
    obtain ⟨i, L, hi1, hi2, hg, rfl, hL, hL1, hown, hbl⟩ := hrel
    have hll := low_len hL
    have HO := Lib.hid (And.intro hown hbl)
    have HL := Lib.hid (And.intro hL hL1)
    by_cases hlt : i < n
    · have hltz : (i : Int) < (n : Int) := by omega
      clear hown hbl hL hL1
      obtain ⟨b, hb⟩ : ∃ b, (bits .and .u16 ((m : Int) / 2 ^ i) 1 == 1) = b := ⟨_, rfl⟩
      cases b
      · go_wp2_with fail
        go_roundg (n - (i + 1))
        case measure => go_light; omega
        case rel =>
          go_light
          exact ⟨i + 1, L, by omega, .inl (by omega), rfl, by go_num, low_skip HL.out.1, fun h => by omega, HO.out.1, HO.out.2⟩
      · go_wp2_with (at_builtin; refine app_new _ rfl _ _ 22 3 rfl _ 1 8 Try.underlying22 info3 rfl (by decide) w.heap.size _ L.length (nums L) rfl (HO.out.1) 1 1 _ rfl rfl (by simp [Value.oneCell']) (by unfold maxLen; omega) (by omega) (by exact HO.out.2.size) ?_; intro v' w1 hown' hgrow)
        go_roundg (n - (i + 1))
        case measure => go_light; omega
        case rel =>
          go_light
          refine ⟨i + 1, L ++ [i], by omega, .inl (by omega), rfl, by go_num, low_take HL.out.1, fun h => by omega, ?_, app_below HO.out.2 HO.out.2.size (HO.out.1) hgrow⟩
          rw [nums_snoc, List.length_append]
          exact hown'
    · by_cases hn0 : 0 < n
      · have hin : i = n := by omega
        subst hin
        have hnz : (0 : Int) < (i : Int) := by omega
        clear hown hbl hL hL1
        go_wp2_with (at_builtin; refine app_new _ rfl _ _ 22 3 rfl _ 1 8 Try.underlying22 info3 rfl (by decide) w.heap.size _ L.length (nums L) rfl (HO.out.1) 1 1 _ rfl rfl (by simp [Value.oneCell']) (by unfold maxLen; omega) (by omega) (by exact HO.out.2.size) ?_; intro v' w1 hown' hgrow)
        go_ret
        go_light
        refine ⟨L ++ [i], v', rfl, HL.out.1 i (Nat.le_refl _), ?_, app_below HO.out.2 HO.out.2.size (HO.out.1) hgrow⟩
        rw [nums_snoc, List.length_append]
        exact hown'
      · have hin : i = 1 := by omega
        have hn1 : n = 0 := by omega
        subst hn1
        subst hin
        have hL0 := HL.out.2 rfl
        subst hL0
        clear hown hbl hL hL1
        go_wp2_with fail
        go_ret
        go_light
        exact ⟨[], _, rfl, rfl, HO.out.1, HO.out.2⟩
end Go.Proofs.Ytpfjeldpckmdoaa
