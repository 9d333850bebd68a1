import Derived.Test.YtmmcdncaiedmgaaQ
import Derived.Test.YtmmcdncaiedmgaaN1
set_option linter.unusedVariables false
set_option linter.unusedSimpArgs false
namespace Go.Proofs.Ytmmcdncaiedmgaa
open Go.RowKit
theorem okL_mem {n : Int} {x : Ed} : ∀ {l : List Ed} {e : Int}, okL n l e → x ∈ l → ¬ badE n x
  | [], e, _, h => by simp at h
  | y :: l, e, ⟨h1, h2, h3⟩, h => by
    rcases List.mem_cons.1 h with rfl | h
    · exact h1
    · exact okL_mem h3 h
theorem applyL_len {A : List UInt8} : ∀ {l : List Ed} {e : Int}, okL A.length l e → 0 ≤ e → e ≤ A.length → ((applyL A l e.toNat).length : Int) = A.length - e + sumE l
  | [], e, _, h0, h1 => by rw [applyL, List.length_drop, sumE]; omega
  | x :: l, e, ⟨h2, h3, h4⟩, h0, h1 => by
    have hb : 0 ≤ x.at_ ∧ 0 ≤ x.len ∧ x.at_ ≤ (A.length : Int) ∧ x.len ≤ (A.length : Int) - x.at_ := by unfold badE at h2; omega
    have := applyL_len h4 (by omega) (by omega)
    rw [applyL, List.length_append, List.length_append, size_bl, List.length_take, List.length_drop, sumE]
    omega
theorem script_apply (a b : ByteArray) (ha : a.size ≤ 65536) (hb : b.size ≤ 65536) : applyR a (script a b) = (b, 0) := by
  have h := script_ok a b
  have hok := h.ok
  have hl := applyL_len (A := bl a) (l := script a b) (e := 0) (by rw [size_bl]; exact hok) (Int.le_refl _) (by omega)
  rw [Int.toNat_zero, script_leads, size_bl, size_bl] at hl
  rw [applied_eq (m := (a.size : Int) + sumE (script a b)) (by omega) (chk_okL hok) (by omega)]
  rw [applied, script_leads]
  rfl
/-- the value that reads as the list of edits -/
def EdV (w : World) (B : Nat) (v : Value) (l : List Ed) : Prop := ∃ A c, v = .slice A l.length c ∧ Eds w B A l
theorem EdR.edV {w : World} {B : Nat} {v : Value} {l : List Ed} (h : EdR w B v l) : EdV w w.heap.size v l := by
  rcases h with ⟨rfl, rfl⟩ | ⟨g, cap, rfl, hg, hH⟩
  · exact ⟨none, 0, rfl, fun h => absurd h (Nat.lt_irrefl _)⟩
  · exact ⟨_, cap, rfl, Eds.of_has hH⟩
theorem apply_script (a b : ByteArray) (A : Option Addr) (c n : Nat) (w : World) (hn : (script a b).length = n) (h : Eds w w.heap.size A (script a b)) (ha : a.size ≤ 256) (hb : b.size ≤ 256) :
    Calls Try.prog 25 #[.string a, .slice A n c] w fun e w' => e = .returned (.tuple #[.string b, .int .i64 0]) ∧ Below w.heap.size w w' := by
  subst hn
  have hle : (script a b).length ≤ 1000000 := by have := levS_max a b; rw [script_len]; omega
  refine (apply_any a (script a b) A c w h hle (by omega) (fun x hx => by have := ((script_ok a b).each x hx).2.2.2.1; omega) (fun x hx => ?_)).mono ?_
  · have h1 := (script_ok a b).each x hx
    have h2 := okL_mem (script_ok a b).ok hx
    unfold badE at h2
    omega
  · rintro e w' ⟨rfl, hB⟩
    exact ⟨by rw [script_apply a b (by omega) (by omega)], hB⟩
theorem max3_zero (w : World) : (Builtin.max_ #[23, 23, 23] 23 #[.int .i64 0, .int .i64 0, .int .i64 0]).run Try.prog w = .ok (.int .i64 0) w := by kernel_rfl

set_option maxHeartbeats 4000000 in
set_option maxRecDepth 100000 in
theorem scripts_walk (haw : Awake) (a b : ByteArray) (w : World) (ha : a.size ≤ 9223372036854775807) (hb : b.size ≤ 9223372036854775807) :
    Calls Try.prog 7 #[.string a, .string b] w fun e w' => e = .returned (.bool true) ∧ Below w.heap.size w w' := by
  by_cases h12 : a.size ≤ 12 ∧ b.size ≤ 12
  · obtain ⟨ha12, hb12⟩ := h12
    clear ha hb
    have g1 : decide ((12 : Int) < (a.size : Int)) = false := by simp; omega
    have g2 : decide ((12 : Int) < (b.size : Int)) = false := by simp; omega
    have d1 := distance_ok a b
    have hsl := script_len a b
    have hmx := levS_max a b
    obtain ⟨x, hx⟩ : ∃ x, levS a b = x := ⟨_, rfl⟩
    simp only [hx] at d1 hsl hmx
    replace d1 := Lib.hid d1
    replace haw := Lib.hid haw
    have HS := Lib.hid hsl
    clear hx hsl
    have hmx3 := max3_zero
    go_enter Try.func7, Try.ntmps7
    go_wp2_with fail
    refine (d1.out _ (by omega) (by omega)).mono ?_
    rintro e w1 ⟨rfl, hB1⟩
    go_wp2_with fail
    refine (script_any _ _ _ (by omega) (by omega)).mono ?_
    rintro e w2 ⟨v2, rfl, hv2, hB2⟩
    obtain ⟨A, c, rfl, hE⟩ := hv2.edV
    rw [HS.out]
    clear hv2
    replace hE := Lib.hid hE
    go_wp2_with fail
    refine (apply_script _ _ _ _ _ _ HS.out hE.out (by omega) (by omega)).mono ?_
    rintro e w3 ⟨rfl, hB3⟩
    have hB123 := Lib.hid (bst (bst hB1 hB2) hB3)
    have hE3 : Hid (Eds w3 w3.heap.size A (script a b)) := Lib.hid ((hE.out.below hB3).more hB3.size)
    clear hB1 hB2 hB3 hE
    go_wp2_with fail
    go_loopg [58] x (fun g s wr => ∃ i : Nat, i ≤ x ∧ g = x - i ∧ s = .int .i64 i ∧ Below w3.heap.size w3 wr)
    case atStart => exact ⟨0, by omega, by omega, rfl, Below.refl _ _⟩
    case round =>
      obtain ⟨i, hi, hg, rfl, hbl⟩ := hrel
      have HB := Lib.hid hbl
      by_cases hlt : i < x
      · have hlt' : i < (script a b).length := by rw [HS.out]; exact hlt
        have hltz : (i : Int) < (x : Int) := by omega
        obtain ⟨bb, o, rfl, hbb, hc⟩ := (hE3.out.below hbl) (by omega)
        obtain ⟨c0, c1, c2⟩ := hc i hlt'
        have hmem : edAt (script a b) i ∈ script a b := by rw [← edAt_get hlt']; exact List.getElem_mem hlt'
        have he := (script_ok a b).each _ hmem
        obtain ⟨y, hy⟩ : ∃ y, edAt (script a b) i = y := ⟨_, rfl⟩
        rw [hy] at c0 c1 c2 he
        obtain ⟨xa, xl, xt⟩ := y
        simp only at c0 c1 c2 he
        clear hc hbl hy hmem hlt'
        obtain ⟨e1, e2, e3, e4, e5, e6⟩ := he
        have f1 : decide (xl + (xt.size : Int) < 1) = false := by simp; omega
        have f3 : decide (1 < (xt.size : Int)) = false := by simp; omega
        obtain ⟨xn, rfl⟩ : ∃ n : Nat, xa = (n : Int) := ⟨xa.toNat, by omega⟩
        obtain rfl | rfl : xl = 0 ∨ xl = 1 := by omega
        · clear e6
          rw [Int.zero_add] at f1
          have f4 : ¬ (xt.size : Int) < 1 := by simpa using f1
          go_wp2_with fail
          go_quiet (fail)
          go_wp2_with fail
          go_roundg (x - (i + 1))
          case measure => go_light; omega
          case rel =>
            go_light
            exact ⟨i + 1, by omega, by omega, by go_num, drewN_below (HB.out.alloc HB.out.size _) _⟩
        · obtain ⟨e7, e8⟩ := e6 rfl
          rw [Int.toNat_natCast] at e8
          have hne : ((a.extract xn (xn + 1)).toList == xt.toList) = false := by rw [str_beq]; unfold sub1 at e8; simpa using e8
          have hsl0 := fun W => run_slice_string (P := Try.prog) W 9 a .i64 .i64 (xn : Int) ((xn : Int) + 1) Try.underlying9 (by omega) (by omega) (by omega)
          have hz : ((xn : Int) + 1).toNat = xn + 1 := by omega
          simp only [Int.toNat_natCast, hz] at hsl0
          clear e6 hz e8
          go_wp2_with fail
          go_quiet (fail)
          go_wp2_with fail
          go_roundg (x - (i + 1))
          case measure => go_light; omega
          case rel =>
            go_light
            exact ⟨i + 1, by omega, by omega, by go_num, drewN_below (HB.out.alloc HB.out.size _) _⟩
      · clear hbl
        go_wp2_with fail
        refine (haw.out _).mono ?_
        rintro e w5 ⟨rfl, hB5⟩
        go_wp2_with fail
        go_ret
        exact ⟨rfl, bst (bst hB123.out HB.out) hB5⟩
  · have hcase : (decide ((12 : Int) < (a.size : Int)) = true) ∨ (decide ((12 : Int) < (a.size : Int)) = false ∧ decide ((12 : Int) < (b.size : Int)) = true) := by
      simp only [decide_eq_true_eq, decide_eq_false_iff_not]; omega
    clear h12
    replace haw := Lib.hid haw
    rcases hcase with h1 | ⟨h1, h2⟩
    all_goals
      go_enter Try.func7, Try.ntmps7
      go_wp2_with fail
      refine (haw.out _).mono ?_
      rintro e w5 ⟨rfl, hB5⟩
      go_wp2_with fail
      go_ret
      exact ⟨rfl, hB5⟩
end Go.Proofs.Ytmmcdncaiedmgaa
