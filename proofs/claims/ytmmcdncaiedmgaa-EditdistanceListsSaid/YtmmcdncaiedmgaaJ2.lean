import Derived.Test.YtmmcdncaiedmgaaJ1
set_option linter.unusedVariables false
set_option linter.unusedSimpArgs false
namespace Go.Proofs.Ytmmcdncaiedmgaa
open Go.RowKit
theorem nan_any (x : ByteArray) (w : World) : Calls Try.prog 56 #[.string x] w fun e w' => e = .returned (.bool false) ∧ w' = w := by
  have h : (x.toList != x.toList) = false := by simp
  go_enter Try.func56, Try.ntmps56
  go_wp2_with fail
  go_ret
  exact ⟨rfl, rfl⟩
def cmpS (x y : ByteArray) : Int := if ltb x y = true then -1 else if x = y then 0 else 1
theorem cmps_any (x y : ByteArray) (w : World) : Calls Try.prog 51 #[.string x, .string y] w fun e w' => e = .returned (.int .i64 (cmpS x y)) ∧ w' = w := by
  cases h1 : ltb x y
  · have h1' : Op.bytesLess x.toList y.toList = false := h1
    by_cases h2 : x = y
    · have h3 : (x.toList == y.toList) = true := by rw [str_beq]; simpa using h2
      rw [cmpS, if_neg (by simp [h1]), if_pos h2]
      clear h1 h2
      go_enter Try.func51, Try.ntmps51
      go_wp2_with (refine (nan_any _ _).mono ?_; rintro e w' ⟨rfl, rfl⟩)
      go_ret
      exact ⟨rfl, rfl⟩
    · have h3 : (x.toList == y.toList) = false := by rw [str_beq]; simpa using h2
      rw [cmpS, if_neg (by simp [h1]), if_neg h2]
      clear h1 h2
      go_enter Try.func51, Try.ntmps51
      go_wp2_with (refine (nan_any _ _).mono ?_; rintro e w' ⟨rfl, rfl⟩)
      go_ret
      exact ⟨rfl, rfl⟩
  · have h1' : Op.bytesLess x.toList y.toList = true := h1
    rw [cmpS, if_pos h1]
    clear h1
    go_enter Try.func51, Try.ntmps51
    go_wp2_with (refine (nan_any _ _).mono ?_; rintro e w' ⟨rfl, rfl⟩)
    go_ret
    exact ⟨rfl, rfl⟩
def cmpL : List ByteArray → List ByteArray → Int
  | [], [] => 0
  | [], _ :: _ => -1
  | _ :: _, [] => 1
  | x :: xs, y :: ys => if cmpS x y = 0 then cmpL xs ys else cmpS x y
set_option maxHeartbeats 4000000 in
set_option maxRecDepth 100000 in
theorem compare_any (s l : List ByteArray) (A A' : Option Addr) (c c' : Nat) (w : World) (B : Nat) (h : Strs w B A s) (h' : Strs w B A' l) (hs : s.length ≤ 1000000) (hl : l.length ≤ 1000000) :
    Calls Try.prog 36 #[.slice A s.length c, .slice A' l.length c'] w fun e w' => e = .returned (.int .i64 (cmpL s l)) ∧ w' = w := by
  go_enter Try.func36, Try.ntmps36
  go_wp2_with fail
  go_loopg [11] s.length (fun g s11 wr => ∃ i : Nat, i ≤ s.length ∧ i ≤ l.length ∧ g = s.length - i ∧ s11 = .int .i64 i ∧ wr = w ∧ cmpL (s.drop i) (l.drop i) = cmpL s l)
  case atStart => exact ⟨0, by omega, by omega, by omega, rfl, rfl, rfl⟩
  case round =>
    obtain ⟨i, hi, hil, hg, rfl, rfl, hsub⟩ := hrel
    by_cases hlt : i < s.length
    · have hiz : (i : Int) < (s.length : Int) := by omega
      obtain ⟨b, o, rfl, hb, hc⟩ := h (by omega)
      have c1 := hc i hlt
      obtain ⟨x, hx⟩ : ∃ y, s.getD i ByteArray.empty = y := ⟨_, rfl⟩
      rw [drop_getD hlt] at hsub
      rw [hx] at c1 hsub
      by_cases hkt : i < l.length
      · have g1 : decide ((l.length : Int) ≤ (i : Int)) = false := by simp; omega
        have g1' : ¬ l.length ≤ i := by omega
        have hkz : (i : Int) < (l.length : Int) := by omega
        obtain ⟨b', o', rfl, hb', hc'⟩ := h' (by omega)
        have c2 := hc' i hkt
        rw [drop_getD hkt, cmpL] at hsub
        obtain ⟨y, hy⟩ : ∃ y, l.getD i ByteArray.empty = y := ⟨_, rfl⟩
        rw [hy] at c2 hsub
        have hcall := cmps_any x y wr
        obtain ⟨z, hz⟩ : ∃ z, cmpS x y = z := ⟨_, rfl⟩
        rw [hz] at hsub hcall
        replace hcall := Lib.hid hcall
        clear hc hc' hx hy h h' hz
        by_cases e : z = 0
        · have g2 : (z != 0) = false := by simp [e]
          rw [if_pos e] at hsub
          have HS := Lib.hid hsub
          subst e
          clear hsub g2
          go_wp2_with (refine hcall.out.mono ?_; rintro e w' ⟨rfl, rfl⟩)
          go_roundg (s.length - (i + 1))
          case measure => go_light; omega
          case rel =>
            go_light
            exact ⟨i + 1, by omega, by omega, by omega, by go_num, rfl, HS.out⟩
        · have g2 : (z != 0) = true := by simp [e]
          rw [if_neg e] at hsub
          have HS := Lib.hid hsub
          clear hsub
          go_wp2_with (refine hcall.out.mono ?_; rintro e w' ⟨rfl, rfl⟩)
          go_ret
          go_light
          exact ⟨ret_int HS.out, rfl⟩
      · have g1 : decide ((l.length : Int) ≤ (i : Int)) = true := by simp; omega
        have g1' : l.length ≤ i := by omega
        rw [List.drop_of_length_le (by omega : l.length ≤ i), cmpL] at hsub
        have HS := Lib.hid hsub
        clear hsub h h' hc hx
        go_wp2_with fail
        go_ret
        go_light
        exact ⟨ret_int HS.out, rfl⟩
    · have hiz : ¬ (i : Int) < (s.length : Int) := by omega
      rw [List.drop_of_length_le (by omega : s.length ≤ i)] at hsub
      by_cases hll : s.length < l.length
      · have g1 : decide ((s.length : Int) < (l.length : Int)) = true := by simp; omega
        rw [drop_getD (by omega : i < l.length), cmpL] at hsub
        have HS := Lib.hid hsub
        clear hsub h h'
        go_wp2_with fail
        go_ret
        go_light
        exact ⟨ret_int HS.out, rfl⟩
      · have g1 : decide ((s.length : Int) < (l.length : Int)) = false := by simp; omega
        rw [List.drop_of_length_le (by omega : l.length ≤ i), cmpL] at hsub
        have HS := Lib.hid hsub
        clear hsub h h'
        go_wp2_with fail
        go_ret
        go_light
        exact ⟨ret_int HS.out, rfl⟩
end Go.Proofs.Ytmmcdncaiedmgaa
