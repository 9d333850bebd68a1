import Derived.Test.YtmmcdncaiedmgaaV
set_option linter.unusedVariables false
set_option linter.unusedSimpArgs false
namespace Go.Proofs.Ytmmcdncaiedmgaa
open Go.RowKit
theorem sumE_snoc (l : List Ed) (i : Nat) (h : i < l.length) : sumE (l.take (i + 1)) = sumE (l.take i) + ((edAt l i).tx.size - (edAt l i).len) := by
  rw [List.take_succ_eq_append_getElem h, edAt_get h]
  induction l.take i with
  | nil => simp [sumE]
  | cons x t ih => rw [List.cons_append, sumE, ih, sumE]; omega
theorem touchE_snoc (l : List Ed) (i : Nat) (h : i < l.length) : touchE (l.take (i + 1)) = touchE (l.take i) + max ((edAt l i).tx.size : Int) (edAt l i).len := by
  rw [List.take_succ_eq_append_getElem h, edAt_get h]
  induction l.take i with
  | nil => simp [touchE]
  | cons x t ih => rw [List.cons_append, touchE, ih, touchE]; omega
theorem any_false {l : List Ed} (h : l.any (fun x => decide (8 < x.tx.size)) = false) : ∀ x ∈ l, x.tx.size ≤ 8 := by
  intro x hx
  have := List.any_eq_false.1 h x hx
  simp at this; exact this

set_option maxHeartbeats 4000000 in
set_option maxRecDepth 100000 in
theorem applied_walk (haw : Awake) (a : ByteArray) (l : List Ed) (A : Option Addr) (c : Nat) (w : World) (h : Eds w w.heap.size A l) (ha : a.size ≤ 9223372036854775807) (hl : l.length ≤ 9223372036854775807) (hts : ∀ x ∈ l, x.tx.size ≤ 9223372036854775807)
    (hr : ∀ x ∈ l, -9223372036854775808 ≤ x.at_ ∧ x.at_ ≤ 9223372036854775807 ∧ -9223372036854775808 ≤ x.len ∧ x.len ≤ 9223372036854775807) :
    Calls Try.prog 8 #[.string a, .slice A l.length c] w fun e w' => e = .returned (.bool true) ∧ Below w.heap.size w w' := by
  replace haw := Lib.hid haw
  by_cases h12 : a.size ≤ 12 ∧ l.length ≤ 6
  · obtain ⟨ha12, hl6⟩ := h12
    clear ha hl
    have g1 : decide ((12 : Int) < (a.size : Int)) = false := by simp; omega
    have g2 : decide ((6 : Int) < (l.length : Int)) = false := by simp; omega
    have hcf := Lib.hid (containsF_any 27 (fun x => decide (8 < x.tx.size)) l A c w h (by omega) (fun args w => by simp [go_sem]) (fun x hx w => great27 x w (hts x hx)))
    have hany := Lib.hid (any_false (l := l))
    have hap := Lib.hid (fun W => apply_any a l A c W)
    replace hr := Lib.hid hr
    replace hts := Lib.hid hts
    obtain ⟨g, hg⟩ : ∃ g, l.any (fun x => decide (8 < x.tx.size)) = g := ⟨_, rfl⟩
    rw [hg] at hcf hany
    clear hg
    cases g
    · have ht := Lib.hid (hany.out rfl)
      have hlaw := Lib.hid (applied_law a l ha12 hl6 ht.out)
      clear hany
      go_enter Try.func8, Try.ntmps8
      go_wp2_with fail
      refine hcf.out.mono ?_
      rintro e w1 ⟨rfl, hB1⟩
      have hE1 := Lib.hid ((h.below hB1).more hB1.size)
      go_wp2_with fail
      refine (hap.out _ hE1.out (by omega) (by omega) (fun x hx => by have := ht.out x hx; omega) hr.out).mono ?_
      rintro e w2 ⟨rfl, hB2⟩
      have hE2 := Lib.hid ((hE1.out.below hB2).more hB2.size)
      have hB12 := Lib.hid (bst hB1 hB2)
      clear hB1 hB2 hE1
      obtain ⟨r, hr0⟩ : ∃ r, applyR a l = r := ⟨_, rfl⟩
      rw [hr0] at hlaw ⊢
      obtain ⟨s, k⟩ := r
      clear hr0
      rcases hlaw.out with ⟨hk, hs, hpos⟩ | ⟨hk, hok, hsz, hlv, h256⟩
      · simp only at hk hs
        subst hs
        have hposz : decide ((0 : Int) < (l.length : Int)) = true := by simp; omega
        rcases hk with rfl | rfl
        all_goals
          go_wp2_with fail
          refine (haw.out _).mono ?_
          rintro e w5 ⟨rfl, hB5⟩
          go_wp2_with fail
          go_ret
          exact ⟨rfl, bst hB12.out hB5⟩
      · simp only at hk hsz hlv h256
        subst hk
        have hd := Lib.hid (distance_ok a s)
        have HL := Lib.hid (And.intro hok (And.intro hsz hlv))
        clear hlaw hok hsz hlv
        go_wp2_with fail
        go_loopg [56, 7, 8] l.length (fun g s56 s7 s8 wr => ∃ i : Nat, i ≤ l.length ∧ g = l.length - i ∧ s56 = .int .i64 i ∧ s7 = .int .i64 (a.size + sumE (l.take i)) ∧ s8 = .int .i64 (touchE (l.take i)) ∧ Below w2.heap.size w2 wr ∧
          -12 * (i : Int) ≤ sumE (l.take i) ∧ sumE (l.take i) ≤ 12 * i ∧ 0 ≤ touchE (l.take i) ∧ touchE (l.take i) ≤ 12 * i)
        case atStart => exact ⟨0, by omega, by omega, rfl, by simp [sumE], rfl, Below.refl _ _, by simp [sumE], by simp [sumE], by simp [touchE], by simp [touchE]⟩
        case round =>
          obtain ⟨i, hi, hg, rfl, rfl, rfl, hbl, b1, b2, b3, b4⟩ := hrel
          have HB := Lib.hid hbl
          by_cases hlt : i < l.length
          · have hltz : (i : Int) < (l.length : Int) := by omega
            obtain ⟨bb, o, rfl, hbb, hc⟩ := (hE2.out.below hbl) (by omega)
            obtain ⟨c0, c1, c2⟩ := hc i hlt
            have hmem : edAt l i ∈ l := by rw [← edAt_get hlt]; exact List.getElem_mem hlt
            have e1 := okL_mem HL.out.1 hmem
            have e2 := ht.out _ hmem
            have s1 := sumE_snoc l i hlt
            have s2 := touchE_snoc l i hlt
            obtain ⟨y, hy⟩ : ∃ y, edAt l i = y := ⟨_, rfl⟩
            rw [hy] at c0 c1 c2 e1 e2 s1 s2
            obtain ⟨xa, xl, xt⟩ := y
            unfold badE at e1
            simp only at c0 c1 c2 e1 e2 s1 s2
            obtain ⟨u, hu⟩ : ∃ u, sumE (l.take i) = u := ⟨_, rfl⟩
            obtain ⟨v, hv⟩ : ∃ v, touchE (l.take i) = v := ⟨_, rfl⟩
            rw [hu] at b1 b2 s1 ⊢
            rw [hv] at b3 b4 s2 ⊢
            rw [max_if] at s2
            clear hc hbl hy hmem h hu hv
            by_cases hmx : (xt.size : Int) < xl
            all_goals
              first | rw [if_pos hmx] at s2 | rw [if_neg hmx] at s2
              replace s1 := Lib.hid s1
              replace s2 := Lib.hid s2
              go_wp2_with fail
              go_roundg (l.length - (i + 1))
              case measure => go_light; omega
              case rel =>
                go_light
                have t1 := s1.out
                have t2 := s2.out
                refine ⟨i + 1, by omega, by omega, by go_num, ?_, ?_, HB.out.alloc HB.out.size _, by omega, by omega, by omega, by omega⟩
                · rw [t1]; congr 1; omega
                · rw [t2]
          · have hi' : i = l.length := by omega
            subst hi'
            rw [List.take_length] at b1 b2 b3 b4 ⊢
            have z1 := Lib.hid HL.out.2.1
            have z2 := HL.out.2.2
            obtain ⟨u, hu⟩ : ∃ u, sumE l = u := ⟨_, rfl⟩
            obtain ⟨v, hv⟩ : ∃ v, touchE l = v := ⟨_, rfl⟩
            rw [hu] at b1 b2 z1 ⊢
            rw [hv] at b3 b4 z2 ⊢
            rw [← z1.out]
            obtain ⟨d, hdd⟩ : ∃ d, levS a s = d := ⟨_, rfl⟩
            rw [hdd] at z2 hd
            clear hbl h hu hv hdd z1
            go_wp2_with fail
            refine (hd.out _ (by omega) (by omega)).mono ?_
            rintro e w4 ⟨rfl, hB4⟩
            go_wp2_with fail
            refine (haw.out _).mono ?_
            rintro e w5 ⟨rfl, hB5⟩
            go_wp2_with fail
            go_ret
            exact ⟨rfl, bst (bst (bst hB12.out HB.out) hB4) hB5⟩
    · go_enter Try.func8, Try.ntmps8
      go_wp2_with fail
      refine hcf.out.mono ?_
      rintro e w1 ⟨rfl, hB1⟩
      go_wp2_with fail
      refine (haw.out _).mono ?_
      rintro e w5 ⟨rfl, hB5⟩
      go_wp2_with fail
      go_ret
      exact ⟨rfl, bst hB1 hB5⟩
  · have hcase : (decide ((12 : Int) < (a.size : Int)) = true) ∨ (decide ((12 : Int) < (a.size : Int)) = false ∧ decide ((6 : Int) < (l.length : Int)) = true) := by
      simp only [decide_eq_true_eq, decide_eq_false_iff_not]; omega
    clear h12
    rcases hcase with h1 | ⟨h1, h2⟩
    all_goals
      go_enter Try.func8, Try.ntmps8
      go_wp2_with fail
      refine (haw.out _).mono ?_
      rintro e w5 ⟨rfl, hB5⟩
      go_wp2_with fail
      go_ret
      exact ⟨rfl, hB5⟩
end Go.Proofs.Ytmmcdncaiedmgaa
