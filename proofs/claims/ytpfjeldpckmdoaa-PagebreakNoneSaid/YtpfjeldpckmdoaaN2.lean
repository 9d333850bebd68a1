import Derived.Test.YtpfjeldpckmdoaaR
import Derived.Test.YtpfjeldpckmdoaaY
import Derived.Test.YtpfjeldpckmdoaaZ
set_option linter.unusedVariables false
set_option linter.unusedSimpArgs false
namespace Go.Proofs.Ytpfjeldpckmdoaa
open Go.RowKit
set_option maxHeartbeats 8000000 in
set_option maxRecDepth 100000 in
theorem none_walk (haw : Awake) (A1 A2 A3 : Option Addr) (c1 c2 c3 : Nat) (p : PP) (m : Nat) (hm : m ≤ 65535) (w : World) (h : PIn w w.heap.size A1 A2 A3 p) (hf : Fits p) :
    Calls Try.prog 6 #[.agg #[.slice A1 p.lines.length c1, .slice A2 p.notes.length c2, .slice A3 p.pens.length c3, .int .i64 p.hh, .int .i64 p.gap], .int .u16 m] w fun e w' => e = .returned (.bool true) ∧ Below w.heap.size w w' := by
  have hB1 : Below w.heap.size w (w.alloc (.cells #[.slice A1 p.lines.length c1, .slice A2 p.notes.length c2, .slice A3 p.pens.length c3, .int .i64 p.hh, .int .i64 p.gap] 25)) := (Below.refl _ _).alloc (Nat.le_refl _) _
  have hX := Lib.hid (Box.new (c1 := c1) (c2 := c2) (c3 := c3) h)
  have hpl : p.n = p.lines.length := rfl
  replace hB1 := Lib.hid hB1
  replace hpl := Lib.hid hpl
  replace haw := Lib.hid haw
  clear h
  go_enter Try.func6, Try.ntmps6
  go_wp2_with fail
  refine (fine_any A1 A2 A3 c1 c2 c3 p _ hX.out.pin hf).mono ?_
  rintro e w2 ⟨⟨r, rfl, hr⟩, hB2⟩
  have hX2 := Lib.hid (hX.out.next hB2)
  have hY2 := Lib.hid (bst hB1.out hB2)
  clear hB2 hX hB1 hf
  cases r
  · clear hr
    go_wp2_with fail
    refine (haw.out _).mono ?_
    rintro e w9 ⟨rfl, hB9⟩
    go_wp2_with fail
    go_ret
    exact ⟨rfl, bst hY2.out hB9⟩
  · obtain ⟨hn, hv⟩ := hr.1 rfl
    have hnl : p.lines.length ≤ 10 := hn
    have hs := Lib.hid (notGreat_small (val_notGreat hv) hn)
    have hl3 := Lib.hid hv.l3
    clear hr
    replace hv := Lib.hid hv
    obtain ⟨lt, x0, x1, x2, x3, x4, pin⟩ := hX2.out
    replace pin := Lib.hid pin
    go_wp2_with fail
    refine (break_any A1 A2 A3 c1 c2 c3 p _ pin.out hs.out hv.out hn).mono ?_
    rintro e w3 ⟨hB3, hcase⟩
    have hX3 := Lib.hid (hX2.out.next hB3)
    have hY3 := Lib.hid (bst hY2.out hB3)
    clear hB3 hX2 hY2 x0 x1 x2 x3 x4 pin lt
    obtain ⟨lt, x0, x1, x2, x3, x4, pin⟩ := hX3.out
    replace pin := Lib.hid pin
    obtain ⟨gg, hgg⟩ : ∃ g, w.heap.size = g := ⟨_, rfl⟩
    simp only [hgg] at x0 x1 x2 x3 x4 lt ⊢
    replace hgg := Lib.hid hgg
    rcases hcase with ⟨hp0, v, rfl, hV⟩ | ⟨hp0, rfl⟩
    · clear hV
      replace hp0 := Lib.hid hp0
      go_wp2_with fail
      refine (choose_any p.lines.length m hnl hm _).mono ?_
      rintro e w4 ⟨L, vL, rfl, hu, hown, hB4⟩
      obtain ⟨A, c, rfl, hA⟩ := intsV_own hown
      rw [List.length_map]
      have hX4 := Lib.hid (hX3.out.next hB4)
      have hY4 := Lib.hid (bst hY3.out hB4)
      have hca := Lib.hid (cost_any A1 A2 A3 c1 c2 c3 p L A c w4 hX4.out.pin hv.out hn hA hu)
      have hpc := ptl_cost hv.out (a := 0) hu
      clear hB4 hX3 hY3 x0 x1 x2 x3 x4 pin lt hown hA hu
      obtain ⟨lt, x0, x1, x2, x3, x4, pin⟩ := hX4.out
      simp only [hgg.out] at x0 x1 x2 x3 x4 lt
      obtain ⟨cx, hcx⟩ : ∃ x, (costF p 0 0 L).1 = x := ⟨_, rfl⟩
      obtain ⟨cq, hcq⟩ : ∃ x, (costF p 0 0 L).2 = x := ⟨_, rfl⟩
      rw [hcx, hcq] at hca
      rw [hcq] at hpc
      clear hcx hcq hpc pin
      go_wp2_with fail
      refine hca.out.mono ?_
      rintro e w5 ⟨rfl, hB5⟩
      have hX5 := Lib.hid (hX4.out.next hB5)
      have hY5 := Lib.hid (bst hY4.out hB5)
      clear hB5 hX4 hY4 x0 x1 x2 x3 x4 lt hca
      obtain ⟨lt, x0, x1, x2, x3, x4, pin⟩ := hX5.out
      simp only [hgg.out] at x0 x1 x2 x3 x4 lt
      clear pin
      go_wp2_with fail
      go_loopg [44] p.lines.length (fun g s44 wr => ∃ i : Nat, i ≤ p.lines.length ∧ g = p.lines.length - i ∧ s44 = .int .i64 i ∧ Below w5.heap.size w5 wr ∧ ∀ k, k < i → hgt p k (k + 1) ≤ p.hh)
      case atStart => exact ⟨0, by omega, by omega, rfl, Below.refl _ _, fun k hk => absurd hk (Nat.not_lt_zero _)⟩
      case round =>
        obtain ⟨i, hi, hg, rfl, hBr, hok⟩ := hrel
        have hXr := Lib.hid (hX5.out.next hBr)
        replace hBr := Lib.hid hBr
        clear x0 x1 x2 x3 x4 lt
        obtain ⟨lt, x0, x1, x2, x3, x4, pin⟩ := hXr.out
        simp only [hgg.out] at x0 x1 x2 x3 x4 lt
        by_cases hlt : i < p.lines.length
        · have hltz : (i : Int) < (p.lines.length : Int) := by omega
          have hH := Lib.hid (Height_any A1 A2 A3 c1 c2 c3 p _ pin hv.out hn i (i + 1) (by omega) (by have := hpl.out; omega))
          have ec : ((i + 1 : Nat) : Int) = (i : Int) + 1 := by omega
          rw [ec] at hH
          have hphi := fun e => ptl_high hv.out (i := i) (by have := hpl.out; omega) e (d := i) (t := 0) (by omega)
          have hstep : hgt p i (i + 1) ≤ p.hh → ∀ k, k < i + 1 → hgt p k (k + 1) ≤ p.hh := fun e k hk => by
            by_cases ek : k = i
            · subst ek; exact e
            · exact hok k (by omega)
          obtain ⟨H, hHe⟩ : ∃ x, hgt p i (i + 1) = x := ⟨_, rfl⟩
          rw [hHe] at hH hphi hstep
          replace hstep := Lib.hid hstep
          clear hHe ec hok pin
          by_cases hh : H ≤ p.hh
          · have hd : decide (p.hh < H) = false := by rw [decide_eq_false_iff_not]; omega
            have hS := Lib.hid (hstep.out hh)
            clear hphi hstep
            go_wp2_with fail
            refine hH.out.mono ?_
            rintro e w6 ⟨rfl, hB6⟩
            have hx3 := (hXr.out.next hB6).x3
            simp only [hgg.out] at hx3
            have hZ := Lib.hid (bst hBr.out hB6)
            clear hB6 x0 x1 x2 x3 x4
            go_wp2_with fail
            go_roundg (p.lines.length - (i + 1))
            case measure => go_light; omega
            case rel =>
              go_light
              exact ⟨i + 1, by omega, by omega, by go_num, hZ.out, hS.out⟩
          · exact absurd (hphi (by omega)) (by have := hp0.out; omega)
        · have hin : i = p.lines.length := by omega
          subst hin
          clear hok pin
          go_wp2_with fail
          refine (haw.out _).mono ?_
          rintro e w9 ⟨rfl, hB9⟩
          go_wp2_with fail
          go_ret
          go_light
          exact ⟨rfl, bst hY5.out (bst hBr.out hB9)⟩
    · clear hs
      replace hp0 := Lib.hid hp0
      go_wp2_with fail
      refine (choose_any p.lines.length m hnl hm _).mono ?_
      rintro e w4 ⟨L, vL, rfl, hu, hown, hB4⟩
      obtain ⟨A, c, rfl, hA⟩ := intsV_own hown
      rw [List.length_map]
      have hX4 := Lib.hid (hX3.out.next hB4)
      have hY4 := Lib.hid (bst hY3.out hB4)
      have hca := Lib.hid (cost_any A1 A2 A3 c1 c2 c3 p L A c w4 hX4.out.pin hv.out hn hA hu)
      have hpc := ptl_cost hv.out (a := 0) hu
      clear hB4 hX3 hY3 x0 x1 x2 x3 x4 pin lt hown hA hu
      obtain ⟨lt, x0, x1, x2, x3, x4, pin⟩ := hX4.out
      simp only [hgg.out] at x0 x1 x2 x3 x4 lt
      obtain ⟨cx, hcx⟩ : ∃ x, (costF p 0 0 L).1 = x := ⟨_, rfl⟩
      obtain ⟨cq, hcq⟩ : ∃ x, (costF p 0 0 L).2 = x := ⟨_, rfl⟩
      rw [hcx, hcq] at hca
      rw [hcq] at hpc
      have hq0 : ((cq : Int) == 0) = false := by
        rw [beq_eq_false_iff_ne]
        intro e
        have := hpc (by omega)
        have := hp0.out
        omega
      clear hcx hcq hpc pin
      go_wp2_with fail
      refine hca.out.mono ?_
      rintro e w5 ⟨rfl, hB5⟩
      have hX5 := Lib.hid (hX4.out.next hB5)
      have hY5 := Lib.hid (bst hY4.out hB5)
      clear hB5 hX4 hY4 x0 x1 x2 x3 x4 lt hca
      obtain ⟨lt, x0, x1, x2, x3, x4, pin⟩ := hX5.out
      simp only [hgg.out] at x0 x1 x2 x3 x4 lt
      clear pin
      go_wp2_with fail
      go_loopg [44] p.lines.length (fun g s44 wr => ∃ i : Nat, i ≤ p.lines.length ∧ g = p.lines.length - i ∧ s44 = .int .i64 i ∧ Below w5.heap.size w5 wr ∧ ∀ k, k < i → hgt p k (k + 1) ≤ p.hh)
      case atStart => exact ⟨0, by omega, by omega, rfl, Below.refl _ _, fun k hk => absurd hk (Nat.not_lt_zero _)⟩
      case round =>
        obtain ⟨i, hi, hg, rfl, hBr, hok⟩ := hrel
        have hXr := Lib.hid (hX5.out.next hBr)
        replace hBr := Lib.hid hBr
        clear x0 x1 x2 x3 x4 lt
        obtain ⟨lt, x0, x1, x2, x3, x4, pin⟩ := hXr.out
        simp only [hgg.out] at x0 x1 x2 x3 x4 lt
        by_cases hlt : i < p.lines.length
        · have hltz : (i : Int) < (p.lines.length : Int) := by omega
          have hH := Lib.hid (Height_any A1 A2 A3 c1 c2 c3 p _ pin hv.out hn i (i + 1) (by omega) (by have := hpl.out; omega))
          have ec : ((i + 1 : Nat) : Int) = (i : Int) + 1 := by omega
          rw [ec] at hH
          have hphi := fun e => ptl_high hv.out (i := i) (by have := hpl.out; omega) e (d := i) (t := 0) (by omega)
          have hstep : hgt p i (i + 1) ≤ p.hh → ∀ k, k < i + 1 → hgt p k (k + 1) ≤ p.hh := fun e k hk => by
            by_cases ek : k = i
            · subst ek; exact e
            · exact hok k (by omega)
          obtain ⟨H, hHe⟩ : ∃ x, hgt p i (i + 1) = x := ⟨_, rfl⟩
          rw [hHe] at hH hphi hstep
          replace hstep := Lib.hid hstep
          clear hHe ec hok pin
          by_cases hh : H ≤ p.hh
          · have hd : decide (p.hh < H) = false := by rw [decide_eq_false_iff_not]; omega
            have hS := Lib.hid (hstep.out hh)
            clear hphi hstep
            go_wp2_with fail
            refine hH.out.mono ?_
            rintro e w6 ⟨rfl, hB6⟩
            have hx3 := (hXr.out.next hB6).x3
            simp only [hgg.out] at hx3
            have hZ := Lib.hid (bst hBr.out hB6)
            clear hB6 x0 x1 x2 x3 x4
            go_wp2_with fail
            go_roundg (p.lines.length - (i + 1))
            case measure => go_light; omega
            case rel =>
              go_light
              exact ⟨i + 1, by omega, by omega, by go_num, hZ.out, hS.out⟩
          · have hd : decide (p.hh < H) = true := by rw [decide_eq_true_iff]; omega
            clear hphi hstep
            go_wp2_with fail
            refine hH.out.mono ?_
            rintro e w6 ⟨rfl, hB6⟩
            have hx3 := (hXr.out.next hB6).x3
            simp only [hgg.out] at hx3
            have hZ := Lib.hid (bst hBr.out hB6)
            clear hB6 x0 x1 x2 x3 x4
            go_wp2_with fail
            refine (haw.out _).mono ?_
            rintro e w9 ⟨rfl, hB9⟩
            go_wp2_with fail
            go_ret
            go_light
            exact ⟨rfl, bst hY5.out (bst hZ.out hB9)⟩
        · have hin : i = p.lines.length := by omega
          subst hin
          have hex : ∃ i, i < p.pens.length ∧ p.pens.getD i 0 = 10000 := by
            apply Classical.byContradiction
            intro hno
            have := ptl_low hv.out (fun i hi => hok i hi) (fun i hi e => hno ⟨i, by have := hl3.out; omega, e⟩) (d := p.n) (t := 0) (by omega)
            have := hp0.out
            omega
          have hcn := Lib.hid (contains_any A3 c3 p.pens 10000 _ _ pin.i3 (by have := hl3.out; have := hpl.out; omega) hex)
          clear hok pin hex
          go_wp2_with fail
          refine hcn.out.mono ?_
          rintro e w8 ⟨rfl, rfl⟩
          go_wp2_with fail
          refine (haw.out _).mono ?_
          rintro e w9 ⟨rfl, hB9⟩
          go_wp2_with fail
          go_ret
          go_light
          exact ⟨rfl, bst hY5.out (bst hBr.out hB9)⟩
end Go.Proofs.Ytpfjeldpckmdoaa
