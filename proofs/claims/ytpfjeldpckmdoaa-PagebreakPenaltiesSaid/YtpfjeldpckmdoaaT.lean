import Derived.Test.YtpfjeldpckmdoaaI
import Derived.Test.YtpfjeldpckmdoaaX
set_option linter.unusedVariables false
set_option linter.unusedSimpArgs false
namespace Go.Proofs.Ytpfjeldpckmdoaa
open Go.RowKit
/-- the problem has up to 10 lines, and rows that are not too large: `Great` says no -/
def notGreat (p : PP) : Prop := p.notes.length ≤ p.lines.length + 2 ∧ p.pens.length ≤ p.lines.length + 2 ∧ ∀ i, i < p.notes.length → (p.notes.getD i []).length ≤ 18
def GrtPost (p : PP) (w : World) (e : Ending) (w' : World) : Prop := (∃ r : Bool, e = .returned (.bool r) ∧ (r = false ↔ notGreat p)) ∧ Below w.heap.size w w'
set_option maxHeartbeats 8000000 in
set_option maxRecDepth 100000 in
theorem great_any (A1 A2 A3 : Option Addr) (c1 c2 c3 : Nat) (p : PP) (w : World) (h : PIn w w.heap.size A1 A2 A3 p) (hf : Fits p) (hn : p.lines.length ≤ 10) :
    Calls Try.prog 15 #[.agg #[.slice A1 p.lines.length c1, .slice A2 p.notes.length c2, .slice A3 p.pens.length c3, .int .i64 p.hh, .int .i64 p.gap], .int .i64 10] w (GrtPost p w) := by
  have f2 := hf.f2
  have f3 := hf.f3
  have hB1 : Below w.heap.size w (w.alloc (.cells #[.slice A1 p.lines.length c1, .slice A2 p.notes.length c2, .slice A3 p.pens.length c3, .int .i64 p.hh, .int .i64 p.gap] 25)) := (Below.refl _ _).alloc (Nat.le_refl _) _
  have hX := Lib.hid (Box.new (c1 := c1) (c2 := c2) (c3 := c3) h)
  have g1 : decide ((10 : Int) < (p.lines.length : Int)) = false := by rw [decide_eq_false_iff_not]; omega
  have g2 : decide ((4098 : Int) < (p.lines.length : Int)) = false := by rw [decide_eq_false_iff_not]; omega
  have g1' : decide (10 < p.lines.length) = false := by rw [decide_eq_false_iff_not]; omega
  have g2' : decide (4098 < p.lines.length) = false := by rw [decide_eq_false_iff_not]; omega
  replace hB1 := Lib.hid hB1
  have f4 := Lib.hid hf.f4
  clear h hf
  by_cases e2 : p.notes.length ≤ p.lines.length + 2
  · have g3 : decide ((p.lines.length : Int) + 2 < (p.notes.length : Int)) = false := by rw [decide_eq_false_iff_not]; omega
    have g3' : decide (p.lines.length + 2 < p.notes.length) = false := by rw [decide_eq_false_iff_not]; omega
    by_cases e3 : p.pens.length ≤ p.lines.length + 2
    · have g4 : decide ((p.lines.length : Int) + 2 < (p.pens.length : Int)) = false := by rw [decide_eq_false_iff_not]; omega
      have g4' : decide (p.lines.length + 2 < p.pens.length) = false := by rw [decide_eq_false_iff_not]; omega
      go_enter Try.func15, Try.ntmps15
      go_wp2_with fail
      obtain ⟨W1, hW1⟩ : ∃ W, w.alloc (.cells #[.slice A1 p.lines.length c1, .slice A2 p.notes.length c2, .slice A3 p.pens.length c3, .int .i64 p.hh, .int .i64 p.gap] 25) = W := ⟨_, rfl⟩
      obtain ⟨g, hg⟩ : ∃ g, w.heap.size = g := ⟨_, rfl⟩
      rw [hW1] at hB1
      rw [hW1, hg] at hX
      simp only [hW1, hg]
      obtain ⟨lt, x0, x1, x2, x3, x4, pin⟩ := hX.out
      replace pin := Lib.hid pin
      clear hW1 hg
      go_loopg [5] p.notes.length (fun gg s5 wr => ∃ i : Nat, i ≤ p.notes.length ∧ gg = p.notes.length - i ∧ s5 = .int .i64 i ∧ wr = W1 ∧ ∀ j, j < i → (p.notes.getD j []).length ≤ 18)
      case atStart => exact ⟨0, by omega, by omega, rfl, rfl, fun j hj => absurd hj (Nat.not_lt_zero _)⟩
      case round =>
        obtain ⟨i, hi, hgg, rfl, rfl, hno⟩ := hrel
        by_cases hlt : i < p.notes.length
        · have hltz : (i : Int) < (p.notes.length : Int) := by omega
          obtain ⟨b, o, rfl, hb, hc⟩ := pin.out.i2 (by omega)
          obtain ⟨v, d1, A', c', rfl, hI⟩ := hc i hlt
          have hstep : (p.notes.getD i []).length ≤ 18 → ∀ j, j < i + 1 → (p.notes.getD j []).length ≤ 18 := fun e j hj => by
            by_cases ej : j = i
            · subst ej; exact e
            · exact hno j (by omega)
          have hbad : 18 < (p.notes.getD i []).length → ¬ notGreat p := fun e h => by have := h.2.2 i hlt; omega
          have hml := f4.out i hlt
          have HH := Lib.hid (And.intro hstep hbad)
          clear hstep hbad
          obtain ⟨m, hm⟩ : ∃ m, (p.notes.getD i []).length = m := ⟨_, rfl⟩
          rw [hm] at d1 HH hml
          clear hno hm hc hI
          by_cases hq : m ≤ 18
          · have hd : decide ((18 : Int) < (m : Int)) = false := by rw [decide_eq_false_iff_not]; omega
            have hm := Lib.hid (HH.out.1 hq)
            go_wp2_with fail
            go_roundg (p.notes.length - (i + 1))
            case measure => go_light; omega
            case rel =>
              go_light
              exact ⟨i + 1, by omega, by omega, by go_num, rfl, hm.out⟩
          · have hd : decide ((18 : Int) < (m : Int)) = true := by rw [decide_eq_true_iff]; omega
            have hm := Lib.hid (HH.out.2 (by omega))
            go_wp2_with fail
            go_ret
            go_light
            exact ⟨⟨true, rfl, by simp [hm.out]⟩, hB1.out⟩
        · have hi' : i = p.notes.length := by omega
          subst hi'
          have hng : Hid (notGreat p) := Lib.hid ⟨e2, e3, hno⟩
          clear hno
          go_wp2_with fail
          go_ret
          go_light
          exact ⟨⟨false, rfl, by simp [hng.out]⟩, hB1.out⟩
    · have g4 : decide ((p.lines.length : Int) + 2 < (p.pens.length : Int)) = true := by rw [decide_eq_true_iff]; omega
      have g4' : decide (p.lines.length + 2 < p.pens.length) = true := by rw [decide_eq_true_iff]; omega
      have hng : Hid (¬ notGreat p) := Lib.hid fun h => e3 h.2.1
      go_enter Try.func15, Try.ntmps15
      go_wp2_with fail
      go_ret
      exact ⟨⟨true, rfl, by simp [hng.out]⟩, hB1.out⟩
  · have g3 : decide ((p.lines.length : Int) + 2 < (p.notes.length : Int)) = true := by rw [decide_eq_true_iff]; omega
    have g3' : decide (p.lines.length + 2 < p.notes.length) = true := by rw [decide_eq_true_iff]; omega
    have hng : Hid (¬ notGreat p) := Lib.hid fun h => e2 h.1
    go_enter Try.func15, Try.ntmps15
    go_wp2_with fail
    go_ret
    exact ⟨⟨true, rfl, by simp [hng.out]⟩, hB1.out⟩
theorem val_notGreat {p : PP} (h : Val p) : notGreat p := ⟨by have := h.l2; have : p.n = p.lines.length := rfl; omega, by have := h.l3; have : p.n = p.lines.length := rfl; omega, fun i hi => by
  have := h.rows i (by have := h.l2; omega)
  have := h.nb16
  omega⟩
theorem notGreat_small {p : PP} (h : notGreat p) (hn : p.lines.length ≤ 10) : Small p := ⟨hn, by have := h.1; omega, by have := h.2.1; omega, h.2.2⟩
/-- the problem is valid and has up to 10 lines -/
def Fine (p : PP) : Prop := p.n ≤ 10 ∧ Val p
def FinePost (p : PP) (w : World) (e : Ending) (w' : World) : Prop := (∃ r : Bool, e = .returned (.bool r) ∧ (r = true ↔ Fine p)) ∧ Below w.heap.size w w'
set_option maxHeartbeats 8000000 in
set_option maxRecDepth 100000 in
theorem fine_any (A1 A2 A3 : Option Addr) (c1 c2 c3 : Nat) (p : PP) (w : World) (h : PIn w w.heap.size A1 A2 A3 p) (hf : Fits p) :
    Calls Try.prog 7 #[.agg #[.slice A1 p.lines.length c1, .slice A2 p.notes.length c2, .slice A3 p.pens.length c3, .int .i64 p.hh, .int .i64 p.gap]] w (FinePost p w) := by
  have hB1 : Below w.heap.size w (w.alloc (.cells #[.slice A1 p.lines.length c1, .slice A2 p.notes.length c2, .slice A3 p.pens.length c3, .int .i64 p.hh, .int .i64 p.gap] 25)) := (Below.refl _ _).alloc (Nat.le_refl _) _
  have hX := Lib.hid (Box.new (c1 := c1) (c2 := c2) (c3 := c3) h)
  have f1 := hf.f1
  have hpn : p.n = p.lines.length := rfl
  replace hpn := Lib.hid hpn
  by_cases hn : p.lines.length ≤ 10
  · have gr := Lib.hid (fun W h => great_any A1 A2 A3 c1 c2 c3 p W h hf hn)
    have hd : decide ((p.lines.length : Int) ≤ 10) = true := by rw [decide_eq_true_iff]; omega
    have hd' : decide (p.lines.length ≤ 10) = true := by rw [decide_eq_true_iff]; omega
    replace hB1 := Lib.hid hB1
    clear h hf
    go_enter Try.func7, Try.ntmps7
    go_wp2_with fail
    refine (gr.out _ hX.out.pin).mono ?_
    rintro e w1 ⟨⟨r, rfl, hr⟩, hB⟩
    have hY := Lib.hid (bst hB1.out hB)
    have hX1 := Lib.hid (hX.out.next hB)
    obtain ⟨lt, x0, x1, x2, x3, x4, pin⟩ := hX1.out
    have hl := pin
    clear hX hB1 hB pin
    cases r
    · have hs := notGreat_small (hr.1 rfl) hn
      have ck := Lib.hid (check_any A1 A2 A3 c1 c2 c3 p w1 hl hs)
      clear hl hr hs
      go_wp2_with fail
      refine ck.out.mono ?_
      rintro e w2 ⟨⟨c, rfl, hc⟩, hB⟩
      have hZ := Lib.hid (bst hY.out hB)
      clear hY hX1 hB
      by_cases e0 : c = 0
      · have hv := Lib.hid (hc.1 e0)
        subst e0
        clear hc
        go_wp2_with fail
        go_ret
        go_light
        exact ⟨⟨true, rfl, by simp [Fine, hv.out, hpn.out, hn]⟩, hZ.out⟩
      · have hv : Hid (¬ Val p) := Lib.hid (fun h => e0 (hc.2 h))
        have hb : (c == 0) = false := by simpa using e0
        clear hc
        go_wp2_with fail
        go_ret
        go_light
        exact ⟨⟨false, rfl, by simp [Fine, hv.out]⟩, hZ.out⟩
    · have hv : Hid (¬ Val p) := Lib.hid fun h => by have := hr.2 (val_notGreat h); cases this
      clear hr hl
      go_wp2_with fail
      go_ret
      go_light
      exact ⟨⟨false, rfl, by simp [Fine, hv.out]⟩, hY.out⟩
  · have hd : decide ((p.lines.length : Int) ≤ 10) = false := by rw [decide_eq_false_iff_not]; omega
    have hd' : decide (p.lines.length ≤ 10) = false := by rw [decide_eq_false_iff_not]; omega
    have hno : Hid (¬ Fine p) := Lib.hid fun h => hn (by have := h.1; rw [hpn.out] at this; exact this)
    replace hB1 := Lib.hid hB1
    clear h hf
    go_enter Try.func7, Try.ntmps7
    go_wp2_with fail
    go_ret
    exact ⟨⟨false, rfl, by simp [hno.out]⟩, hB1.out⟩
set_option maxHeartbeats 8000000 in
set_option maxRecDepth 100000 in
theorem Height_any (A1 A2 A3 : Option Addr) (c1 c2 c3 : Nat) (p : PP) (w : World) (h : PIn w w.heap.size A1 A2 A3 p) (hv : Val p) (hn : p.n ≤ 10) (i j : Nat) (hij : i ≤ j) (hj : j ≤ p.n) :
    Calls Try.prog 9 #[.agg #[.slice A1 p.lines.length c1, .slice A2 p.notes.length c2, .slice A3 p.pens.length c3, .int .i64 p.hh, .int .i64 p.gap], .int .i64 i, .int .i64 j] w fun e w' => e = .returned (.tuple #[.int .i64 (hgt p i j), .int .i64 0]) ∧ Below w.heap.size w w' := by
  have hB1 : Below w.heap.size w (w.alloc (.cells #[.slice A1 p.lines.length c1, .slice A2 p.notes.length c2, .slice A3 p.pens.length c3, .int .i64 p.hh, .int .i64 p.gap] 25)) := (Below.refl _ _).alloc (Nat.le_refl _) _
  have hX := Lib.hid (Box.new (c1 := c1) (c2 := c2) (c3 := c3) h)
  have hs := Lib.hid (notGreat_small (val_notGreat hv) hn)
  have hpl : p.n = p.lines.length := rfl
  have g1 : decide ((j : Int) < (i : Int)) = false := by rw [decide_eq_false_iff_not]; omega
  have g1' : decide (j < i) = false := by rw [decide_eq_false_iff_not]; omega
  have g2 : decide ((p.lines.length : Int) < (j : Int)) = false := by rw [decide_eq_false_iff_not]; omega
  have g2' : decide (p.lines.length < j) = false := by rw [decide_eq_false_iff_not]; omega
  have g0 : decide ((i : Int) < 0) = false := by rw [decide_eq_false_iff_not]; omega
  replace hB1 := Lib.hid hB1
  replace hv := Lib.hid hv
  replace hpl := Lib.hid hpl
  clear h
  go_enter Try.func9, Try.ntmps9
  go_wp2_with fail
  refine (check_any A1 A2 A3 c1 c2 c3 p _ hX.out.pin hs.out).mono ?_
  rintro e w2 ⟨⟨c, rfl, hc⟩, hB2⟩
  obtain rfl : c = 0 := hc.2 hv.out
  clear hc
  have hX2 := Lib.hid (hX.out.next hB2)
  have hY2 := Lib.hid (bst hB1.out hB2)
  clear hB2 hX hB1
  obtain ⟨lt, x0, x1, x2, x3, x4, pin⟩ := hX2.out
  replace pin := Lib.hid pin
  go_wp2_with fail
  refine (newsums_any A1 A2 A3 c1 c2 c3 p _ pin.out hv.out hn).mono ?_
  rintro e w3 ⟨S, rfl, hS3, hB3⟩
  have hY3 := Lib.hid (bst hY2.out hB3)
  replace hS3 := Lib.hid hS3
  clear hB3 hX2 hY2 x0 x1 x2 x3 x4 pin lt
  go_wp2_with fail
  refine (height_any p S i j _ hS3.out hv.out hn hij hj).mono ?_
  rintro e w4 ⟨rfl, hB4⟩
  have hY4 := Lib.hid (bst hY3.out hB4)
  clear hB4
  go_wp2_with fail
  go_ret2
  exact ⟨rfl, hY4.out⟩
end Go.Proofs.Ytpfjeldpckmdoaa
