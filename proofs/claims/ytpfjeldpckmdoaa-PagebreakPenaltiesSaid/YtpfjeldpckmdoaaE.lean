import Derived.Test.YtpfjeldpckmdoaaD
import Derived.Laws.EntriesVeiled
set_option linter.unusedVariables false
set_option linter.unusedSimpArgs false
namespace Go.Proofs.Ytpfjeldpckmdoaa
open Go.RowKit
/-- the numbers of a page problem are in their ranges -/
def okNum (p : PP) : Prop := p.lines.any badL = false ∧ p.notes.any (fun l => l.any badL) = false ∧ p.pens.any badP = false ∧ 1 ≤ p.hh ∧ badL p.hh = false ∧ badL p.gap = false
theorem badL_rng {x : Int} : badL x = false ↔ rng x := by
  unfold badL lenB rng
  simp
theorem any_getD {l : List Int} {q : Int → Bool} : l.any q = false ↔ ∀ i, i < l.length → q (l.getD i 0) = false := by
  rw [List.any_eq_false]
  constructor
  · intro h i hi
    have := h (l.getD i 0) (by rw [List.getD_eq_getElem?_getD, List.getElem?_eq_getElem hi]; exact List.getElem_mem hi)
    simpa using this
  · intro h x hx
    obtain ⟨i, hi, rfl⟩ := List.getElem_of_mem hx
    have := h i hi
    rw [List.getD_eq_getElem?_getD, List.getElem?_eq_getElem hi] at this
    simpa using this
theorem any_getDr {L : List (List Int)} {q : List Int → Bool} : L.any q = false ↔ ∀ i, i < L.length → q (L.getD i []) = false := by
  rw [List.any_eq_false]
  constructor
  · intro h i hi
    have := h (L.getD i []) (by rw [List.getD_eq_getElem?_getD, List.getElem?_eq_getElem hi]; exact List.getElem_mem hi)
    simpa using this
  · intro h x hx
    obtain ⟨i, hi, rfl⟩ := List.getElem_of_mem hx
    have := h i hi
    rw [List.getD_eq_getElem?_getD, List.getElem?_eq_getElem hi] at this
    simpa using this
/-- the shape of a page problem -/
structure Shp (p : PP) : Prop where
  l2 : p.notes.length = p.lines.length
  l3 : p.pens.length = p.lines.length
  rows : ∀ i, i < p.notes.length → (p.notes.getD i []).length = (p.notes.getD 0 []).length
  blk : 0 < p.notes.length → (p.notes.getD 0 []).length ≤ 16
theorem val_iff (p : PP) : Val p ↔ Shp p ∧ okNum p := by
  constructor
  · intro h
    refine ⟨⟨h.l2, h.l3, fun i hi => h.rows i (by have := h.l2; omega), fun h0 => h.blk (by have := h.l2; omega)⟩, any_getD.2 fun i hi => badL_rng.2 (h.lr i hi), any_getDr.2 fun i hi => any_getD.2 fun b hb => badL_rng.2 (h.nr i b (by have := h.l2; omega) (by rw [← h.rows i (by have := h.l2; omega)]; exact hb)), any_getD.2 fun i hi => ?_, h.hr.1, badL_rng.2 ⟨by have := h.hr; omega, h.hr.2⟩, badL_rng.2 h.gr⟩
    have := h.pr i (by have := h.l3; omega)
    unfold PP.pn at this
    unfold badP
    simp only [Bool.or_eq_false_iff, decide_eq_false_iff_not]
    omega
  · rintro ⟨⟨l2, l3, rows, blk⟩, h1, h2, h3, h4, h5, h6⟩
    refine ⟨l2, l3, fun i hi => rows i (by rw [l2]; exact hi), fun h0 => blk (by rw [l2]; exact h0), fun i hi => badL_rng.1 (any_getD.1 h1 i hi), fun i b hi hb => badL_rng.1 (any_getD.1 (any_getDr.1 h2 i (by rw [l2]; exact hi)) b (by rw [rows i (by rw [l2]; exact hi)]; exact hb)), fun i hi => ?_, ⟨h4, (badL_rng.1 h5).2⟩, badL_rng.1 h6⟩
    have := any_getD.1 h3 i (by rw [l3]; exact hi)
    unfold badP at this
    simp only [Bool.or_eq_false_iff, decide_eq_false_iff_not] at this
    unfold PP.pn
    omega
def ChkPost (p : PP) (w : World) (e : Ending) (w' : World) : Prop := (∃ c : Int, e = .returned (.int .i64 c) ∧ (c = 0 ↔ Val p)) ∧ Below w.heap.size w w'
/-- a page problem that is not too large -/
structure Small (p : PP) : Prop where
  s1 : p.lines.length ≤ 10
  s2 : p.notes.length ≤ 12
  s3 : p.pens.length ≤ 12
  s4 : ∀ i, i < p.notes.length → (p.notes.getD i []).length ≤ 18
/-- block `g` holds a page problem -/
structure Box (W : World) (g : Nat) (A1 A2 A3 : Option Addr) (c1 c2 c3 : Nat) (p : PP) : Prop where
  lt : g < W.heap.size
  x0 : W.cell? ⟨g, 0, none⟩ = some (.slice A1 p.lines.length c1)
  x1 : W.cell? ⟨g, 1, none⟩ = some (.slice A2 p.notes.length c2)
  x2 : W.cell? ⟨g, 2, none⟩ = some (.slice A3 p.pens.length c3)
  x3 : W.cell? ⟨g, 3, none⟩ = some (.int .i64 p.hh)
  x4 : W.cell? ⟨g, 4, none⟩ = some (.int .i64 p.gap)
  pin : PIn W W.heap.size A1 A2 A3 p
theorem Box.next {W W' : World} {g : Nat} {A1 A2 A3 : Option Addr} {c1 c2 c3 : Nat} {p : PP} (h : Box W g A1 A2 A3 c1 c2 c3 p) (hb : Below W.heap.size W W') : Box W' g A1 A2 A3 c1 c2 c3 p :=
  ⟨by have := hb.size; have := h.lt; omega, (hb.cell (p := ⟨g, 0, none⟩) h.lt).trans h.x0, (hb.cell (p := ⟨g, 1, none⟩) h.lt).trans h.x1, (hb.cell (p := ⟨g, 2, none⟩) h.lt).trans h.x2, (hb.cell (p := ⟨g, 3, none⟩) h.lt).trans h.x3, (hb.cell (p := ⟨g, 4, none⟩) h.lt).trans h.x4, h.pin.next hb⟩
theorem Box.new {w : World} {A1 A2 A3 : Option Addr} {c1 c2 c3 : Nat} {p : PP} (h : PIn w w.heap.size A1 A2 A3 p) :
    Box (w.alloc (.cells #[.slice A1 p.lines.length c1, .slice A2 p.notes.length c2, .slice A3 p.pens.length c3, .int .i64 p.hh, .int .i64 p.gap] 25)) w.heap.size A1 A2 A3 c1 c2 c3 p :=
  ⟨by simp, by rw [World.cell?_alloc_new]; rfl, by rw [World.cell?_alloc_new]; rfl, by rw [World.cell?_alloc_new]; rfl, by rw [World.cell?_alloc_new]; rfl, by rw [World.cell?_alloc_new]; rfl, h.next ((Below.refl _ _).alloc (Nat.le_refl _) _)⟩
/-- the first row, where there is one -/
def RowV (W : World) (b o i : Nat) (L : List (List Int)) : Prop := ∃ v, W.cell? ⟨b, o + i, none⟩ = some v ∧ IntsV W W.heap.size v (L.getD i [])
set_option maxHeartbeats 8000000 in
set_option maxRecDepth 100000 in
theorem check_any (A1 A2 A3 : Option Addr) (c1 c2 c3 : Nat) (p : PP) (w : World) (h : PIn w w.heap.size A1 A2 A3 p) (hs : Small p) :
    Calls Try.prog 16 #[.agg #[.slice A1 p.lines.length c1, .slice A2 p.notes.length c2, .slice A3 p.pens.length c3, .int .i64 p.hh, .int .i64 p.gap]] w (ChkPost p w) := by
  have hv := val_iff p
  have b1 := hs.s1
  have b2 := hs.s2
  have b3 := hs.s3
  have b4 := Lib.hid hs.s4
  have g0 : decide ((4096 : Int) < (p.lines.length : Int)) = false := by simp; omega
  have hB1 : Below w.heap.size w (w.alloc (.cells #[.slice A1 p.lines.length c1, .slice A2 p.notes.length c2, .slice A3 p.pens.length c3, .int .i64 p.hh, .int .i64 p.gap] 25)) := (Below.refl _ _).alloc (Nat.le_refl _) _
  have hX := Box.new (c1 := c1) (c2 := c2) (c3 := c3) h
  replace hv := Lib.hid hv
  clear h hs
  by_cases e2 : p.notes.length = p.lines.length
  · by_cases e3 : p.pens.length = p.lines.length
    · have g2 : ((p.notes.length : Int) != (p.lines.length : Int)) = false := by simp; omega
      have g3 : ((p.pens.length : Int) != (p.lines.length : Int)) = false := by simp; omega
      have hE := Lib.hid (And.intro e2 e3)
      clear e2 e3
      replace hX := Lib.hid hX
      replace hB1 := Lib.hid hB1
      go_enter Try.func16, Try.ntmps16
      go_wp2_with fail
      obtain ⟨W1, hW1⟩ : ∃ W, w.alloc (.cells #[.slice A1 p.lines.length c1, .slice A2 p.notes.length c2, .slice A3 p.pens.length c3, .int .i64 p.hh, .int .i64 p.gap] 25) = W := ⟨_, rfl⟩
      obtain ⟨g, hg⟩ : ∃ g, w.heap.size = g := ⟨_, rfl⟩
      rw [hW1, hg] at hX hB1
      simp only [hW1, hg]
      obtain ⟨lt, x0, x1, x2, x3, x4, pin⟩ := hX.out
      replace pin := Lib.hid pin
      have HG := Lib.hid hg
      clear hW1 hg
      go_loopg [29] (p.notes.length) (fun gg s29 wr => ∃ i : Nat, i ≤ p.notes.length ∧ gg = p.notes.length - i ∧ s29 = .int .i64 i ∧ wr = W1 ∧ ∀ j, j < i → (p.notes.getD j []).length = (p.notes.getD 0 []).length)
      case atStart => exact ⟨0, by omega, by omega, rfl, rfl, fun j hj => absurd hj (Nat.not_lt_zero _)⟩
      case round =>
        obtain ⟨i, hi, hgg, rfl, rfl, hno⟩ := hrel
        by_cases hlt : i < p.notes.length
        · have hltz : (i : Int) < (p.notes.length : Int) := by omega
          have hz : (0 : Int) < (p.notes.length : Int) := by omega
          obtain ⟨b, o, rfl, hb, hc⟩ := pin.out.i2 (by omega)
          obtain ⟨v, d1, A', c', rfl, hI⟩ := hc i hlt
          obtain ⟨v0, d0, A0, c0, rfl, hI0⟩ := hc 0 (by omega)
          rw [Nat.add_zero] at d0
          have hstep : (p.notes.getD i []).length = (p.notes.getD 0 []).length → ∀ j, j < i + 1 → (p.notes.getD j []).length = (p.notes.getD 0 []).length := fun e j hj => by
            by_cases ej : j = i
            · subst ej; exact e
            · exact hno j (by omega)
          have hbad : (p.notes.getD i []).length ≠ (p.notes.getD 0 []).length → ¬ Val p := fun e hval => e (((hv.out).1 hval).1.rows i hlt)
          have HH := Lib.hid (And.intro hstep hbad)
          clear hstep hbad
          obtain ⟨m, hm⟩ : ∃ m, (p.notes.getD i []).length = m := ⟨_, rfl⟩
          obtain ⟨m0, hm0⟩ : ∃ m, (p.notes.getD 0 []).length = m := ⟨_, rfl⟩
          rw [hm] at d1
          rw [hm0] at d0
          have HM := Lib.hid (And.intro hm hm0)
          clear hno hm hm0 hc hI hI0
          by_cases hq : m = m0
          · subst hq
            have hm := Lib.hid (HH.out.1 (HM.out.1.trans HM.out.2.symm))
            go_wp2_with fail
            go_roundg (p.notes.length - (i + 1))
            case measure => go_light; omega
            case rel =>
              go_light
              exact ⟨i + 1, by omega, by omega, by go_num, rfl, hm.out⟩
          · have hqb : ((m : Int) != (m0 : Int)) = true := by simp; omega
            have hnv := Lib.hid (HH.out.2 (fun e => hq (HM.out.1.symm.trans (e.trans HM.out.2))))
            go_wp2_with fail
            go_ret
            go_light
            exact ⟨⟨9, rfl, by simp [hnv.out]⟩, by rw [HG.out]; exact hB1.out⟩
        · have hi' : i = p.notes.length := by omega
          subst hi'
          have hsh := Lib.hid hno
          clear hno
          have hB2 : Below wr.heap.size wr (wr.alloc (.cells #[.func (.func 27) #[] #[]] 56)) := (Below.refl _ _).alloc (Nat.le_refl _) _
          have hX2 := hX.out.next hB2
          have hf2 : (wr.alloc (.cells #[.func (.func 27) #[] #[]] 56)).cell? ⟨wr.heap.size, 0, none⟩ = some (.func (.func 27) #[] #[]) := by rw [World.cell?_alloc_new]; rfl
          have hBW := Lib.hid (hB1.out.trans (hB2.mono (by rw [← HG.out]; exact hB1.out.size)))
          obtain ⟨g5, hg5⟩ : ∃ g, wr.heap.size = g := ⟨_, rfl⟩
          obtain ⟨W2, hW2⟩ : ∃ W, wr.alloc (.cells #[.func (.func 27) #[] #[]] 56) = W := ⟨_, rfl⟩
          have HS := Lib.hid (And.intro hX2 hf2)
          rw [hW2, hg5] at HS
          rw [hW2] at hBW
          replace hW2 := Lib.hid hW2
          replace hg5 := Lib.hid hg5
          obtain ⟨r1, hr1⟩ : ∃ r, p.lines.any badL = r := ⟨_, rfl⟩
          obtain ⟨r2, hr2⟩ : ∃ r, p.notes.any (fun l => l.any badL) = r := ⟨_, rfl⟩
          obtain ⟨r3, hr3⟩ : ∃ r, p.pens.any badP = r := ⟨_, rfl⟩
          obtain ⟨r5, hr5⟩ : ∃ r, badL p.hh = r := ⟨_, rfl⟩
          obtain ⟨r6, hr6⟩ : ∃ r, badL p.gap = r := ⟨_, rfl⟩
          have k1 := Lib.hid (fun W B h => containsf_any 27 badL says27 A1 c1 p.lines W B h (by omega) r1 hr1)
          have k2 := Lib.hid (fun W B h hf => containsr_any ⟨g5, 0, none⟩ A2 c2 p.notes W B h (by omega) (fun j hj => by have := b4.out j hj; omega) hf r2 hr2)
          have k3 := Lib.hid (fun W B h => containsf_any 32 badP says32 A3 c3 p.pens W B h (by omega) r3 hr3)
          have k5 := Lib.hid (fun W => says27.2 p.hh W)
          have k6 := Lib.hid (fun W => says27.2 p.gap W)
          rw [hr5] at k5
          rw [hr6] at k6
          have hvv : Val p ↔ ((0 < p.notes.length → (p.notes.getD 0 []).length ≤ 16) ∧ r1 = false ∧ r2 = false ∧ r3 = false ∧ 1 ≤ p.hh ∧ r5 = false ∧ r6 = false) := by
            rw [hv.out]
            unfold okNum
            rw [hr1, hr2, hr3, hr5, hr6]
            exact ⟨fun h => ⟨h.1.blk, h.2⟩, fun h => ⟨⟨hE.out.1, hE.out.2, hsh.out, h.1⟩, h.2⟩⟩
          replace hvv := Lib.hid hvv
          clear hB2 hX2 hf2 hr1 hr2 hr3 hr5 hr6
          by_cases hz : 0 < p.notes.length
          · obtain ⟨b, o, rfl, hb, hc⟩ := pin.out.i2 hz
            obtain ⟨v0, d0, A0, c0, rfl, hI0⟩ := hc 0 hz
            rw [Nat.add_zero] at d0
            obtain ⟨m0, hm0⟩ : ∃ m, (p.notes.getD 0 []).length = m := ⟨_, rfl⟩
            rw [hm0] at d0 hvv
            have hzz : (0 : Int) < (p.notes.length : Int) := by omega
            have hzd : decide ((0 : Int) < (p.notes.length : Int)) = true := by simpa using hzz
            clear hI0 hc hm0
            by_cases h16 : m0 ≤ 16
            · have HN : Hid (Val p ↔ (r1 = false ∧ r2 = false ∧ r3 = false ∧ 1 ≤ p.hh ∧ r5 = false ∧ r6 = false)) := Lib.hid (by rw [hvv.out]; exact ⟨fun h => h.2, fun h => ⟨fun _ => h16, h⟩⟩)
              have hd16 : decide ((16 : Int) < (m0 : Int)) = false := by simp; omega
              clear hvv
              go_wp2_with fail
              simp only [hW2.out, hg5.out]
              obtain ⟨hX2, hf2⟩ := HS.out
              obtain ⟨lt2, y0, y1, y2, y3, y4, pin2⟩ := hX2
              replace pin2 := Lib.hid pin2
              clear hW2 hg5
              refine (k1.out _ _ pin2.out.i1).mono ?_
              rintro e w' ⟨rfl, rfl⟩
              cases r1
              case true =>
                go_wp2_with fail
                go_ret
                go_light
                exact ⟨⟨2, rfl, by simp [HN.out]⟩, by rw [HG.out]; exact hBW.out⟩
              go_wp2_with fail
              refine (k2.out _ _ pin2.out.i2 hf2).mono ?_
              rintro e w' ⟨rfl, rfl⟩
              cases r2
              case true =>
                go_wp2_with fail
                go_ret
                go_light
                exact ⟨⟨2, rfl, by simp [HN.out]⟩, by rw [HG.out]; exact hBW.out⟩
              go_wp2_with fail
              refine (k3.out _ _ pin2.out.i3).mono ?_
              rintro e w' ⟨rfl, rfl⟩
              cases r3
              case true =>
                go_wp2_with fail
                go_ret
                go_light
                exact ⟨⟨2, rfl, by simp [HN.out]⟩, by rw [HG.out]; exact hBW.out⟩
              by_cases h4 : p.hh < 1
              · have h4b : decide (p.hh < 1) = true := by simpa using h4
                have h4c : ¬ 1 ≤ p.hh := by omega
                go_wp2_with fail
                go_ret
                go_light
                exact ⟨⟨2, rfl, by rw [HN.out]; exact ⟨fun h => absurd h (by decide), fun h => absurd h.2.2.2.1 (by omega)⟩⟩, by rw [HG.out]; exact hBW.out⟩
              have h4b : decide (p.hh < 1) = false := by simpa using h4
              have h4c : 1 ≤ p.hh := by omega
              go_wp2_with fail
              refine (k5.out _).mono ?_
              rintro e w' ⟨rfl, rfl⟩
              cases r5
              case true =>
                go_wp2_with fail
                go_ret
                go_light
                exact ⟨⟨2, rfl, by simp [HN.out]⟩, by rw [HG.out]; exact hBW.out⟩
              go_wp2_with fail
              refine (k6.out _).mono ?_
              rintro e w' ⟨rfl, rfl⟩
              cases r6
              case true =>
                go_wp2_with fail
                go_ret
                go_light
                exact ⟨⟨2, rfl, by simp [HN.out]⟩, by rw [HG.out]; exact hBW.out⟩
              go_wp2_with fail
              go_ret
              go_light
              exact ⟨⟨0, rfl, by simp [HN.out, h4c]⟩, by rw [HG.out]; exact hBW.out⟩
            · have HN : Hid (¬ Val p) := Lib.hid (fun h => h16 ((hvv.out.1 h).1 hz))
              have hd16 : decide ((16 : Int) < (m0 : Int)) = true := by simp; omega
              clear hvv hW2 hg5
              go_wp2_with fail
              go_ret
              go_light
              exact ⟨⟨4, rfl, by simp [HN.out]⟩, by rw [HG.out]; exact hB1.out⟩
          · have HN : Hid (Val p ↔ (r1 = false ∧ r2 = false ∧ r3 = false ∧ 1 ≤ p.hh ∧ r5 = false ∧ r6 = false)) := Lib.hid (by rw [hvv.out]; exact ⟨fun h => h.2, fun h => ⟨fun h0 => absurd h0 hz, h⟩⟩)
            have hzd : decide ((0 : Int) < (p.notes.length : Int)) = false := by rw [decide_eq_false_iff_not]; omega
            have hzd' : decide (0 < p.notes.length) = false := by rw [decide_eq_false_iff_not]; omega
            clear hvv
            go_wp2_with fail
            simp only [hW2.out, hg5.out]
            obtain ⟨hX2, hf2⟩ := HS.out
            obtain ⟨lt2, y0, y1, y2, y3, y4, pin2⟩ := hX2
            replace pin2 := Lib.hid pin2
            clear hW2 hg5
            refine (k1.out _ _ pin2.out.i1).mono ?_
            rintro e w' ⟨rfl, rfl⟩
            cases r1
            case true =>
              go_wp2_with fail
              go_ret
              go_light
              exact ⟨⟨2, rfl, by simp [HN.out]⟩, by rw [HG.out]; exact hBW.out⟩
            go_wp2_with fail
            refine (k2.out _ _ pin2.out.i2 hf2).mono ?_
            rintro e w' ⟨rfl, rfl⟩
            cases r2
            case true =>
              go_wp2_with fail
              go_ret
              go_light
              exact ⟨⟨2, rfl, by simp [HN.out]⟩, by rw [HG.out]; exact hBW.out⟩
            go_wp2_with fail
            refine (k3.out _ _ pin2.out.i3).mono ?_
            rintro e w' ⟨rfl, rfl⟩
            cases r3
            case true =>
              go_wp2_with fail
              go_ret
              go_light
              exact ⟨⟨2, rfl, by simp [HN.out]⟩, by rw [HG.out]; exact hBW.out⟩
            by_cases h4 : p.hh < 1
            · have h4b : decide (p.hh < 1) = true := by simpa using h4
              have h4c : ¬ 1 ≤ p.hh := by omega
              go_wp2_with fail
              go_ret
              go_light
              exact ⟨⟨2, rfl, by rw [HN.out]; exact ⟨fun h => absurd h (by decide), fun h => absurd h.2.2.2.1 (by omega)⟩⟩, by rw [HG.out]; exact hBW.out⟩
            have h4b : decide (p.hh < 1) = false := by simpa using h4
            have h4c : 1 ≤ p.hh := by omega
            go_wp2_with fail
            refine (k5.out _).mono ?_
            rintro e w' ⟨rfl, rfl⟩
            cases r5
            case true =>
              go_wp2_with fail
              go_ret
              go_light
              exact ⟨⟨2, rfl, by simp [HN.out]⟩, by rw [HG.out]; exact hBW.out⟩
            go_wp2_with fail
            refine (k6.out _).mono ?_
            rintro e w' ⟨rfl, rfl⟩
            cases r6
            case true =>
              go_wp2_with fail
              go_ret
              go_light
              exact ⟨⟨2, rfl, by simp [HN.out]⟩, by rw [HG.out]; exact hBW.out⟩
            go_wp2_with fail
            go_ret
            go_light
            exact ⟨⟨0, rfl, by simp [HN.out, h4c]⟩, by rw [HG.out]; exact hBW.out⟩
    · have HN : Hid (¬ Val p) := Lib.hid (fun h => e3 h.l3)
      have g2 : ((p.notes.length : Int) != (p.lines.length : Int)) = false := by simp; omega
      have g3 : ((p.pens.length : Int) != (p.lines.length : Int)) = true := by simp; omega
      clear e2 e3
      replace hB1 := Lib.hid hB1
      clear hX
      go_enter Try.func16, Try.ntmps16
      go_wp2_with fail
      go_ret
      exact ⟨⟨9, rfl, by simp [HN.out]⟩, hB1.out⟩
  · have HN : Hid (¬ Val p) := Lib.hid (fun h => e2 h.l2)
    have g2 : ((p.notes.length : Int) != (p.lines.length : Int)) = true := by simp; omega
    clear e2
    replace hB1 := Lib.hid hB1
    clear hX
    go_enter Try.func16, Try.ntmps16
    go_wp2_with fail
    go_ret
    exact ⟨⟨9, rfl, by simp [HN.out]⟩, hB1.out⟩
end Go.Proofs.Ytpfjeldpckmdoaa
