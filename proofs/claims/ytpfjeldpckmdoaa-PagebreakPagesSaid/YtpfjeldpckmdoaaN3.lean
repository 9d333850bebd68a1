import Derived.Test.YtpfjeldpckmdoaaR
import Derived.Test.YtpfjeldpckmdoaaY
set_option linter.unusedVariables false
set_option linter.unusedSimpArgs false
namespace Go.Proofs.Ytpfjeldpckmdoaa
open Go.RowKit
set_option maxHeartbeats 8000000 in
set_option maxRecDepth 100000 in
theorem pages_walk (haw : Awake) (A1 A2 A3 : Option Addr) (c1 c2 c3 : Nat) (p : PP) (w : World) (h : PIn w w.heap.size A1 A2 A3 p) (hf : Fits p) :
    Calls Try.prog 4 #[.agg #[.slice A1 p.lines.length c1, .slice A2 p.notes.length c2, .slice A3 p.pens.length c3, .int .i64 p.hh, .int .i64 p.gap]] w fun e w' => e = .returned (.bool true) ∧ Below w.heap.size w w' := by
  have hB1 : Below w.heap.size w (w.alloc (.cells #[.slice A1 p.lines.length c1, .slice A2 p.notes.length c2, .slice A3 p.pens.length c3, .int .i64 p.hh, .int .i64 p.gap] 25)) := (Below.refl _ _).alloc (Nat.le_refl _) _
  have hX := Lib.hid (Box.new (c1 := c1) (c2 := c2) (c3 := c3) h)
  have hpl : p.n = p.lines.length := rfl
  replace hB1 := Lib.hid hB1
  replace hpl := Lib.hid hpl
  replace haw := Lib.hid haw
  clear h
  go_enter Try.func4, Try.ntmps4
  go_wp2_with fail
  refine (fine_any A1 A2 A3 c1 c2 c3 p _ hX.out.pin hf).mono ?_
  rintro e w2 ⟨⟨r, rfl, hr⟩, hB2⟩
  have hX2 := Lib.hid (hX.out.next hB2)
  have hY2 := Lib.hid (bst hB1.out hB2)
  clear hB2 hX hB1 hf
  cases r
  · clear hr
    go_wp2_with fail
    refine (haw.out _).mono ?_
    rintro e w9 ⟨rfl, hB9⟩
    go_wp2_with fail
    go_ret
    exact ⟨rfl, bst hY2.out hB9⟩
  · obtain ⟨hn, hv⟩ := hr.1 rfl
    have hnl : p.lines.length ≤ 10 := hn
    have hs := Lib.hid (notGreat_small (val_notGreat hv) hn)
    have hl3 := Lib.hid hv.l3
    clear hr
    replace hv := Lib.hid hv
    obtain ⟨lt, x0, x1, x2, x3, x4, pin⟩ := hX2.out
    replace pin := Lib.hid pin
    go_wp2_with fail
    refine (break_any A1 A2 A3 c1 c2 c3 p _ pin.out hs.out hv.out hn).mono ?_
    rintro e w3 ⟨hB3, hcase⟩
    have hX3 := Lib.hid (hX2.out.next hB3)
    have hY3 := Lib.hid (bst hY2.out hB3)
    clear hB3 hX2 hY2 x0 x1 x2 x3 x4 pin lt
    obtain ⟨lt, x0, x1, x2, x3, x4, pin⟩ := hX3.out
    replace pin := Lib.hid pin
    obtain ⟨gg, hgg⟩ : ∃ g, w.heap.size = g := ⟨_, rfl⟩
    simp only [hgg] at x0 x1 x2 x3 x4 lt ⊢
    replace hgg := Lib.hid hgg
    rcases hcase with ⟨hp0, v, rfl, hV⟩ | ⟨hp0, rfl⟩
    · obtain ⟨hu, hcost⟩ := brk_law hv.out hp0
      have hpb := (ptl_bd hv.out 0).2
      obtain ⟨A, c, rfl, hA⟩ := hV
      have hEL : (ends p).length = (brk p).length := by rw [ends, List.length_map]
      rw [hEL]
      obtain ⟨L, hLb⟩ : ∃ L, brk p = L := ⟨_, rfl⟩
      have hA' : Ints w3 w3.heap.size A (zs L) := by rw [← hLb]; exact hA
      rw [hLb] at hu hcost ⊢
      obtain ⟨q, hq⟩ : ∃ q, ptl p 0 = q := ⟨_, rfl⟩
      rw [hq] at hp0 hcost hpb ⊢
      have hca := cost_any A1 A2 A3 c1 c2 c3 p L A c w3 hX3.out.pin hv.out hn hA' hu
      rw [hcost] at hca
      replace hca := Lib.hid hca
      have hfit := Lib.hid (cost_ok (p := p) (L := L) (i := 0) (a := 0) (by rw [hcost]))
      have hll : L.length ≤ p.lines.length := by have := up_len hu; have := hpl.out; omega
      have hget := Lib.hid (up_get hu)
      have hend := Lib.hid (up_end hu)
      have hz0 : L.length = 0 → p.lines.length = 0 := fun e => by
        have h1 := hend.out
        rw [List.eq_nil_of_length_eq_zero e] at h1
        have h2 : 0 = p.n := h1
        have := hpl.out
        omega
      have hK : Hid (∀ W, Below w3.heap.size w3 W → ∀ m, m < L.length → ∃ b o, A = some ⟨b, o, none⟩ ∧ W.cell? ⟨b, o + m, none⟩ = some (.int .i64 ((L.getD m 0 : Nat) : Int))) := Lib.hid fun W hB m hm => by
        obtain ⟨b, o, e, hb, hc⟩ := hA' (by rw [zs_len]; omega)
        refine ⟨b, o, e, (hB.cell (p := ⟨b, o + m, none⟩) hb).trans ?_⟩
        rw [← zs_get]
        exact hc m (by rw [zs_len]; exact hm)
      have d1 : decide (q < 0) = false := by rw [decide_eq_false_iff_not]; omega
      have d2 : (q != q) = false := by simp
      have d3 : decide ((p.lines.length : Int) < (L.length : Int)) = false := by rw [decide_eq_false_iff_not]; omega
      have d3' : decide (p.lines.length < L.length) = false := by rw [decide_eq_false_iff_not]; omega
      clear hq hLb hA hA' hEL hu hcost pin
      go_wp2_with fail
      refine hca.out.mono ?_
      rintro e w5 ⟨rfl, hB5⟩
      have hX5 := Lib.hid (hX3.out.next hB5)
      have hY5 := Lib.hid (bst hY3.out hB5)
      replace hB5 := Lib.hid hB5
      clear hX3 hY3 x0 x1 x2 x3 x4 lt hca
      obtain ⟨lt, x0, x1, x2, x3, x4, pin⟩ := hX5.out
      simp only [hgg.out] at x0 x1 x2 x3 x4 lt
      clear pin
      have d4 : (L.length = 0 ∧ ((L.length : Int) == 0) = true ∧ decide ((0 : Int) < (p.lines.length : Int)) = false ∧ decide (0 < p.lines.length) = false) ∨ (L.length ≠ 0 ∧ ((L.length : Int) == 0) = false ∧ True ∧ True) := by
        by_cases e : L.length = 0
        · have := hz0 e
          exact .inl ⟨e, by rw [beq_iff_eq]; omega, by rw [decide_eq_false_iff_not]; omega, by rw [decide_eq_false_iff_not]; omega⟩
        · exact .inr ⟨e, by rw [beq_eq_false_iff_ne]; omega, trivial, trivial⟩
      clear hz0
      rcases d4 with ⟨e0, d4, d5, d6⟩ | ⟨e0, d4, d5, d6⟩
      all_goals
        replace e0 := Lib.hid e0
        go_wp2_with fail
        go_loopg [83, 8] L.length (fun g s83 s8 wr => ∃ m : Nat, m ≤ L.length ∧ g = L.length - m ∧ s83 = .int .i64 m ∧ s8 = .int .i64 (((0 :: L).getD m 0 : Nat) : Int) ∧ Below w5.heap.size w5 wr)
        case atStart => exact ⟨0, by omega, by omega, rfl, rfl, Below.refl _ _⟩
        case round =>
          obtain ⟨m, hm, hg, rfl, rfl, hBr⟩ := hrel
          have hXr := Lib.hid (hX5.out.next hBr)
          replace hBr := Lib.hid hBr
          clear x0 x1 x2 x3 x4 lt
          obtain ⟨lt, x0, x1, x2, x3, x4, pin⟩ := hXr.out
          simp only [hgg.out] at x0 x1 x2 x3 x4 lt
          by_cases hlt : m < L.length
          · have hmz : (m : Int) < (L.length : Int) := by omega
            obtain ⟨b, o, rfl, hc⟩ := hK.out _ (bst hB5.out hBr.out) m hlt
            have hgm := hget.out m hlt
            have hnx : (0 :: L).getD (m + 1) 0 = L.getD m 0 := by simp
            have hft := hfit.out m hlt
            obtain ⟨y, hy⟩ : ∃ y, L.getD m 0 = y := ⟨_, rfl⟩
            obtain ⟨x, hx⟩ : ∃ y, (0 :: L).getD m 0 = y := ⟨_, rfl⟩
            rw [hy] at hc hgm hnx hft
            rw [hx] at hgm hft
            simp only [hx]
            obtain ⟨hf1, hf2⟩ := pg_fit hft
            have hH := Lib.hid (Height_any A1 A2 A3 c1 c2 c3 p _ pin hv.out hn x y (by omega) hgm.2)
            obtain ⟨H, hHe⟩ : ∃ z, hgt p x y = z := ⟨_, rfl⟩
            rw [hHe] at hH hf1
            have hd : decide (p.hh < H) = false := by rw [decide_eq_false_iff_not]; omega
            have hyl : y ≤ p.lines.length := hgm.2
            have hy1 : 1 ≤ y := by omega
            replace hnx := Lib.hid hnx
            clear hHe hft hx hy
            by_cases hyn : y = p.lines.length
            · have hdn : decide ((y : Int) < (p.lines.length : Int)) = false := by rw [decide_eq_false_iff_not]; omega
              have hdn' : decide (y < p.lines.length) = false := by rw [decide_eq_false_iff_not]; omega
              clear hf2 hgm pin hyn
              go_wp2_with fail
              refine hH.out.mono ?_
              rintro e w6 ⟨rfl, hB6⟩
              have hx3 := (hXr.out.next hB6).x3
              have hx0 := (hXr.out.next hB6).x0
              simp only [hgg.out] at hx3 hx0
              have hZ := Lib.hid (bst hBr.out hB6)
              clear hB6 x0 x1 x2 x3 x4 hc
              go_wp2_with fail
              go_roundg (L.length - (m + 1))
              case measure => go_light; omega
              case rel =>
                go_light
                exact ⟨m + 1, by omega, by omega, by go_num, by rw [hnx.out], hZ.out⟩
            · have hdn : decide ((y : Int) < (p.lines.length : Int)) = true := by rw [decide_eq_true_iff]; omega
              have hdn' : decide (y < p.lines.length) = true := by rw [decide_eq_true_iff]; omega
              have hf3 : p.pn (y - 1) < 10000 := by
                rcases hf2 with e | e
                · exact absurd (e.trans hpl.out) hyn
                · exact e
              obtain ⟨b3, o3, rfl, hb3, hc3⟩ := pin.i3 (by have := hl3.out; have := hpl.out; omega)
              have q3 := fun W (hB : Below wr.heap.size wr W) => (hB.cell (p := ⟨b3, o3 + (y - 1), none⟩) hb3).trans (hc3 (y - 1) (by have := hl3.out; have := hpl.out; omega))
              have hpe : p.pens.getD (y - 1) 0 = p.pn (y - 1) := rfl
              rw [hpe] at q3
              have hpr := hv.out.pr (y - 1) (by have := hpl.out; omega)
              obtain ⟨P, hP⟩ : ∃ z, p.pn (y - 1) = z := ⟨_, rfl⟩
              rw [hP] at hf3 hpr
              simp only [hP] at q3
              have hdp : decide ((10000 : Int) ≤ P) = false := by rw [decide_eq_false_iff_not]; omega
              have hjz : (0 : Int) ≤ (y : Int) - 1 := by omega
              have hjz2 : (y : Int) - 1 < (p.pens.length : Int) := by have := hl3.out; have := hpl.out; omega
              have hjt : ((y : Int) - 1).toNat = y - 1 := by omega
              have hjy : (1 : Int) ≤ (y : Int) := by omega
              have hjy2 : (y : Int) ≤ (p.pens.length : Int) := by omega
              have hjy3 : (y : Int) < (p.pens.length : Int) + 1 := by omega
              have hw3 : IntKind.i64.wrap ((y : Int) - 1) = (y : Int) - 1 := by rw [IntKind.wrap_i64]; omega
              replace q3 := Lib.hid q3
              clear hf2 hgm pin hyn hc3 hpe hP
              go_wp2_with fail
              refine hH.out.mono ?_
              rintro e w6 ⟨rfl, hB6⟩
              have hx3 := (hXr.out.next hB6).x3
              have hx2 := (hXr.out.next hB6).x2
              have hx0 := (hXr.out.next hB6).x0
              simp only [hgg.out] at hx3 hx2 hx0
              have hpc := q3.out _ hB6
              have hZ := Lib.hid (bst hBr.out hB6)
              clear hB6 x0 x1 x2 x3 x4 hc
              go_wp2_with fail
              go_roundg (L.length - (m + 1))
              case measure => go_light; omega
              case rel =>
                go_light
                exact ⟨m + 1, by omega, by omega, by go_num, by rw [hnx.out], hZ.out⟩
          · have hmn : m = L.length := by omega
            subst hmn
            rw [hend.out]
            have hee : ((p.n : Int) == (p.lines.length : Int)) = true := by rw [hpl.out]; simp
            clear pin
            go_wp2_with fail
            refine (haw.out _).mono ?_
            rintro e w9 ⟨rfl, hB9⟩
            go_wp2_with fail
            go_ret
            go_light
            exact ⟨rfl, bst hY5.out (bst hBr.out hB9)⟩
    · have hnz : p.n ≠ 0 := fun e => by
        have := ptl_end p
        rw [e] at this
        omega
      have d0 : decide ((0 : Int) < (p.lines.length : Int)) = true := by rw [decide_eq_true_iff]; have := hpl.out; omega
      have d0' : decide (0 < p.lines.length) = true := by rw [decide_eq_true_iff]; have := hpl.out; omega
      clear hnz hp0
      go_wp2_with fail
      refine (haw.out _).mono ?_
      rintro e w9 ⟨rfl, hB9⟩
      go_wp2_with fail
      go_ret
      exact ⟨rfl, bst hY3.out hB9⟩
end Go.Proofs.Ytpfjeldpckmdoaa
