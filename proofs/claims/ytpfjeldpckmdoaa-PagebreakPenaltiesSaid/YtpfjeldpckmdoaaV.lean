import Derived.Test.YtpfjeldpckmdoaaU
import Derived.Test.YtpfjeldpckmdoaaT
set_option linter.unusedVariables false
set_option linter.unusedSimpArgs false
namespace Go.Proofs.Ytpfjeldpckmdoaa
open Go.RowKit
/-- the numbers of page ends -/
def zs (L : List Nat) : List Int := L.map fun (t : Nat) => (t : Int)
theorem zs_len (L : List Nat) : (zs L).length = L.length := by simp [zs]
theorem zs_get (L : List Nat) (m : Nat) : (zs L).getD m 0 = ((L.getD m 0 : Nat) : Int) := by
  simp only [zs, List.getD_eq_getElem?_getD, List.getElem?_map]
  cases L[m]? <;> simp
theorem cost_step {p : PP} {i : Nat} {a : Int} {L : List Nat} {m : Nat} (hm : m < L.length) :
    costF p ((i :: L).getD m 0) a (L.drop m) = if (pg p ((i :: L).getD m 0) (L.getD m 0)).2 = 0 then costF p (L.getD m 0) (a + (pg p ((i :: L).getD m 0) (L.getD m 0)).1) (L.drop (m + 1)) else (0, (pg p ((i :: L).getD m 0) (L.getD m 0)).2) := by
  have e : L.drop m = L.getD m 0 :: L.drop (m + 1) := by
    rw [List.drop_eq_getElem_cons hm]
    simp [List.getD_eq_getElem?_getD, hm]
  rw [e, costF]
set_option maxHeartbeats 8000000 in
set_option maxRecDepth 100000 in
theorem cost_any (A1 A2 A3 : Option Addr) (c1 c2 c3 : Nat) (p : PP) (L : List Nat) (A : Option Addr) (c : Nat) (w : World) (h : PIn w w.heap.size A1 A2 A3 p) (hv : Val p) (hn : p.n ≤ 10) (hA : Ints w w.heap.size A (zs L)) (hu : Up p.n 0 L) :
    Calls Try.prog 11 #[.agg #[.slice A1 p.lines.length c1, .slice A2 p.notes.length c2, .slice A3 p.pens.length c3, .int .i64 p.hh, .int .i64 p.gap], .slice A L.length c] w fun e w' => e = .returned (.tuple #[.int .i64 (costF p 0 0 L).1, .int .i64 (costF p 0 0 L).2]) ∧ Below w.heap.size w w' := by
  have hB1 : Below w.heap.size w (w.alloc (.cells #[.slice A1 p.lines.length c1, .slice A2 p.notes.length c2, .slice A3 p.pens.length c3, .int .i64 p.hh, .int .i64 p.gap] 25)) := (Below.refl _ _).alloc (Nat.le_refl _) _
  have hX := Lib.hid (Box.new (c1 := c1) (c2 := c2) (c3 := c3) h)
  have hs := Lib.hid (notGreat_small (val_notGreat hv) hn)
  have hpl : p.n = p.lines.length := rfl
  have hll := up_len hu
  have hget := Lib.hid (up_get hu)
  have hend := up_end hu
  have hn' : p.lines.length ≤ 10 := hn
  have hK : Hid (∀ W, Below w.heap.size w W → ∀ m, m < L.length → ∃ b o, A = some ⟨b, o, none⟩ ∧ W.cell? ⟨b, o + m, none⟩ = some (.int .i64 ((L.getD m 0 : Nat) : Int))) := Lib.hid fun W hB m hm => by
    obtain ⟨b, o, e, hb, hc⟩ := hA (by rw [zs_len]; omega)
    refine ⟨b, o, e, (hB.cell (p := ⟨b, o + m, none⟩) hb).trans ?_⟩
    rw [← zs_get]
    exact hc m (by rw [zs_len]; exact hm)
  replace hB1 := Lib.hid hB1
  replace hv := Lib.hid hv
  replace hpl := Lib.hid hpl
  replace hend := Lib.hid hend
  clear h hA hu
  go_enter Try.func11, Try.ntmps11
  go_wp2_with fail
  refine (check_any A1 A2 A3 c1 c2 c3 p _ hX.out.pin hs.out).mono ?_
  rintro e w2 ⟨⟨c0, rfl, hc⟩, hB2⟩
  obtain rfl : c0 = 0 := hc.2 hv.out
  clear hc
  have hX2 := Lib.hid (hX.out.next hB2)
  have hY2 := Lib.hid (bst hB1.out hB2)
  clear hB2 hX hB1
  obtain ⟨lt, x0, x1, x2, x3, x4, pin⟩ := hX2.out
  replace pin := Lib.hid pin
  obtain ⟨gg, hgg⟩ : ∃ g, w.heap.size = g := ⟨_, rfl⟩
  simp only [hgg] at x0 x1 x2 x3 x4 lt ⊢
  have hY2' := hY2
  rw [hgg] at hY2'
  replace hgg := Lib.hid hgg
  go_wp2_with fail
  go_loopg [21, 6] L.length (fun g s21 s6 wr => ∃ m : Nat, m ≤ L.length ∧ g = L.length - m ∧ s21 = .int .i64 m ∧ s6 = .int .i64 (((0 :: L).getD m 0 : Nat) : Int) ∧ wr = w2)
  case atStart => exact ⟨0, by omega, by omega, rfl, rfl, rfl⟩
  case round =>
    obtain ⟨m, hm, hg, rfl, rfl, rfl⟩ := hrel
    by_cases hlt : m < L.length
    · have hmz : (m : Int) < (L.length : Int) := by omega
      obtain ⟨b, o, rfl, hc⟩ := hK.out _ hY2.out m hlt
      have hgm := hget.out m hlt
      have hnx : (0 :: L).getD (m + 1) 0 = L.getD m 0 := by simp
      have hz0 : m = 0 → (0 :: L).getD m 0 = 0 := fun e => by subst e; rfl
      obtain ⟨y, hy⟩ : ∃ y, L.getD m 0 = y := ⟨_, rfl⟩
      obtain ⟨x, hx⟩ : ∃ y, (0 :: L).getD m 0 = y := ⟨_, rfl⟩
      rw [hy] at hc hgm hnx
      rw [hx] at hgm
      simp only [hx]
      have hyl : y ≤ p.lines.length := by have := hpl.out; omega
      have hxy := hgm.1
      have d1 : decide ((y : Int) < 1) = false := by rw [decide_eq_false_iff_not]; omega
      have d1' : decide (y < 1) = false := by rw [decide_eq_false_iff_not]; omega
      have d2 : decide ((p.lines.length : Int) < (y : Int)) = false := by rw [decide_eq_false_iff_not]; omega
      have d2' : decide (p.lines.length < y) = false := by rw [decide_eq_false_iff_not]; omega
      have d3 : decide ((y : Int) ≤ (x : Int)) = false := by rw [decide_eq_false_iff_not]; omega
      have d3' : decide (y ≤ x) = false := by rw [decide_eq_false_iff_not]; omega
      replace hnx := Lib.hid hnx
      clear hgm hy hx hz0
      by_cases hm0 : 0 < m
      · have d4 : decide ((0 : Int) < (m : Int)) = true := by rw [decide_eq_true_iff]; omega
        have d4' : decide (0 < m) = true := by rw [decide_eq_true_iff]; omega
        go_wp2_with fail
        go_roundg (L.length - (m + 1))
        case measure => go_light; omega
        case rel =>
          go_light
          exact ⟨m + 1, by omega, by omega, by go_num, by rw [hnx.out], rfl⟩
      · have d4 : decide ((0 : Int) < (m : Int)) = false := by rw [decide_eq_false_iff_not]; omega
        have d4' : decide (0 < m) = false := by rw [decide_eq_false_iff_not]; omega
        go_wp2_with fail
        go_roundg (L.length - (m + 1))
        case measure => go_light; omega
        case rel =>
          go_light
          exact ⟨m + 1, by omega, by omega, by go_num, by rw [hnx.out], rfl⟩
    · have hmn : m = L.length := by omega
      subst hmn
      rw [hend.out]
      have hne : ((p.n : Int) != (p.lines.length : Int)) = false := by rw [hpl.out]; simp
      go_wp2_with fail
      refine (newsums_any A1 A2 A3 c1 c2 c3 p _ pin.out hv.out hn).mono ?_
      rintro e w3 ⟨S, rfl, hS3, hB3⟩
      have hY3 := Lib.hid (bst hY2.out hB3)
      have hS3' := Lib.hid hS3
      clear hB3 x0 x1 x2 x3 x4 pin lt hS3
      go_wp2_with fail
      go_loopg [53, 10, 11] L.length (fun g s53 s10 s11 wr => ∃ (m : Nat) (a : Int), m ≤ L.length ∧ g = L.length - m ∧ s53 = .int .i64 m ∧ s10 = .int .i64 a ∧ s11 = .int .i64 (((0 :: L).getD m 0 : Nat) : Int) ∧ 0 ≤ a ∧ a ≤ 20000 * m ∧ costF p 0 0 L = costF p ((0 :: L).getD m 0) a (L.drop m) ∧ Below w3.heap.size w3 wr)
      case atStart => exact ⟨0, 0, by omega, by omega, rfl, rfl, rfl, by omega, by omega, rfl, Below.refl _ _⟩
      case round =>
        obtain ⟨m, a, hm, hg, rfl, rfl, rfl, ha0, ha1, hcf, hBr⟩ := hrel
        by_cases hlt : m < L.length
        · have hmz : (m : Int) < (L.length : Int) := by omega
          obtain ⟨b, o, rfl, hc⟩ := hK.out _ (bst hY3.out hBr) m hlt
          have hgm := hget.out m hlt
          have hnx : (0 :: L).getD (m + 1) 0 = L.getD m 0 := by simp
          rw [cost_step hlt] at hcf
          have hpb := pg_bd hv.out (i := (0 :: L).getD m 0) (j := L.getD m 0) (by omega) hgm.2
          have hpc := page_any p S ((0 :: L).getD m 0) (L.getD m 0) _ (hS3'.out.next hBr) hv.out hn (by omega) (by omega) hgm.2
          replace hpc := Lib.hid hpc
          have hBr' := Lib.hid hBr
          obtain ⟨y, hy⟩ : ∃ y, L.getD m 0 = y := ⟨_, rfl⟩
          obtain ⟨x, hx⟩ : ∃ y, (0 :: L).getD m 0 = y := ⟨_, rfl⟩
          rw [hy] at hc hgm hnx hpb hpc hcf
          rw [hx] at hgm hpb hpc hcf
          simp only [hx]
          obtain ⟨s, hs1⟩ : ∃ s, (pg p x y).1 = s := ⟨_, rfl⟩
          obtain ⟨q, hs2⟩ : ∃ s, (pg p x y).2 = s := ⟨_, rfl⟩
          rw [hs1] at hcf hpc hpb
          rw [hs2] at hcf hpc
          have hw : IntKind.i64.wrap (a + s) = a + s := by rw [IntKind.wrap_i64]; omega
          replace hnx := Lib.hid hnx
          clear hgm hy hx hs1 hs2 hBr
          by_cases hq : q = 0
          · subst hq
            rw [if_pos rfl] at hcf
            replace hcf := Lib.hid hcf
            go_wp2_with fail
            refine hpc.out.mono ?_
            rintro e w4 ⟨rfl, hB4⟩
            have hZ := Lib.hid (bst hBr'.out hB4)
            clear hB4
            go_wp2_with fail
            go_roundg (L.length - (m + 1))
            case measure => go_light; omega
            case rel =>
              go_light
              exact ⟨m + 1, a + s, by omega, by omega, by go_num, rfl, by rw [hnx.out], by omega, by omega, by rw [hnx.out]; exact hcf.out, hZ.out⟩
          · rw [if_neg hq] at hcf
            have hb : ((q : Int) != 0) = true := by simp; omega
            replace hcf := Lib.hid hcf
            go_wp2_with fail
            refine hpc.out.mono ?_
            rintro e w4 ⟨rfl, hB4⟩
            have hZ := Lib.hid (bst hBr'.out hB4)
            clear hB4
            go_wp2_with fail
            go_ret2
            go_light
            exact ⟨by rw [hcf.out]; rfl, bst hY3.out hZ.out⟩
        · have hmn : m = L.length := by omega
          subst hmn
          rw [List.drop_length, costF] at hcf
          replace hcf := Lib.hid hcf
          replace hBr := Lib.hid hBr
          go_wp2_with fail
          go_ret2
          go_light
          exact ⟨by rw [hcf.out]; rfl, bst hY3.out hBr.out⟩
end Go.Proofs.Ytpfjeldpckmdoaa
