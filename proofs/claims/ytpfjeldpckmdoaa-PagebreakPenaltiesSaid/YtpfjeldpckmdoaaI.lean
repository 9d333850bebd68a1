import Derived.Test.YtpfjeldpckmdoaaH
set_option linter.unusedVariables false
set_option linter.unusedSimpArgs false
namespace Go.Proofs.Ytpfjeldpckmdoaa
open Go.RowKit
set_option maxHeartbeats 8000000 in
set_option maxRecDepth 100000 in
theorem page_any (p : PP) (S i j : Nat) (w : World) (h : Sums w S p) (hv : Val p) (hn : p.n ≤ 10) (hij : i ≤ j) (hj0 : 0 < j) (hj : j ≤ p.n) :
    Calls Try.prog 23 #[.pointer (some ⟨S, 0, none⟩), .int .i64 i, .int .i64 j] w fun e w' => e = .returned (.tuple #[.int .i64 (pg p i j).1, .int .i64 (pg p i j).2]) ∧ Below w.heap.size w w' := by
  have hh := Lib.hid (height_any p S i j w h hv hn hij hj)
  have hb := hgt_bd hv hij hj
  have hr := hv.hr
  have hpg : pg p i j = if p.hh < hgt p i j then (0, 22) else if j = p.n then (0, 0) else if 10000 ≤ p.pn (j - 1) then (0, 23) else ((badN (p.hh - hgt p i j).toNat p.hh.toNat : Int) + p.pn (j - 1), 0) := rfl
  rw [hpg]
  clear hpg
  obtain ⟨x, hx⟩ : ∃ x, hgt p i j = x := ⟨_, rfl⟩
  rw [hx] at hh hb ⊢
  obtain ⟨A1, A2, A3, c1, c2, c3, Ab, cb, rl, cl, h⟩ := h
  have hns : w.heap.size ≤ w.heap.size := Nat.le_refl _
  have hpr := hv.pr (j - 1) (by omega)
  have hl3 := hv.l3
  have hS := h.lt
  have x0 := fun W (hB : Below w.heap.size w W) => (hB.cell (p := ⟨S, 0, none⟩) hS).trans h.x0
  have x2 := fun W (hB : Below w.heap.size w W) => (hB.cell (p := ⟨S, 2, none⟩) hS).trans h.x2
  have x3 := fun W (hB : Below w.heap.size w W) => (hB.cell (p := ⟨S, 3, none⟩) hS).trans h.x3
  have hpens := h.pens
  obtain ⟨b3, o3, rfl, hb3, hc3⟩ := hpens (by omega)
  have q3 := fun W (hB : Below w.heap.size w W) => (hB.cell (p := ⟨b3, o3 + (j - 1), none⟩) hb3).trans (hc3 (j - 1) (by omega))
  have hpe : p.pens.getD (j - 1) 0 = p.pn (j - 1) := rfl
  rw [hpe] at q3
  obtain ⟨y, hy⟩ : ∃ y, p.pn (j - 1) = y := ⟨_, rfl⟩
  rw [hy] at hpr ⊢
  simp only [hy] at q3
  have HC := Lib.hid (And.intro x0 (And.intro x2 (And.intro x3 q3)))
  have hp1 : p.lines.length = p.n := rfl
  have hjz : (0 : Int) ≤ (j : Int) - 1 := by omega
  have hjz2 : (j : Int) - 1 < (p.pens.length : Int) := by omega
  have hjt : ((j : Int) - 1).toNat = j - 1 := by omega
  have hjy : (1 : Int) ≤ (j : Int) := by omega
  have hjy2 : (j : Int) ≤ (p.pens.length : Int) := by omega
  have hjy3 : (j : Int) < (p.pens.length : Int) + 1 := by omega
  clear x0 x2 x3 q3 hpens hc3 hpe hy hx h hv hl3 hns
  by_cases k1 : p.hh < x
  · rw [if_pos k1]
    have hd : decide (p.hh < x) = true := by simpa using k1
    go_enter Try.func23, Try.ntmps23
    go_wp2_with fail
    refine hh.out.mono ?_
    rintro e w1 ⟨rfl, hB⟩
    have x3 := HC.out.2.2.1 w1 hB
    go_wp2_with fail
    go_ret2
    exact ⟨rfl, hB⟩
  · rw [if_neg k1]
    have hd : decide (p.hh < x) = false := by simpa using k1
    by_cases k2 : j = p.n
    · rw [if_pos k2]
      have hb2 : ((j : Int) == (p.lines.length : Int)) = true := by rw [beq_iff_eq, hp1, k2]
      clear hp1 k2
      go_enter Try.func23, Try.ntmps23
      go_wp2_with fail
      refine hh.out.mono ?_
      rintro e w1 ⟨rfl, hB⟩
      have x3 := HC.out.2.2.1 w1 hB
      have x0 := HC.out.1 w1 hB
      go_wp2_with fail
      go_ret2
      exact ⟨rfl, hB⟩
    · rw [if_neg k2]
      have hb2 : ((j : Int) == (p.lines.length : Int)) = false := by rw [beq_eq_false_iff_ne, hp1]; omega
      clear hp1
      by_cases k3 : 10000 ≤ y
      · rw [if_pos k3]
        have hd3 : decide (10000 ≤ y) = true := by simpa using k3
        go_enter Try.func23, Try.ntmps23
        go_wp2_with fail
        refine hh.out.mono ?_
        rintro e w1 ⟨rfl, hB⟩
        have x3 := HC.out.2.2.1 w1 hB
        have x0 := HC.out.1 w1 hB
        have x2 := HC.out.2.1 w1 hB
        have q3 := HC.out.2.2.2 w1 hB
        go_wp2_with fail
        go_ret2
        exact ⟨rfl, hB⟩
      · rw [if_neg k3]
        have hd3 : decide (10000 ≤ y) = false := by simpa using k3
        obtain ⟨d, hd4⟩ : ∃ d : Nat, p.hh - x = d := ⟨(p.hh - x).toNat, by omega⟩
        obtain ⟨tt, ht4⟩ : ∃ d : Nat, p.hh = d := ⟨p.hh.toNat, by omega⟩
        have e1 : (p.hh - x).toNat = d := by omega
        have e2 : p.hh.toNat = tt := by omega
        rw [e1, e2]
        have hbad := fun W => bad_any d tt (by omega) (by omega) (by omega) W
        have hble := badN_le d tt
        obtain ⟨z, hz⟩ : ∃ z, badN d tt = z := ⟨_, rfl⟩
        simp only [hz] at hbad hble ⊢
        have hbad' : ∀ W, Calls Try.prog 34 #[.int .i64 (p.hh - x), .int .i64 p.hh] W fun e w' => e = .returned (.int .i64 (z : Nat)) ∧ Below W.heap.size W w' := fun W => by
          rw [hd4]; conv => arg 3; rw [ht4]
          exact hbad W
        have hw1 : IntKind.i64.wrap (p.hh - x) = p.hh - x := by rw [IntKind.wrap_i64]; omega
        have hw2 : IntKind.i64.wrap ((z : Int) + y) = (z : Int) + y := by rw [IntKind.wrap_i64]; omega
        have hw3 : IntKind.i64.wrap ((j : Int) - 1) = (j : Int) - 1 := by rw [IntKind.wrap_i64]; omega
        replace hbad' := Lib.hid hbad'
        clear hbad hz e1 e2 hd4 ht4
        go_enter Try.func23, Try.ntmps23
        go_wp2_with fail
        refine hh.out.mono ?_
        rintro e w1 ⟨rfl, hB⟩
        have x3 := HC.out.2.2.1 w1 hB
        have x0 := HC.out.1 w1 hB
        have x2 := HC.out.2.1 w1 hB
        have q3 := HC.out.2.2.2 w1 hB
        have hk : Hid (∀ W, Below w.heap.size w W → (W.cell? ⟨S, 3, none⟩ = some (.int .i64 p.hh) ∧ W.cell? ⟨S, 2, none⟩ = some (.slice (some ⟨b3, o3, none⟩) p.pens.length c3) ∧ W.cell? ⟨b3, o3 + (j - 1), none⟩ = some (.int .i64 y))) := Lib.hid fun W h => ⟨HC.out.2.2.1 W h, HC.out.2.1 W h, HC.out.2.2.2 W h⟩
        go_wp2_with fail
        go_region_held3 (fun w' => w'.cell? ⟨S, 3, none⟩ = some (.int .i64 p.hh) ∧ w'.cell? ⟨S, 2, none⟩ = some (.slice (some ⟨b3, o3, none⟩) p.pens.length c3) ∧ w'.cell? ⟨b3, o3 + (j - 1), none⟩ = some (.int .i64 y))
          (first | exact hk.out _ (hB.trans ((drewN_below (Below.refl _ _) 1).trans (hX.mono (by simpa using hB.size)))) | go_keep)
          ((go_at_call 34; refine (hbad'.out _).mono ?_; rintro e w' ⟨rfl, hX⟩))
        all_goals
          go_wp2_with fail
          go_ret2
          exact ⟨rfl, hB.trans ((drewN_below (Below.refl _ _) 1).trans (hX.mono (by simpa using hB.size)))⟩
end Go.Proofs.Ytpfjeldpckmdoaa
