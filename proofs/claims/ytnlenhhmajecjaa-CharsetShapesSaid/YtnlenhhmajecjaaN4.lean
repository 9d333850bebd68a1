import Derived.Test.YtnlenhhmajecjaaV
set_option linter.unusedVariables false
set_option linter.unusedSimpArgs false
namespace Go.Proofs.Ytnlenhhmajecjaa
open Go.RowKit
set_option maxHeartbeats 8000000 in
set_option maxRecDepth 100000 in
theorem shapes_walk (haw : Awake) (s : ByteArray) (w : World) (hs : s.size ≤ 9223372036854775807) :
    Calls Try.prog 6 #[.string s] w fun e w' => e = .returned (.bool true) ∧ Below w.heap.size w w' := by
  replace haw := Lib.hid haw
  by_cases h80 : 80 < s.size
  · have g1 : decide ((80 : Int) < (s.size : Int)) = true := by simp; omega
    go_enter Try.func6, Try.ntmps6
    go_wp2_with fail
    refine (haw.out _).mono ?_
    rintro e w9 ⟨rfl, hB9⟩
    go_wp2_with fail
    go_ret
    exact ⟨rfl, hB9⟩
  · have g1 : decide ((80 : Int) < (s.size : Int)) = false := by simp; omega
    have z1 := fold_size s
    have z2 := plain_size s
    have c1 := fun W => fold_any s W (by omega)
    have c2 := fun W => plain_any s W (by omega)
    have c3 := fun W => fold_any (foldS s) W (by omega)
    have c4 := fun W => plain_any (plainS s) W (by omega)
    have c5 := fun W => plain_any (foldS s) W (by omega)
    have c6 := fun W => fold_any (plainS s) W (by omega)
    have c7 := fun W => letters_any s W hs
    have c8 := fun W => letters_any (foldS s) W (by omega)
    have c9 := fun W => letters_any (plainS s) W (by omega)
    have d1 := fun W => check_any (foldS s) W (by omega)
    have d2 := fun W => check_any s W hs
    have d3 := fun W => check_any (plainS s) W (by omega)
    have d4 := fun W => some_any (plainS s) marks W (by omega)
    have hcp := chk_plain (s := s) (by omega)
    simp only [fold_twice] at c3
    simp only [plain_twice] at c4
    simp only [plain_fold] at c5
    simp only [let_fold] at c8
    simp only [let_plain] at c9
    simp only [chk_fold (show s.size ≤ 65536 by omega)] at d1
    simp only [some_plain] at d4
    unfold marks at d4
    obtain ⟨f, hf⟩ : ∃ x, foldS s = x := ⟨_, rfl⟩
    obtain ⟨p, hp⟩ : ∃ x, plainS s = x := ⟨_, rfl⟩
    simp only [hf, hp] at c1 c2 c3 c4 c5 c6 c8 c9 d1 d3 d4 hcp z1 z2
    obtain ⟨q, hq⟩ : ∃ x, foldS p = x := ⟨_, rfl⟩
    simp only [hq] at c5 c6
    obtain ⟨n, hn⟩ : ∃ x, letN s = x := ⟨_, rfl⟩
    simp only [hn] at c7 c8 c9
    obtain ⟨k, hk⟩ : ∃ x, chkR s = x := ⟨_, rfl⟩
    simp only [hk] at d1 d2 hcp
    have e1 : (f.toList != f.toList) = false := by simp
    have e2 : (p.toList != p.toList) = false := by simp
    have e3 : (q.toList != q.toList) = false := by simp
    have e4 : ((f.size : Int) != (s.size : Int)) = false := by rw [z1]; simp
    have e5 : decide ((s.size : Int) < (p.size : Int)) = false := by simp; omega
    have e5' : ¬ s.size < p.size := by omega
    have HC := Lib.hid (And.intro c1 (And.intro c2 (And.intro c3 (And.intro c4 (And.intro c5 (And.intro c6 (And.intro c7 (And.intro c8 c9))))))))
    have HD := Lib.hid (And.intro d1 (And.intro d2 (And.intro d3 d4)))
    replace hcp := Lib.hid hcp
    have z1' : f.size = s.size := z1
    clear c1 c2 c3 c4 c5 c6 c7 c8 c9 d1 d2 d3 d4 hf hp hq hn hk z1 z2 z1'
    by_cases h0 : k = 0
    · have hc0 := hcp.out h0
      subst h0
      have HD3 := HD.out.2.2.1
      rw [hc0] at HD3
      replace HD3 := Lib.hid HD3
      clear hc0 hcp
      go_enter Try.func6, Try.ntmps6
      go_wp2_with fail
      refine (HC.out.1 _).mono ?_
      rintro e w1 ⟨rfl, hC⟩
      have hB := hC
      clear hC
      go_wp2_with fail
      refine (HC.out.2.1 _).mono ?_
      rintro e w2 ⟨rfl, hC⟩
      replace hB := bst hB hC
      clear hC
      go_wp2_with fail
      refine (HC.out.2.2.1 _).mono ?_
      rintro e w3 ⟨rfl, hC⟩
      replace hB := bst hB hC
      clear hC
      go_wp2_with fail
      refine (HC.out.2.2.2.1 _).mono ?_
      rintro e w4 ⟨rfl, hC⟩
      replace hB := bst hB hC
      clear hC
      go_wp2_with fail
      refine (HC.out.2.2.2.2.1 _).mono ?_
      rintro e w5 ⟨rfl, hC⟩
      replace hB := bst hB hC
      clear hC
      go_wp2_with fail
      refine (HC.out.2.2.2.2.2.1 _).mono ?_
      rintro e w6 ⟨rfl, hC⟩
      replace hB := bst hB hC
      clear hC
      go_wp2_with fail
      refine (HC.out.2.2.2.2.2.2.1 _).mono ?_
      rintro e w7 ⟨rfl, rfl⟩
      go_wp2_with fail
      refine (HC.out.2.2.2.2.2.2.2.1 _).mono ?_
      rintro e w8 ⟨rfl, rfl⟩
      go_wp2_with fail
      refine (HC.out.2.2.2.2.2.2.2.2 _).mono ?_
      rintro e w9 ⟨rfl, rfl⟩
      go_wp2_with fail
      refine (HD.out.1 _).mono ?_
      rintro e w10 ⟨rfl, hC⟩
      replace hB := bst hB hC
      clear hC
      go_wp2_with fail
      refine (HD.out.2.1 _).mono ?_
      rintro e w11 ⟨rfl, hC⟩
      replace hB := bst hB hC
      clear hC
      go_wp2_with fail
      refine (HD.out.2.1 _).mono ?_
      rintro e w12 ⟨rfl, hC⟩
      replace hB := bst hB hC
      clear hC
      go_wp2_with fail
      refine (HD3.out _).mono ?_
      rintro e w13 ⟨rfl, hC⟩
      replace hB := bst hB hC
      clear hC
      go_wp2_with fail
      refine (HD.out.2.2.2 _).mono ?_
      rintro e w14 ⟨rfl, hC⟩
      replace hB := bst hB hC
      clear hC
      go_wp2_with fail
      refine (haw.out _).mono ?_
      rintro e w99 ⟨rfl, hB9⟩
      go_wp2_with fail
      go_ret
      exact ⟨rfl, bst hB hB9⟩
    · have g0 : ((k : Int) != 0) = true := by simp; omega
      clear hcp
      go_enter Try.func6, Try.ntmps6
      go_wp2_with fail
      refine (HC.out.1 _).mono ?_
      rintro e w1 ⟨rfl, hC⟩
      have hB := hC
      clear hC
      go_wp2_with fail
      refine (HC.out.2.1 _).mono ?_
      rintro e w2 ⟨rfl, hC⟩
      replace hB := bst hB hC
      clear hC
      go_wp2_with fail
      refine (HC.out.2.2.1 _).mono ?_
      rintro e w3 ⟨rfl, hC⟩
      replace hB := bst hB hC
      clear hC
      go_wp2_with fail
      refine (HC.out.2.2.2.1 _).mono ?_
      rintro e w4 ⟨rfl, hC⟩
      replace hB := bst hB hC
      clear hC
      go_wp2_with fail
      refine (HC.out.2.2.2.2.1 _).mono ?_
      rintro e w5 ⟨rfl, hC⟩
      replace hB := bst hB hC
      clear hC
      go_wp2_with fail
      refine (HC.out.2.2.2.2.2.1 _).mono ?_
      rintro e w6 ⟨rfl, hC⟩
      replace hB := bst hB hC
      clear hC
      go_wp2_with fail
      refine (HC.out.2.2.2.2.2.2.1 _).mono ?_
      rintro e w7 ⟨rfl, rfl⟩
      go_wp2_with fail
      refine (HC.out.2.2.2.2.2.2.2.1 _).mono ?_
      rintro e w8 ⟨rfl, rfl⟩
      go_wp2_with fail
      refine (HC.out.2.2.2.2.2.2.2.2 _).mono ?_
      rintro e w9 ⟨rfl, rfl⟩
      go_wp2_with fail
      refine (HD.out.1 _).mono ?_
      rintro e w10 ⟨rfl, hC⟩
      replace hB := bst hB hC
      clear hC
      go_wp2_with fail
      refine (HD.out.2.1 _).mono ?_
      rintro e w11 ⟨rfl, hC⟩
      replace hB := bst hB hC
      clear hC
      go_wp2_with fail
      refine (HD.out.2.1 _).mono ?_
      rintro e w12 ⟨rfl, hC⟩
      replace hB := bst hB hC
      clear hC
      go_wp2_with fail
      refine (HD.out.2.2.2 _).mono ?_
      rintro e w13 ⟨rfl, hC⟩
      replace hB := bst hB hC
      clear hC
      go_wp2_with fail
      refine (haw.out _).mono ?_
      rintro e w99 ⟨rfl, hB9⟩
      go_wp2_with fail
      go_ret
      exact ⟨rfl, bst hB hB9⟩
end Go.Proofs.Ytnlenhhmajecjaa
