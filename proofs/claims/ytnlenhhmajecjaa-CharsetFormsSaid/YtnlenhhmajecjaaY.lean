import Derived.Test.YtnlenhhmajecjaaX
set_option linter.unusedVariables false
set_option linter.unusedSimpArgs false
namespace Go.Proofs.Ytnlenhhmajecjaa
open Go.RowKit
set_option maxHeartbeats 8000000 in
set_option maxRecDepth 100000 in
theorem rcompare_any (a b : ByteArray) (w : World) (ha : a.size ≤ 1000000) (hb : b.size ≤ 1000000) :
    Calls Try.prog 30 #[.string a, .string b] w fun e w' => e = .returned (.int .i64 (cmpD a b)) ∧ Below w.heap.size w w' := by
  have s1 := fun W => rplain_any a W ha
  have s2 := fun W => rplain_any b W hb
  have s3 := fun W => rfold_any (plainS a) W (by have := plain_size a; omega)
  have s4 := fun W => rfold_any (plainS b) W (by have := plain_size b; omega)
  have k1 := fun W => cmp47_any (foldS (plainS a)) (foldS (plainS b)) W
  have k2 := fun W => cmp47_any (plainS a) (plainS b) W
  have k3 := fun W => cmp47_any a b W
  unfold cmpD
  obtain ⟨pa, hpa⟩ : ∃ x, plainS a = x := ⟨_, rfl⟩
  obtain ⟨pb, hpb⟩ : ∃ x, plainS b = x := ⟨_, rfl⟩
  simp only [hpa, hpb] at s1 s2 s3 s4 k1 k2 ⊢
  obtain ⟨fa, hfa⟩ : ∃ x, foldS pa = x := ⟨_, rfl⟩
  obtain ⟨fb, hfb⟩ : ∃ x, foldS pb = x := ⟨_, rfl⟩
  simp only [hfa, hfb] at s3 s4 k1 ⊢
  obtain ⟨n1, hn1⟩ : ∃ x, cmpS fa fb = x := ⟨_, rfl⟩
  obtain ⟨n2, hn2⟩ : ∃ x, cmpS pa pb = x := ⟨_, rfl⟩
  obtain ⟨n3, hn3⟩ : ∃ x, cmpS a b = x := ⟨_, rfl⟩
  simp only [hn1, hn2, hn3] at k1 k2 k3 ⊢
  have HS := Lib.hid (And.intro s1 (And.intro s2 (And.intro s3 (And.intro s4 (And.intro k1 (And.intro k2 k3))))))
  clear s1 s2 s3 s4 k1 k2 k3 hfa hfb hpa hpb hn1 hn2 hn3
  by_cases e1 : n1 = 0
  · subst e1
    by_cases e2 : n2 = 0
    · subst e2
      simp only [ne_eq, not_true_eq_false, if_false]
      go_enter Try.func30, Try.ntmps30
      go_wp2_with fail
      refine (HS.out.1 _).mono ?_
      rintro e w1 ⟨rfl, hB1⟩
      have hB := hB1
      clear hB1
      go_wp2_with fail
      refine (HS.out.2.2.1 _).mono ?_
      rintro e w2 ⟨rfl, hC⟩
      replace hB := bst hB hC
      clear hC
      go_wp2_with fail
      refine (HS.out.2.1 _).mono ?_
      rintro e w3 ⟨rfl, hC⟩
      replace hB := bst hB hC
      clear hC
      go_wp2_with fail
      refine (HS.out.2.2.2.1 _).mono ?_
      rintro e w4 ⟨rfl, hC⟩
      replace hB := bst hB hC
      clear hC
      go_wp2_with fail
      refine (HS.out.2.2.2.2.1 _).mono ?_
      rintro e w5 ⟨rfl, rfl⟩
      go_wp2_with fail
      refine (HS.out.1 _).mono ?_
      rintro e w6 ⟨rfl, hC⟩
      replace hB := bst hB hC
      clear hC
      go_wp2_with fail
      refine (HS.out.2.1 _).mono ?_
      rintro e w7 ⟨rfl, hC⟩
      replace hB := bst hB hC
      clear hC
      go_wp2_with fail
      refine (HS.out.2.2.2.2.2.1 _).mono ?_
      rintro e w8 ⟨rfl, rfl⟩
      go_wp2_with fail
      refine (HS.out.2.2.2.2.2.2 _).mono ?_
      rintro e w9 ⟨rfl, rfl⟩
      go_wp2_with fail
      go_ret
      exact ⟨rfl, hB⟩
    · have g2 : (n2 != 0) = true := by simpa using e2
      have g2' : (n2 == 0) = false := by simpa using e2
      simp only [ne_eq, not_true_eq_false, if_false, e2, not_false_eq_true, if_true]
      go_enter Try.func30, Try.ntmps30
      go_wp2_with fail
      refine (HS.out.1 _).mono ?_
      rintro e w1 ⟨rfl, hB1⟩
      have hB := hB1
      clear hB1
      go_wp2_with fail
      refine (HS.out.2.2.1 _).mono ?_
      rintro e w2 ⟨rfl, hC⟩
      replace hB := bst hB hC
      clear hC
      go_wp2_with fail
      refine (HS.out.2.1 _).mono ?_
      rintro e w3 ⟨rfl, hC⟩
      replace hB := bst hB hC
      clear hC
      go_wp2_with fail
      refine (HS.out.2.2.2.1 _).mono ?_
      rintro e w4 ⟨rfl, hC⟩
      replace hB := bst hB hC
      clear hC
      go_wp2_with fail
      refine (HS.out.2.2.2.2.1 _).mono ?_
      rintro e w5 ⟨rfl, rfl⟩
      go_wp2_with fail
      refine (HS.out.1 _).mono ?_
      rintro e w6 ⟨rfl, hC⟩
      replace hB := bst hB hC
      clear hC
      go_wp2_with fail
      refine (HS.out.2.1 _).mono ?_
      rintro e w7 ⟨rfl, hC⟩
      replace hB := bst hB hC
      clear hC
      go_wp2_with fail
      refine (HS.out.2.2.2.2.2.1 _).mono ?_
      rintro e w8 ⟨rfl, rfl⟩
      go_wp2_with fail
      go_ret
      exact ⟨rfl, hB⟩
  · have g1 : (n1 != 0) = true := by simpa using e1
    have g1' : (n1 == 0) = false := by simpa using e1
    simp only [ne_eq, e1, not_false_eq_true, if_true]
    go_enter Try.func30, Try.ntmps30
    go_wp2_with fail
    refine (HS.out.1 _).mono ?_
    rintro e w1 ⟨rfl, hB1⟩
    have hB := hB1
    clear hB1
    go_wp2_with fail
    refine (HS.out.2.2.1 _).mono ?_
    rintro e w2 ⟨rfl, hC⟩
    replace hB := bst hB hC
    clear hC
    go_wp2_with fail
    refine (HS.out.2.1 _).mono ?_
    rintro e w3 ⟨rfl, hC⟩
    replace hB := bst hB hC
    clear hC
    go_wp2_with fail
    refine (HS.out.2.2.2.1 _).mono ?_
    rintro e w4 ⟨rfl, hC⟩
    replace hB := bst hB hC
    clear hC
    go_wp2_with fail
    refine (HS.out.2.2.2.2.1 _).mono ?_
    rintro e w5 ⟨rfl, rfl⟩
    go_wp2_with fail
    go_ret
    exact ⟨rfl, hB⟩
end Go.Proofs.Ytnlenhhmajecjaa
