import Derived.Test.YtnlenhhmajecjaaZ1
import Derived.Test.YtnlenhhmajecjaaK
set_option linter.unusedVariables false
set_option linter.unusedSimpArgs false
namespace Go.Proofs.Ytnlenhhmajecjaa
open Go.RowKit
set_option maxHeartbeats 8000000 in
set_option maxRecDepth 100000 in
theorem forms_walk (haw : Awake) (a b : ByteArray) (w : World) (ha : a.size ≤ 9223372036854775807) (hb : b.size ≤ 9223372036854775807) :
    Calls Try.prog 4 #[.string a, .string b] w fun e w' => e = .returned (.bool true) ∧ Below w.heap.size w w' := by
  replace haw := Lib.hid haw
  by_cases h80 : a.size ≤ 80 ∧ b.size ≤ 80
  · obtain ⟨ha8, hb8⟩ := h80
    have g1 : decide ((80 : Int) < (a.size : Int)) = false := by simp; omega
    have g2 : decide ((80 : Int) < (b.size : Int)) = false := by simp; omega
    have c1 := fun W => fold_any a W (by omega)
    have c2 := fun W => rfold_any a W (by omega)
    have c3 := fun W => plain_any a W (by omega)
    have c4 := fun W => rplain_any a W (by omega)
    have c5 := fun W => letters_any a W ha
    have c6 := fun W => rletters_any a W ha
    have c7 := fun W => clusters_any a W (by omega)
    have c8 := fun W => rclusters_any a W (by omega)
    have c9 := fun W => compare_any a b W (by omega) (by omega)
    have c10 := fun W => rcompare_any a b W (by omega) (by omega)
    have hcl : (clR a).length ≤ 1000000 := by
      have := clusters_len a
      rw [clR, List.length_map]; omega
    obtain ⟨f, hf⟩ : ∃ x, foldS a = x := ⟨_, rfl⟩
    obtain ⟨p, hp⟩ : ∃ x, plainS a = x := ⟨_, rfl⟩
    obtain ⟨n, hn⟩ : ∃ x, letN a = x := ⟨_, rfl⟩
    obtain ⟨L, hL⟩ : ∃ x, clR a = x := ⟨_, rfl⟩
    obtain ⟨x, hx⟩ : ∃ x, cmpD a b = x := ⟨_, rfl⟩
    simp only [hf, hp, hn, hL, hx] at c1 c2 c3 c4 c5 c6 c7 c8 c9 c10 hcl
    have e1 : (f.toList == f.toList) = true := by simp
    have e2 : (p.toList == p.toList) = true := by simp
    have HC := Lib.hid (And.intro c1 (And.intro c2 (And.intro c3 (And.intro c4 (And.intro c5 (And.intro c6 (And.intro c7 (And.intro c8 (And.intro c9 c10)))))))))
    replace hcl := Lib.hid hcl
    clear c1 c2 c3 c4 c5 c6 c7 c8 c9 c10 hf hp hn hL hx
    go_enter Try.func4, Try.ntmps4
    go_wp2_with fail
    refine (HC.out.1 _).mono ?_
    rintro e w1 ⟨rfl, hC⟩
    have hB := hC
    clear hC
    go_wp2_with fail
    refine (HC.out.2.1 _).mono ?_
    rintro e w2 ⟨rfl, hC⟩
    replace hB := bst hB hC
    clear hC
    go_wp2_with fail
    refine (HC.out.2.2.1 _).mono ?_
    rintro e w3 ⟨rfl, hC⟩
    replace hB := bst hB hC
    clear hC
    go_wp2_with fail
    refine (HC.out.2.2.2.1 _).mono ?_
    rintro e w4 ⟨rfl, hC⟩
    replace hB := bst hB hC
    clear hC
    go_wp2_with fail
    refine (HC.out.2.2.2.2.1 _).mono ?_
    rintro e w5 ⟨rfl, rfl⟩
    go_wp2_with fail
    refine (HC.out.2.2.2.2.2.1 _).mono ?_
    rintro e w6 ⟨rfl, rfl⟩
    go_wp2_with fail
    refine (HC.out.2.2.2.2.2.2.1 _).mono ?_
    rintro e w7 ⟨v7, rfl, hv7, hC⟩
    replace hB := bst hB hC
    clear hC
    have hV7 := strV_own hv7
    clear hv7
    go_wp2_with fail
    refine (HC.out.2.2.2.2.2.2.2.1 _).mono ?_
    rintro e w8 ⟨v8, rfl, hv8, hC⟩
    replace hB := bst hB hC
    have hV8 := strV_own hv8
    replace hV7 := hV7.below hC
    clear hv8 hC
    go_wp2_with fail
    refine (equal_v _ _ _ _ _ hV7 hV8 hcl.out hcl.out true (by simp)).mono ?_
    rintro e w9 ⟨rfl, hC⟩
    replace hB := bst hB hC
    clear hC hV7 hV8
    go_wp2_with fail
    refine (HC.out.2.2.2.2.2.2.2.2.1 _).mono ?_
    rintro e w10 ⟨rfl, hC⟩
    replace hB := bst hB hC
    clear hC
    go_wp2_with fail
    refine (HC.out.2.2.2.2.2.2.2.2.2 _).mono ?_
    rintro e w11 ⟨rfl, hC⟩
    replace hB := bst hB hC
    clear hC
    go_wp2_with fail
    refine (haw.out _).mono ?_
    rintro e w99 ⟨rfl, hB9⟩
    go_wp2_with fail
    go_ret
    exact ⟨rfl, bst hB hB9⟩
  · have h5 : decide ((80 : Int) < (a.size : Int)) = true ∨ (decide ((80 : Int) < (a.size : Int)) = false ∧ decide ((80 : Int) < (b.size : Int)) = true) := by
      by_cases h : 80 < a.size
      · exact .inl (by simp; omega)
      · exact .inr ⟨by simp; omega, by simp; omega⟩
    clear h80
    rcases h5 with g1 | ⟨g1, g2⟩
    all_goals
      go_enter Try.func4, Try.ntmps4
      go_wp2_with fail
      refine (haw.out _).mono ?_
      rintro e w9 ⟨rfl, hB9⟩
      go_wp2_with fail
      go_ret
      exact ⟨rfl, hB9⟩
end Go.Proofs.Ytnlenhhmajecjaa
