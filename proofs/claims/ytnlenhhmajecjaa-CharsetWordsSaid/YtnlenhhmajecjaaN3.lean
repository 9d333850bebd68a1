import Derived.Test.YtnlenhhmajecjaaR
set_option linter.unusedVariables false
set_option linter.unusedSimpArgs false
namespace Go.Proofs.Ytnlenhhmajecjaa
open Go.RowKit
set_option maxHeartbeats 8000000 in
set_option maxRecDepth 100000 in
theorem words_walk (haw : Awake) (s t : ByteArray) (w : World) (ha : s.size ≤ 9223372036854775807) (hb : t.size ≤ 9223372036854775807) :
    Calls Try.prog 7 #[.string s, .string t] w fun e w' => e = .returned (.bool true) ∧ Below w.heap.size w w' := by
  replace haw := Lib.hid haw
  by_cases h80 : s.size ≤ 80 ∧ t.size ≤ 80
  · obtain ⟨ha8, hb8⟩ := h80
    have g1 : decide ((80 : Int) < (s.size : Int)) = false := by simp; omega
    have g2 : decide ((80 : Int) < (t.size : Int)) = false := by simp; omega
    have c1 := fun W => isname_any s W ha
    have c2 := fun W => isword_any s W ha
    have c3 := fun W => letters_any s W ha
    have c4 := fun W => check_any s W ha
    have c5 := fun W => some_any s noW W (by omega)
    have c6 := fun W => isword_any t W hb
    have c7 := fun W => isword_any (s ++ t) W (by simp; omega)
    have hst : (s ++ t).size = s.size + t.size := by simp
    cases hn : isN s
    · cases hw : isW s
      · rw [hn] at c1
        rw [hw] at c2
        replace c1 := Lib.hid c1
        replace c2 := Lib.hid c2
        clear c3 c4 c5 c6 c7 hn hw
        go_enter Try.func7, Try.ntmps7
        go_wp2_with fail
        refine (c1.out _).mono ?_
        rintro e w0 ⟨rfl, rfl⟩
        go_wp2_with fail
        refine (c2.out _).mono ?_
        rintro e w1 ⟨rfl, hC⟩
        have hB := hC
        clear hC
        go_wp2_with fail
        refine (haw.out _).mono ?_
        rintro e w99 ⟨rfl, hB9⟩
        go_wp2_with fail
        go_ret
        exact ⟨rfl, bst hB hB9⟩
      · rw [hn] at c1
        rw [hw] at c2
        have q1 := word_chk hw
        have q2 := word_some hw
        have q3 := ((isW_iff s).1 hw).1
        have g3 : ((s.size : Int) == 0) = false := beq_eq_false_iff_ne.2 (by omega)
        have g4 : decide ((64 : Int) < (s.size : Int)) = false := by simp; omega
        have g3' : ¬ s.size = 0 := by omega
        have g4' : ¬ 64 < s.size := by omega
        simp only [q1] at c4
        simp only [q2] at c5
        unfold noW at c5
        clear q3
        cases hv : isW t
        · rw [hv] at c6
          replace c1 := Lib.hid c1
          replace c2 := Lib.hid c2
          replace c3 := Lib.hid c3
          replace c4 := Lib.hid c4
          replace c5 := Lib.hid c5
          replace c6 := Lib.hid c6
          clear c7 hn hw hv q1 q2
          go_enter Try.func7, Try.ntmps7
          go_wp2_with fail
          refine (c1.out _).mono ?_
          rintro e w0 ⟨rfl, rfl⟩
          go_wp2_with fail
          refine (c2.out _).mono ?_
          rintro e w1 ⟨rfl, hC⟩
          have hB := hC
          clear hC
          go_wp2_with fail
          refine (c4.out _).mono ?_
          rintro e w2 ⟨rfl, hC⟩
          replace hB := bst hB hC
          clear hC
          go_wp2_with fail
          refine (c5.out _).mono ?_
          rintro e w3 ⟨rfl, hC⟩
          replace hB := bst hB hC
          clear hC
          go_wp2_with fail
          refine (c6.out _).mono ?_
          rintro e w4 ⟨rfl, hC⟩
          replace hB := bst hB hC
          clear hC
          go_wp2_with fail
          refine (haw.out _).mono ?_
          rintro e w99 ⟨rfl, hB9⟩
          go_wp2_with fail
          go_ret
          exact ⟨rfl, bst hB hB9⟩
        · have q4 := word_app hw hv
          rw [hv] at c6
          have g5 : decide ((s.size : Int) + (t.size : Int) ≤ 64) = decide (s.size + t.size ≤ 64) := by rw [Bool.eq_iff_iff]; simp only [decide_eq_true_eq]; omega
          obtain ⟨st, hstt⟩ : ∃ x, s ++ t = x := ⟨_, rfl⟩
          cases hle : decide (s.size + t.size ≤ 64)
          · rw [hle] at q4 g5
            rw [q4] at c7
            have g6 : ¬ (s.size + t.size ≤ 64) := by simpa using hle
            replace c1 := Lib.hid c1
            replace c2 := Lib.hid c2
            replace c3 := Lib.hid c3
            replace c4 := Lib.hid c4
            replace c5 := Lib.hid c5
            replace c6 := Lib.hid c6
            replace c7 := Lib.hid c7
            clear hn hw hv q1 q2 q4 hle hstt
            go_enter Try.func7, Try.ntmps7
            go_wp2_with fail
            refine (c1.out _).mono ?_
            rintro e w0 ⟨rfl, rfl⟩
            go_wp2_with fail
            refine (c2.out _).mono ?_
            rintro e w1 ⟨rfl, hC⟩
            have hB := hC
            clear hC
            go_wp2_with fail
            refine (c4.out _).mono ?_
            rintro e w2 ⟨rfl, hC⟩
            replace hB := bst hB hC
            clear hC
            go_wp2_with fail
            refine (c5.out _).mono ?_
            rintro e w3 ⟨rfl, hC⟩
            replace hB := bst hB hC
            clear hC
            go_wp2_with fail
            refine (c6.out _).mono ?_
            rintro e w4 ⟨rfl, hC⟩
            replace hB := bst hB hC
            clear hC
            go_wp2_with fail
            refine (c7.out _).mono ?_
            rintro e w5 ⟨rfl, hC⟩
            replace hB := bst hB hC
            clear hC
            go_wp2_with fail
            refine (haw.out _).mono ?_
            rintro e w99 ⟨rfl, hB9⟩
            go_wp2_with fail
            go_ret
            exact ⟨rfl, bst hB hB9⟩
          · rw [hle] at q4 g5
            rw [q4] at c7
            have g6 :  (s.size + t.size ≤ 64) := by simpa using hle
            replace c1 := Lib.hid c1
            replace c2 := Lib.hid c2
            replace c3 := Lib.hid c3
            replace c4 := Lib.hid c4
            replace c5 := Lib.hid c5
            replace c6 := Lib.hid c6
            replace c7 := Lib.hid c7
            clear hn hw hv q1 q2 q4 hle hstt
            go_enter Try.func7, Try.ntmps7
            go_wp2_with fail
            refine (c1.out _).mono ?_
            rintro e w0 ⟨rfl, rfl⟩
            go_wp2_with fail
            refine (c2.out _).mono ?_
            rintro e w1 ⟨rfl, hC⟩
            have hB := hC
            clear hC
            go_wp2_with fail
            refine (c4.out _).mono ?_
            rintro e w2 ⟨rfl, hC⟩
            replace hB := bst hB hC
            clear hC
            go_wp2_with fail
            refine (c5.out _).mono ?_
            rintro e w3 ⟨rfl, hC⟩
            replace hB := bst hB hC
            clear hC
            go_wp2_with fail
            refine (c6.out _).mono ?_
            rintro e w4 ⟨rfl, hC⟩
            replace hB := bst hB hC
            clear hC
            go_wp2_with fail
            refine (c7.out _).mono ?_
            rintro e w5 ⟨rfl, hC⟩
            replace hB := bst hB hC
            clear hC
            go_wp2_with fail
            refine (haw.out _).mono ?_
            rintro e w99 ⟨rfl, hB9⟩
            go_wp2_with fail
            go_ret
            exact ⟨rfl, bst hB hB9⟩
    · obtain ⟨hw, hl, h16⟩ := name_word hn
      rw [hn] at c1
      rw [hw] at c2
      simp only [hl] at c3
      have g7 : decide ((16 : Int) < (s.size : Int)) = false := by simp; omega
      have g7' : ¬ 16 < s.size := by omega
      have q1 := word_chk hw
      have q2 := word_some hw
      have q3 := ((isW_iff s).1 hw).1
      have g3 : ((s.size : Int) == 0) = false := beq_eq_false_iff_ne.2 (by omega)
      have g4 : decide ((64 : Int) < (s.size : Int)) = false := by simp; omega
      have g3' : ¬ s.size = 0 := by omega
      have g4' : ¬ 64 < s.size := by omega
      simp only [q1] at c4
      simp only [q2] at c5
      unfold noW at c5
      clear q3
      cases hv : isW t
      · rw [hv] at c6
        replace c1 := Lib.hid c1
        replace c2 := Lib.hid c2
        replace c3 := Lib.hid c3
        replace c4 := Lib.hid c4
        replace c5 := Lib.hid c5
        replace c6 := Lib.hid c6
        clear c7 hn hw hv q1 q2
        go_enter Try.func7, Try.ntmps7
        go_wp2_with fail
        refine (c1.out _).mono ?_
        rintro e w0 ⟨rfl, rfl⟩
        go_wp2_with fail
        refine (c2.out _).mono ?_
        rintro e w1 ⟨rfl, hC⟩
        have hB := hC
        clear hC
        go_wp2_with fail
        refine (c3.out _).mono ?_
        rintro e w2 ⟨rfl, rfl⟩
        go_wp2_with fail
        refine (c2.out _).mono ?_
        rintro e w3 ⟨rfl, hC⟩
        replace hB := bst hB hC
        clear hC
        go_wp2_with fail
        refine (c4.out _).mono ?_
        rintro e w4 ⟨rfl, hC⟩
        replace hB := bst hB hC
        clear hC
        go_wp2_with fail
        refine (c5.out _).mono ?_
        rintro e w5 ⟨rfl, hC⟩
        replace hB := bst hB hC
        clear hC
        go_wp2_with fail
        refine (c6.out _).mono ?_
        rintro e w6 ⟨rfl, hC⟩
        replace hB := bst hB hC
        clear hC
        go_wp2_with fail
        refine (haw.out _).mono ?_
        rintro e w99 ⟨rfl, hB9⟩
        go_wp2_with fail
        go_ret
        exact ⟨rfl, bst hB hB9⟩
      · have q4 := word_app hw hv
        rw [hv] at c6
        have g5 : decide ((s.size : Int) + (t.size : Int) ≤ 64) = decide (s.size + t.size ≤ 64) := by rw [Bool.eq_iff_iff]; simp only [decide_eq_true_eq]; omega
        obtain ⟨st, hstt⟩ : ∃ x, s ++ t = x := ⟨_, rfl⟩
        cases hle : decide (s.size + t.size ≤ 64)
        · rw [hle] at q4 g5
          rw [q4] at c7
          have g6 : ¬ (s.size + t.size ≤ 64) := by simpa using hle
          replace c1 := Lib.hid c1
          replace c2 := Lib.hid c2
          replace c3 := Lib.hid c3
          replace c4 := Lib.hid c4
          replace c5 := Lib.hid c5
          replace c6 := Lib.hid c6
          replace c7 := Lib.hid c7
          clear hn hw hv q1 q2 q4 hle hstt
          go_enter Try.func7, Try.ntmps7
          go_wp2_with fail
          refine (c1.out _).mono ?_
          rintro e w0 ⟨rfl, rfl⟩
          go_wp2_with fail
          refine (c2.out _).mono ?_
          rintro e w1 ⟨rfl, hC⟩
          have hB := hC
          clear hC
          go_wp2_with fail
          refine (c3.out _).mono ?_
          rintro e w2 ⟨rfl, rfl⟩
          go_wp2_with fail
          refine (c2.out _).mono ?_
          rintro e w3 ⟨rfl, hC⟩
          replace hB := bst hB hC
          clear hC
          go_wp2_with fail
          refine (c4.out _).mono ?_
          rintro e w4 ⟨rfl, hC⟩
          replace hB := bst hB hC
          clear hC
          go_wp2_with fail
          refine (c5.out _).mono ?_
          rintro e w5 ⟨rfl, hC⟩
          replace hB := bst hB hC
          clear hC
          go_wp2_with fail
          refine (c6.out _).mono ?_
          rintro e w6 ⟨rfl, hC⟩
          replace hB := bst hB hC
          clear hC
          go_wp2_with fail
          refine (c7.out _).mono ?_
          rintro e w7 ⟨rfl, hC⟩
          replace hB := bst hB hC
          clear hC
          go_wp2_with fail
          refine (haw.out _).mono ?_
          rintro e w99 ⟨rfl, hB9⟩
          go_wp2_with fail
          go_ret
          exact ⟨rfl, bst hB hB9⟩
        · rw [hle] at q4 g5
          rw [q4] at c7
          have g6 :  (s.size + t.size ≤ 64) := by simpa using hle
          replace c1 := Lib.hid c1
          replace c2 := Lib.hid c2
          replace c3 := Lib.hid c3
          replace c4 := Lib.hid c4
          replace c5 := Lib.hid c5
          replace c6 := Lib.hid c6
          replace c7 := Lib.hid c7
          clear hn hw hv q1 q2 q4 hle hstt
          go_enter Try.func7, Try.ntmps7
          go_wp2_with fail
          refine (c1.out _).mono ?_
          rintro e w0 ⟨rfl, rfl⟩
          go_wp2_with fail
          refine (c2.out _).mono ?_
          rintro e w1 ⟨rfl, hC⟩
          have hB := hC
          clear hC
          go_wp2_with fail
          refine (c3.out _).mono ?_
          rintro e w2 ⟨rfl, rfl⟩
          go_wp2_with fail
          refine (c2.out _).mono ?_
          rintro e w3 ⟨rfl, hC⟩
          replace hB := bst hB hC
          clear hC
          go_wp2_with fail
          refine (c4.out _).mono ?_
          rintro e w4 ⟨rfl, hC⟩
          replace hB := bst hB hC
          clear hC
          go_wp2_with fail
          refine (c5.out _).mono ?_
          rintro e w5 ⟨rfl, hC⟩
          replace hB := bst hB hC
          clear hC
          go_wp2_with fail
          refine (c6.out _).mono ?_
          rintro e w6 ⟨rfl, hC⟩
          replace hB := bst hB hC
          clear hC
          go_wp2_with fail
          refine (c7.out _).mono ?_
          rintro e w7 ⟨rfl, hC⟩
          replace hB := bst hB hC
          clear hC
          go_wp2_with fail
          refine (haw.out _).mono ?_
          rintro e w99 ⟨rfl, hB9⟩
          go_wp2_with fail
          go_ret
          exact ⟨rfl, bst hB hB9⟩
  · have h5 : decide ((80 : Int) < (s.size : Int)) = true ∨ (decide ((80 : Int) < (s.size : Int)) = false ∧ decide ((80 : Int) < (t.size : Int)) = true) := by
      by_cases h : 80 < s.size
      · exact .inl (by simp; omega)
      · exact .inr ⟨by simp; omega, by simp; omega⟩
    clear h80
    rcases h5 with g1 | ⟨g1, g2⟩
    all_goals
      go_enter Try.func7, Try.ntmps7
      go_wp2_with fail
      refine (haw.out _).mono ?_
      rintro e w9 ⟨rfl, hB9⟩
      go_wp2_with fail
      go_ret
      exact ⟨rfl, hB9⟩
end Go.Proofs.Ytnlenhhmajecjaa
