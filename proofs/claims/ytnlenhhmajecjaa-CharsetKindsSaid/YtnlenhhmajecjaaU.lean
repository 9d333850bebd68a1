import Derived.Test.YtnlenhhmajecjaaT
import Derived.Test.YtnlenhhmajecjaaR
set_option linter.unusedVariables false
set_option linter.unusedSimpArgs false
namespace Go.Proofs.Ytnlenhhmajecjaa
open Go.RowKit
theorem kd_le (s : ByteArray) (i : Nat) : kd s i ≤ 6 := by
  unfold kd kindN
  repeat' split
  all_goals omega
set_option maxHeartbeats 8000000 in
set_option maxRecDepth 100000 in
theorem risword_any (s : ByteArray) (w : World) (hs : s.size ≤ 9223372036854775807) :
    Calls Try.prog 17 #[.string s] w fun e w' => e = .returned (.bool (isW s)) ∧ Below w.heap.size w w' := by
  by_cases h0 : s.size < 1
  · have g0 : decide ((s.size : Int) < 1) = true := by simp; omega
    have hr : isW s = false := by rw [isW, decide_eq_false (by omega)]; rfl
    rw [hr]
    clear hr
    have g0' : s.size = 0 := by omega
    go_enter Try.func17, Try.ntmps17
    go_wp2_with fail
    go_ret
    exact ⟨rfl, Below.refl _ _⟩
  · have g0 : decide ((s.size : Int) < 1) = false := by simp; omega
    have g0' : ¬ s.size = 0 := by omega
    by_cases h64 : 64 < s.size
    · have g1 : decide ((64 : Int) < (s.size : Int)) = true := by simp; omega
      have hr : isW s = false := by rw [isW, decide_eq_false (by omega)]; rfl
      rw [hr]
      clear hr
      go_enter Try.func17, Try.ntmps17
      go_wp2_with fail
      go_ret
      exact ⟨rfl, Below.refl _ _⟩
    · have g1 : decide ((64 : Int) < (s.size : Int)) = false := by simp; omega
      have hr : isW s = (decide (chkR s = 0) && ((decide (kd s 0 = 1) || decide (kd s 0 = 3)) && !((bl s).any q56))) := by rw [isW, decide_eq_true (by omega), Bool.true_and]
      have hck := rcheck_any s w hs
      have hx := fun W => run_index_str (P := Try.prog) 9 s (0 : Int) 0 rfl (by omega) hs Try.underlying9 W
      have hk := fun W => rkind_any _ (bat_lt s 0) W
      have hkd : kindN (bat s 0).toNat = kd s 0 := rfl
      have hany := any_q56 s
      rw [hkd] at hk
      rw [hr]
      obtain ⟨c, hc⟩ : ∃ c, chkR s = c := ⟨_, rfl⟩
      obtain ⟨k, hkk⟩ : ∃ k, kd s 0 = k := ⟨_, rfl⟩
      obtain ⟨z, hz⟩ : ∃ z, (bl s).any q56 = z := ⟨_, rfl⟩
      rw [hz] at hany
      rw [hc] at hck
      rw [hkk] at hk
      rw [hc, hkk, hz]
      replace hck := Lib.hid hck
      replace hk := Lib.hid hk
      replace hany := Lib.hid hany
      clear hr hkd hc hkk hz
      by_cases h1 : c = 0
      · subst h1
        rw [show decide (0 = 0) = true from rfl, Bool.true_and]
        by_cases h2 : k = 1 ∨ k = 3
        · have h2' : (decide (k = 1) || decide (k = 3)) = true := by simpa using h2
          rw [h2', Bool.true_and]
          clear h2'
          rcases h2 with rfl | rfl
          all_goals
            go_enter Try.func17, Try.ntmps17
            go_wp2_with fail
            refine hck.out.mono ?_
            rintro e w1 ⟨rfl, hB1⟩
            have hB := Lib.hid hB1
            clear hB1
            go_wp2_with fail
            refine (hk.out _).mono ?_
            rintro e w2 ⟨rfl, rfl⟩
            go_wp2_with fail
            clear hx
            go_loopg [4] s.size (fun g s4 wr => ∃ i : Nat, i ≤ s.size ∧ g = s.size - i ∧ s4 = .int .i64 i ∧ wr = w2 ∧ ∀ j, j < i → kd s j ≤ 4)
            case atStart => exact ⟨0, by omega, by omega, rfl, rfl, fun j hj => absurd hj (Nat.not_lt_zero _)⟩
            case round =>
              obtain ⟨i, hi, hg, rfl, rfl, hno⟩ := hrel
              by_cases hlt : i < s.size
              · have hltz : (i : Int) < (s.size : Int) := by omega
                have hx := fun W => run_index_str (P := Try.prog) 9 s (i : Int) i rfl hlt hs Try.underlying9 W
                have hki := fun W => rkind_any _ (bat_lt s i) W
                have hkd : kindN (bat s i).toNat = kd s i := rfl
                have hle6 := kd_le s i
                rw [hkd] at hki
                obtain ⟨q, hq⟩ : ∃ q, kd s i = q := ⟨_, rfl⟩
                rw [hq] at hki hle6
                replace hki := Lib.hid hki
                have HN := Lib.hid (And.intro hno hq)
                clear hno hq hkd
                by_cases h4 : 4 < q
                · have g4 : decide ((4 : Int) < (q : Int)) = true := by simp; omega
                  have hzt := Lib.hid (show z = true by
                    cases z with
                    | true => rfl
                    | false => have h9 := hany.out.1 rfl i hlt; rw [HN.out.2] at h9; omega)
                  go_wp2_with fail
                  refine (hki.out _).mono ?_
                  rintro e w3 ⟨rfl, rfl⟩
                  go_wp2_with fail
                  go_ret
                  go_light
                  exact ⟨ret_bool (by rw [hzt.out]; rfl), hB.out⟩
                · have g4 : decide ((4 : Int) < (q : Int)) = false := by simp; omega
                  go_wp2_with fail
                  refine (hki.out _).mono ?_
                  rintro e w3 ⟨rfl, rfl⟩
                  go_wp2_with fail
                  go_roundg (s.size - (i + 1))
                  case measure => go_light; omega
                  case rel =>
                    go_light
                    refine ⟨i + 1, by omega, by omega, by go_num, rfl, fun j hj => ?_⟩
                    by_cases e : j = i
                    · subst e; rw [HN.out.2]; omega
                    · exact HN.out.1 j (by omega)
              · have hi' : i = s.size := by omega
                have hzt := Lib.hid (show z = false from hany.out.2 fun j hj => by have h9 := hno j (by omega); omega)
                clear hno
                go_wp2_with fail
                go_ret
                go_light
                exact ⟨ret_bool (by rw [hzt.out]; rfl), hB.out⟩
        · have h2' : (decide (k = 1) || decide (k = 3)) = false := by simpa using h2
          rw [h2', Bool.false_and]
          have g3 : ((k : Int) != 1) = true := by simp; omega
          have g4 : ((k : Int) != 3) = true := by simp; omega
          clear h2' h2
          go_enter Try.func17, Try.ntmps17
          go_wp2_with fail
          refine hck.out.mono ?_
          rintro e w1 ⟨rfl, hB1⟩
          go_wp2_with fail
          refine (hk.out _).mono ?_
          rintro e w2 ⟨rfl, rfl⟩
          go_wp2_with fail
          go_ret
          exact ⟨rfl, hB1⟩
      · rw [decide_eq_false h1, Bool.false_and]
        have g2 : ((c : Int) != 0) = true := by simp; omega
        go_enter Try.func17, Try.ntmps17
        go_wp2_with fail
        refine hck.out.mono ?_
        rintro e w1 ⟨rfl, hB1⟩
        go_wp2_with fail
        go_ret
        exact ⟨rfl, hB1⟩
theorem isN_ref (s : ByteArray) : isN s = (decide (s.size ≤ 16) && (isW s && decide (letN s = s.size))) := by
  rw [Bool.eq_iff_iff, Bool.and_eq_true, Bool.and_eq_true, decide_eq_true_iff, decide_eq_true_iff]
  constructor
  · intro h
    obtain ⟨h1, h2, h3⟩ := name_word h
    exact ⟨h3, h1, h2⟩
  · rintro ⟨h1, h2, h3⟩
    exact (isN_iff s).2 ⟨⟨((isW_iff s).1 h2).1.1, h1⟩, h3⟩
set_option maxRecDepth 100000 in
theorem risname_any (s : ByteArray) (w : World) (hs : s.size ≤ 9223372036854775807) :
    Calls Try.prog 19 #[.string s] w fun e w' => e = .returned (.bool (isN s)) ∧ Below w.heap.size w w' := by
  rw [isN_ref]
  by_cases h16 : s.size ≤ 16
  · have g1 : decide ((s.size : Int) ≤ 16) = true := by simp; omega
    rw [decide_eq_true h16, Bool.true_and]
    have hw := risword_any s w hs
    have hl := fun W => rletters_any s W hs
    have hb : ((letN s : Int) == (s.size : Int)) = decide (letN s = s.size) := by rw [Bool.eq_iff_iff]; simp; omega
    obtain ⟨z, hz⟩ : ∃ z, isW s = z := ⟨_, rfl⟩
    obtain ⟨n, hn⟩ : ∃ n, letN s = n := ⟨_, rfl⟩
    rw [hz] at hw ⊢
    simp only [hn] at hl hb ⊢
    replace hw := Lib.hid hw
    replace hl := Lib.hid hl
    clear hz hn
    cases z
    · go_enter Try.func19, Try.ntmps19
      go_wp2_with fail
      refine hw.out.mono ?_
      rintro e w1 ⟨rfl, hB1⟩
      go_wp2_with fail
      go_ret
      exact ⟨rfl, hB1⟩
    · go_enter Try.func19, Try.ntmps19
      go_wp2_with fail
      refine hw.out.mono ?_
      rintro e w1 ⟨rfl, hB1⟩
      go_wp2_with fail
      refine (hl.out _).mono ?_
      rintro e w2 ⟨rfl, rfl⟩
      have hB := Lib.hid hB1
      clear hB1
      go_wp2_with fail
      go_ret
      first
        | exact ⟨rfl, hB.out⟩
        | exact ⟨ret_bool (by rw [Bool.true_and]; exact hb), hB.out⟩
  · have g1 : decide ((s.size : Int) ≤ 16) = false := by simp; omega
    rw [decide_eq_false h16, Bool.false_and]
    go_enter Try.func19, Try.ntmps19
    go_wp2_with fail
    go_ret
    exact ⟨rfl, Below.refl _ _⟩
theorem great_any (s : ByteArray) (w : World) (h : s.size ≤ 9223372036854775807) :
    Calls Try.prog 10 #[.string s] w fun e w' => e = .returned (.bool (decide (80 < s.size ∧ s.size ≤ 65536 ∨ 65539 < s.size))) ∧ w' = w := by
  by_cases h1 : 80 < s.size
  · have g1 : decide ((80 : Int) < (s.size : Int)) = true := by simp; omega
    by_cases h2 : s.size ≤ 65536
    · have g2 : decide ((s.size : Int) ≤ 65536) = true := by simp; omega
      go_enter Try.func10, Try.ntmps10
      go_wp2_with fail
      go_ret
      exact ⟨ret_bool (by symm; rw [decide_eq_true_iff]; exact .inl ⟨h1, h2⟩), rfl⟩
    · have g2 : decide ((s.size : Int) ≤ 65536) = false := by simp; omega
      have g3 : decide ((65539 : Int) < (s.size : Int)) = decide (65539 < s.size) := by rw [Bool.eq_iff_iff]; simp only [decide_eq_true_eq]; omega
      go_enter Try.func10, Try.ntmps10
      go_wp2_with fail
      go_ret
      exact ⟨ret_bool (by rw [Bool.eq_iff_iff]; simp; omega), rfl⟩
  · have g1 : decide ((80 : Int) < (s.size : Int)) = false := by simp; omega
    go_enter Try.func10, Try.ntmps10
    go_wp2_with fail
    go_ret
    exact ⟨ret_bool (by rw [Bool.eq_iff_iff]; simp; omega), rfl⟩
set_option maxHeartbeats 4000000 in
set_option maxRecDepth 100000 in
theorem kinds_walk (haw : Awake) (c : Int) (s : ByteArray) (w : World) (hc0 : 0 ≤ c) (hc1 : c < 256) (hs : s.size ≤ 9223372036854775807) :
    Calls Try.prog 3 #[.int .u8 c, .string s] w fun e w' => e = .returned (.bool true) ∧ Below w.heap.size w w' := by
  obtain ⟨n, rfl⟩ : ∃ n : Nat, c = n := ⟨c.toNat, by omega⟩
  have hn : n < 256 := by omega
  have e1 := great_any s w hs
  obtain ⟨g, hg⟩ : ∃ g, decide (80 < s.size ∧ s.size ≤ 65536 ∨ 65539 < s.size) = g := ⟨_, rfl⟩
  rw [hg] at e1
  replace e1 := Lib.hid e1
  replace haw := Lib.hid haw
  clear hg
  cases g
  · have c1 := fun W => kind_any n hn W
    have c2 := fun W => rkind_any n hn W
    have c3 := fun W => check_any s W hs
    have c4 := fun W => rcheck_any s W hs
    have c5 := fun W => isword_any s W hs
    have c6 := fun W => risword_any s W hs
    have c7 := fun W => isname_any s W hs
    have c8 := fun W => risname_any s W hs
    obtain ⟨x1, h1⟩ : ∃ x, kindN n = x := ⟨_, rfl⟩
    obtain ⟨x2, h2⟩ : ∃ x, chkR s = x := ⟨_, rfl⟩
    obtain ⟨x3, h3⟩ : ∃ x, isW s = x := ⟨_, rfl⟩
    obtain ⟨x4, h4⟩ : ∃ x, isN s = x := ⟨_, rfl⟩
    simp only [h1, h2, h3, h4] at c1 c2 c3 c4 c5 c6 c7 c8
    replace c1 := Lib.hid c1
    replace c2 := Lib.hid c2
    replace c3 := Lib.hid c3
    replace c4 := Lib.hid c4
    replace c5 := Lib.hid c5
    replace c6 := Lib.hid c6
    replace c7 := Lib.hid c7
    replace c8 := Lib.hid c8
    clear h1 h2 h3 h4
    go_enter Try.func3, Try.ntmps3
    go_wp2_with fail
    refine e1.out.mono ?_
    rintro e w0 ⟨rfl, rfl⟩
    go_wp2_with fail
    refine (c1.out _).mono ?_
    rintro e w1 ⟨rfl, rfl⟩
    go_wp2_with fail
    refine (c2.out _).mono ?_
    rintro e w2 ⟨rfl, rfl⟩
    go_wp2_with fail
    refine (c3.out _).mono ?_
    rintro e w3 ⟨rfl, hB⟩
    go_wp2_with fail
    refine (c4.out _).mono ?_
    rintro e w4 ⟨rfl, hC⟩
    replace hB := bst hB hC
    clear hC
    go_wp2_with fail
    refine (c5.out _).mono ?_
    rintro e w5 ⟨rfl, hC⟩
    replace hB := bst hB hC
    clear hC
    go_wp2_with fail
    refine (c6.out _).mono ?_
    rintro e w6 ⟨rfl, hC⟩
    replace hB := bst hB hC
    clear hC
    go_wp2_with fail
    refine (c7.out _).mono ?_
    rintro e w7 ⟨rfl, rfl⟩
    go_wp2_with fail
    refine (c8.out _).mono ?_
    rintro e w8 ⟨rfl, hC⟩
    replace hB := bst hB hC
    clear hC
    go_wp2_with fail
    refine (haw.out _).mono ?_
    rintro e w9 ⟨rfl, hB9⟩
    go_wp2_with fail
    go_ret
    exact ⟨rfl, bst hB hB9⟩
  · go_enter Try.func3, Try.ntmps3
    go_wp2_with fail
    refine e1.out.mono ?_
    rintro e w0 ⟨rfl, rfl⟩
    go_wp2_with fail
    refine (haw.out _).mono ?_
    rintro e w9 ⟨rfl, hB9⟩
    go_wp2_with fail
    go_ret
    exact ⟨rfl, hB9⟩
end Go.Proofs.Ytnlenhhmajecjaa
