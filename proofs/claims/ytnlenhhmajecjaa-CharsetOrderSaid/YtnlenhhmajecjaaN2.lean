import Derived.Test.YtnlenhhmajecjaaP
import Derived.Test.YtnlenhhmajecjaaK
set_option linter.unusedVariables false
set_option linter.unusedSimpArgs false
namespace Go.Proofs.Ytnlenhhmajecjaa
open Go.RowKit
theorem cmpB_list : ∀ (x y : List UInt8), Lib.compareBytes x y = if Op.bytesLess x y = true then -1 else if x = y then 0 else 1
  | [], [] => rfl
  | [], _ :: _ => rfl
  | _ :: _, [] => rfl
  | a :: x, b :: y => by
    rw [Lib.compareBytes, Op.bytesLess]
    by_cases h1 : a < b
    · rw [if_pos h1, if_pos (by simp [h1])]
    · rw [if_neg h1]
      by_cases h2 : b < a
      · have hne : a ≠ b := fun e => by subst e; exact absurd h2 h1
        rw [if_pos h2, if_neg (by simp [h1, hne]), if_neg (fun e => hne (List.cons.inj e).1)]
      · have e : a = b := UInt8.le_antisymm (UInt8.not_lt.1 h2) (UInt8.not_lt.1 h1)
        subst e
        rw [if_neg h2, cmpB_list x y]
        simp [h1]
theorem cmpB_eq (a b : ByteArray) : Lib.compareBytes a.data.toList b.data.toList = cmpS a b := by
  rw [cmpB_list, cmpS, ltb, ByteArray.toList_eq, ByteArray.toList_eq]
  have : (a.data.toList = b.data.toList) ↔ a = b := by
    constructor
    · intro h; exact toList_inj' (by rw [ByteArray.toList_eq, ByteArray.toList_eq]; exact h)
    · intro h; rw [h]
  simp only [this]
theorem call60 (a b : ByteArray) (w : World) : (callFunc 60 #[.string a, .string b]).run Try.prog w = .ok (.value (.int .i64 (cmpS a b))) w := by
  have h := run_callFunc_standIn (P := Try.prog) (f := 60) (fn := Try.f60) (e := Extern.BytealgCompare.compare) Try.func60 (by kernel_rfl) (by kernel_rfl) (by kernel_rfl) (by kernel_rfl) #[.string a, .string b] w
  rw [h, Lib.run_compareString, cmpB_eq]
  rfl
theorem cmp49 (a b : ByteArray) (w : World) : Calls Try.prog 49 #[.string a, .string b] w fun e w' => e = .returned (.int .i64 (cmpS a b)) ∧ w' = w := by
  have hc := call60 a b w
  go_enter Try.func49, Try.ntmps49
  go_wp2_with fail
  go_ret
  exact ⟨rfl, rfl⟩
theorem cmp32 (a b : ByteArray) (w : World) : Calls Try.prog 32 #[.string a, .string b] w fun e w' => e = .returned (.int .i64 (cmpS a b)) ∧ w' = w := by
  go_enter Try.func32, Try.ntmps32
  go_wp2_with (refine (cmp49 _ _ _).mono ?_; rintro e w' ⟨rfl, rfl⟩)
  go_ret
  exact ⟨rfl, rfl⟩
set_option maxHeartbeats 8000000 in
set_option maxRecDepth 100000 in
theorem order_walk (haw : Awake) (a b c : ByteArray) (w : World) (ha : a.size ≤ 9223372036854775807) (hb : b.size ≤ 9223372036854775807) (hc : c.size ≤ 9223372036854775807) :
    Calls Try.prog 8 #[.string a, .string b, .string c] w fun e w' => e = .returned (.bool true) ∧ Below w.heap.size w w' := by
  replace haw := Lib.hid haw
  by_cases h80 : a.size ≤ 80 ∧ b.size ≤ 80 ∧ c.size ≤ 80
  · obtain ⟨ha8, hb8, hc8⟩ := h80
    have g1 : decide ((80 : Int) < (a.size : Int)) = false := by simp; omega
    have g2 : decide ((80 : Int) < (b.size : Int)) = false := by simp; omega
    have g3 : decide ((80 : Int) < (c.size : Int)) = false := by simp; omega
    have d1 := fun W => compare_any a b W (by omega) (by omega)
    have d2 := fun W => compare_any b c W (by omega) (by omega)
    have d3 := fun W => compare_any a c W (by omega) (by omega)
    have d4 := fun W => compare_any b a W (by omega) (by omega)
    rw [cmpD_neg a b] at d4
    have r1 := cmpD_range a b
    have r2 := cmpD_eq a b
    have r3 := fun h k => cmpD_trans (a := a) (b := b) (c := c) h k
    have r4 := fun h => cmpD_first (a := a) (b := b) h
    have p1 := fun W => plain_any a W (by omega)
    have p2 := fun W => plain_any b W (by omega)
    have f1 := fun W => fold_any (plainS a) W (by have := plain_size a; omega)
    have f2 := fun W => fold_any (plainS b) W (by have := plain_size b; omega)
    have s1 := fun W => cmp32 (foldS (plainS a)) (foldS (plainS b)) W
    obtain ⟨x, hx⟩ : ∃ x, cmpD a b = x := ⟨_, rfl⟩
    obtain ⟨y, hy⟩ : ∃ x, cmpD b c = x := ⟨_, rfl⟩
    obtain ⟨z, hz⟩ : ∃ x, cmpD a c = x := ⟨_, rfl⟩
    obtain ⟨pa, hpa⟩ : ∃ x, plainS a = x := ⟨_, rfl⟩
    obtain ⟨pb, hpb⟩ : ∃ x, plainS b = x := ⟨_, rfl⟩
    simp only [hx, hy, hz, hpa, hpb] at d1 d2 d3 d4 r1 r2 r3 r4 p1 p2 f1 f2 s1
    obtain ⟨fa, hfa⟩ : ∃ x, foldS pa = x := ⟨_, rfl⟩
    obtain ⟨fb, hfb⟩ : ∃ x, foldS pb = x := ⟨_, rfl⟩
    simp only [hfa, hfb] at r4 f1 f2 s1
    obtain ⟨n, hn⟩ : ∃ x, cmpS fa fb = x := ⟨_, rfl⟩
    simp only [hn] at r4 s1
    have hw : IntKind.i64.wrap (-x) = -x := by rw [IntKind.wrap_i64]; omega
    have hu : (x = 0 ∧ (a.toList == b.toList) = true) ∨ ((x == 0) = false ∧ (a.toList == b.toList) = false) := by
      rw [str_beq]
      by_cases e : x = 0
      · exact .inl ⟨e, by simpa using r2.1 e⟩
      · exact .inr ⟨by simpa using e, by simpa using fun h => e (r2.2 h)⟩
    have b2 : decide (x < -1) = false := by simp; omega
    have b3 : decide (1 < x) = false := by simp; omega
    have b2' : ¬ x < -1 := by omega
    have b3' : ¬ 1 < x := by omega
    have HD := Lib.hid (And.intro d1 (And.intro d2 (And.intro d3 (And.intro d4 (And.intro p1 (And.intro p2 (And.intro f1 (And.intro f2 s1))))))))
    have hfin : (fa.toList == fb.toList) = true ∨ (fa.toList == fb.toList) = false ∧ x = n := by
      rw [str_beq]
      by_cases e : fa = fb
      · exact .inl (by simpa using e)
      · exact .inr ⟨by simpa using e, r4 e⟩
    have hcase : (decide (x ≤ 0) = false ∧ ¬ x ≤ 0) ∨ (decide (x ≤ 0) = true ∧ x ≤ 0 ∧ decide (y ≤ 0) = false ∧ ¬ y ≤ 0) ∨ (decide (x ≤ 0) = true ∧ x ≤ 0 ∧ decide (y ≤ 0) = true ∧ y ≤ 0 ∧ decide (0 < z) = false ∧ ¬ 0 < z) := by
      by_cases h1 : x ≤ 0
      · by_cases h2 : y ≤ 0
        · have := r3 h1 h2
          exact .inr (.inr ⟨by simpa using h1, h1, by simpa using h2, h2, by simp; omega, by omega⟩)
        · exact .inr (.inl ⟨by simpa using h1, h1, by simpa using h2, h2⟩)
      · exact .inl ⟨by simpa using h1, h1⟩
    clear d1 d2 d3 d4 p1 p2 f1 f2 s1 r1 r2 r3 r4 hx hy hz hpa hpb hfa hfb hn
    rcases hu with ⟨rfl, hu⟩ | ⟨hu1, hu⟩
    all_goals rcases hcase with ⟨q1, q1'⟩ | ⟨q1, q1', q2, q2'⟩ | ⟨q1, q1', q2, q2', q3, q3'⟩
    all_goals try (exfalso; omega)
    all_goals
      go_enter Try.func8, Try.ntmps8
      go_wp2_with fail
      refine (HD.out.1 _).mono ?_
      rintro e w1 ⟨rfl, hC⟩
      have hB := hC
      clear hC
      go_wp2_with fail
      refine (HD.out.2.1 _).mono ?_
      rintro e w2 ⟨rfl, hC⟩
      replace hB := bst hB hC
      clear hC
      go_wp2_with fail
      refine (HD.out.2.2.1 _).mono ?_
      rintro e w3 ⟨rfl, hC⟩
      replace hB := bst hB hC
      clear hC
      go_wp2_with fail
      refine (HD.out.2.2.2.1 _).mono ?_
      rintro e w4 ⟨rfl, hC⟩
      replace hB := bst hB hC
      clear hC
      go_wp2_with fail
      refine (HD.out.2.2.2.2.1 _).mono ?_
      rintro e w5 ⟨rfl, hC⟩
      replace hB := bst hB hC
      clear hC
      go_wp2_with fail
      refine (HD.out.2.2.2.2.2.2.1 _).mono ?_
      rintro e w6 ⟨rfl, hC⟩
      replace hB := bst hB hC
      clear hC
      go_wp2_with fail
      refine (HD.out.2.2.2.2.2.1 _).mono ?_
      rintro e w7 ⟨rfl, hC⟩
      replace hB := bst hB hC
      clear hC
      go_wp2_with fail
      refine (HD.out.2.2.2.2.2.2.2.1 _).mono ?_
      rintro e w8 ⟨rfl, hC⟩
      replace hB := bst hB hC
      clear hC
      rcases hfin with q4 | ⟨q4, hxn⟩
      · go_wp2_with fail
        refine (haw.out _).mono ?_
        rintro e w9 ⟨rfl, hB9⟩
        go_wp2_with fail
        go_ret
        exact ⟨rfl, bst hB hB9⟩
      · have hxn := Lib.hid hxn
        go_wp2_with fail
        refine (HD.out.2.2.2.2.2.2.2.2 _).mono ?_
        rintro e w8' ⟨rfl, rfl⟩
        have hxx := hxn.out
        have hbx : ((_ : Int) == n) = true := beq_iff_eq.2 hxx
        clear hxx
        go_wp2_with fail
        refine (haw.out _).mono ?_
        rintro e w9 ⟨rfl, hB9⟩
        go_wp2_with fail
        go_ret
        exact ⟨rfl, bst hB hB9⟩
  · have h4 : (80 < a.size) ∨ (a.size ≤ 80 ∧ 80 < b.size) ∨ (a.size ≤ 80 ∧ b.size ≤ 80 ∧ 80 < c.size) := by omega
    have h5 : decide ((80 : Int) < (a.size : Int)) = true ∨ (decide ((80 : Int) < (a.size : Int)) = false ∧ decide ((80 : Int) < (b.size : Int)) = true) ∨ (decide ((80 : Int) < (a.size : Int)) = false ∧ decide ((80 : Int) < (b.size : Int)) = false ∧ decide ((80 : Int) < (c.size : Int)) = true) := by
      rcases h4 with h | ⟨h, h'⟩ | ⟨h, h', h''⟩
      · exact .inl (by simp; omega)
      · exact .inr (.inl ⟨by simp; omega, by simp; omega⟩)
      · exact .inr (.inr ⟨by simp; omega, by simp; omega, by simp; omega⟩)
    clear h4 h80
    rcases h5 with g1 | ⟨g1, g2⟩ | ⟨g1, g2, g3⟩
    all_goals
      go_enter Try.func8, Try.ntmps8
      go_wp2_with fail
      refine (haw.out _).mono ?_
      rintro e w9 ⟨rfl, hB9⟩
      go_wp2_with fail
      go_ret
      exact ⟨rfl, hB9⟩
end Go.Proofs.Ytnlenhhmajecjaa
