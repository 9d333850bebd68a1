import Derived.Test.YtmmcdncaiedmgaaY6
import Derived.Test.YtmmcdncaiedmgaaY7
import Derived.Test.YtmmcdncaiedmgaaY1
set_option linter.unusedVariables false
set_option linter.unusedSimpArgs false
namespace Go.Proofs.Ytmmcdncaiedmgaa
open Go.RowKit
theorem distance_all (a b : ByteArray) (w : World) (ha : a.size ≤ 258) (hb : b.size ≤ 258) :
    Calls Try.prog 13 #[.string a, .string b] w fun e w' => e = .returned (.tuple #[.int .i64 (dR a b).1, .int .i64 (dR a b).2]) ∧ Below w.heap.size w w' := by
  by_cases hl : 256 < a.size ∨ 256 < b.size
  · rw [dR, if_pos hl]
    refine (distance_long a b w (by omega) (by omega) (by omega)).mono ?_
    rintro e w' ⟨rfl, rfl⟩
    exact ⟨rfl, Below.refl _ _⟩
  · rw [dR, if_neg hl]
    exact distance_ok a b w (by omega) (by omega)
theorem similarity_all (a b : ByteArray) (w : World) (ha : a.size ≤ 258) (hb : b.size ≤ 258) :
    Calls Try.prog 22 #[.string a, .string b] w fun e w' => e = .returned (.tuple #[.int .i64 (sR a b).1, .int .i64 (sR a b).2]) ∧ Below w.heap.size w w' := by
  by_cases hl : 256 < a.size ∨ 256 < b.size
  · rw [sR, if_pos hl]
    refine (similarity_long a b w (by omega) (by omega) (by omega)).mono ?_
    rintro e w' ⟨rfl, rfl⟩
    exact ⟨rfl, Below.refl _ _⟩
  · rw [sR, if_neg hl]
    exact similarity_ok a b w (by omega) (by omega)
theorem bounded_all (a b : ByteArray) (m : Int) (w : World) (ha : a.size ≤ 258) (hb : b.size ≤ 258) :
    Calls Try.prog 20 #[.string a, .string b, .int .i64 m] w fun e w' => e = .returned (.tuple (bR a b m)) ∧ Below w.heap.size w w' := by
  by_cases hl : 256 < a.size ∨ 256 < b.size
  · rw [bR, if_pos hl]
    refine (bounded_long a b m w (by omega) (by omega) (by omega)).mono ?_
    rintro e w' ⟨rfl, rfl⟩
    exact ⟨rfl, Below.refl _ _⟩
  · rw [bR, if_neg hl]
    exact bounded_ok a b m w (by omega) (by omega)
theorem bR_form (a b : ByteArray) (m : Int) : ∃ x y z, bR a b m = #[.int .i64 x, .bool y, .int .i64 z] := by
  unfold bR bndR
  split
  · exact ⟨_, _, _, rfl⟩
  · split
    · exact ⟨_, _, _, rfl⟩
    · split
      · exact ⟨_, _, _, rfl⟩
      · exact ⟨_, _, _, rfl⟩
def scR (a b : ByteArray) : List Ed × Nat := if 256 < a.size ∨ 256 < b.size then ([], 4) else (script a b, 0)
theorem script_all (a b : ByteArray) (w : World) (ha : a.size ≤ 258) (hb : b.size ≤ 258) :
    Calls Try.prog 18 #[.string a, .string b] w fun e w' => ∃ v, e = .returned (.tuple #[v, .int .i64 (scR a b).2]) ∧ EdR w' w.heap.size v (scR a b).1 ∧ Below w.heap.size w w' := by
  by_cases hl : 256 < a.size ∨ 256 < b.size
  · rw [scR, if_pos hl]
    refine (script_long a b w (by omega) (by omega) (by omega)).mono ?_
    rintro e w' ⟨rfl, rfl⟩
    exact ⟨_, rfl, .inl ⟨rfl, rfl⟩, Below.refl _ _⟩
  · rw [scR, if_neg hl]
    exact script_any a b w (by omega) (by omega)
theorem rscript_all (a b : ByteArray) (w : World) (ha : a.size ≤ 258) (hb : b.size ≤ 258) :
    Calls Try.prog 19 #[.string a, .string b] w fun e w' => ∃ v, e = .returned (.tuple #[v, .int .i64 (scR a b).2]) ∧ EdR w' w.heap.size v (scR a b).1 ∧ Below w.heap.size w w' := by
  by_cases hl : 256 < a.size ∨ 256 < b.size
  · rw [scR, if_pos hl]
    refine (rscript_long a b w hl).mono ?_
    rintro e w' ⟨rfl, rfl⟩
    exact ⟨_, rfl, .inl ⟨rfl, rfl⟩, Below.refl _ _⟩
  · rw [scR, if_neg hl]
    exact rscript_any a b w (by omega) (by omega)
theorem scR_len (a b : ByteArray) (ha : a.size ≤ 258) (hb : b.size ≤ 258) : (scR a b).1.length ≤ 1000000 := by
  unfold scR
  split
  · exact Nat.zero_le _
  · have := script_len a b
    have h2 : levS a b ≤ max a.size b.size := lev_le_max _ _ _
    simp only
    omega
theorem EdV.below {w w' : World} {v : Value} {l : List Ed} (h : EdV w w.heap.size v l) (hb : Below w.heap.size w w') : EdV w' w'.heap.size v l := by
  obtain ⟨A, c, rfl, hs⟩ := h
  exact ⟨A, c, rfl, (hs.below hb).more hb.size⟩
theorem same_v (v v' : Value) (l : List Ed) (w : World) (h : EdV w w.heap.size v l) (h' : EdV w w.heap.size v' l) (hl : l.length ≤ 1000000) :
    Calls Try.prog 24 #[v, v'] w fun e w' => e = .returned (.bool true) ∧ Below w.heap.size w w' := by
  obtain ⟨A, c, rfl, hs⟩ := h
  obtain ⟨A', c', rfl, hs'⟩ := h'
  refine (same_eds A A' c c' l l w _ hs hs' hl hl).mono ?_
  rintro e w' ⟨rfl, n, rfl⟩
  exact ⟨by simp, drewN_below (Below.refl _ _) n⟩

set_option maxHeartbeats 4000000 in
set_option maxRecDepth 100000 in
theorem strings_walk (haw : Awake) (a b : ByteArray) (m : Int) (w : World) (ha : a.size ≤ 9223372036854775807) (hb : b.size ≤ 9223372036854775807) :
    Calls Try.prog 5 #[.string a, .string b, .int .i64 m] w fun e w' => e = .returned (.bool true) ∧ Below w.heap.size w w' := by
  have e1 := fun W => great_any a 12 W ha (by omega)
  have e2 := fun W => great_any b 12 W hb (by omega)
  obtain ⟨ga, hga⟩ : ∃ x, decide (12 < a.size ∧ a.size ≤ 256 ∨ 258 < a.size) = x := ⟨_, rfl⟩
  obtain ⟨gb, hgb⟩ : ∃ x, decide (12 < b.size ∧ b.size ≤ 256 ∨ 258 < b.size) = x := ⟨_, rfl⟩
  simp only [hga, hgb] at e1 e2
  replace e1 := Lib.hid e1
  replace e2 := Lib.hid e2
  replace haw := Lib.hid haw
  cases ga
  · cases gb
    · have ha' : a.size ≤ 258 := by simp at hga; omega
      have hb' : b.size ≤ 258 := by simp at hgb; omega
      have d1 := distance_all a b
      have d2 := rdistance_any a b
      have d3 := script_all a b
      have d4 := rscript_all a b
      have d5 := bounded_all a b m
      have d6 := rbounded_any a b m
      have d7 := similarity_all a b
      have d8 := rsimilarity_any a b
      have hl := scR_len a b ha' hb'
      obtain ⟨x1, x2, x3, hbr⟩ := bR_form a b m
      obtain ⟨y1, hy1⟩ : ∃ x, (dR a b).1 = x := ⟨_, rfl⟩
      obtain ⟨y2, hy2⟩ : ∃ x, (dR a b).2 = x := ⟨_, rfl⟩
      obtain ⟨l, hll⟩ : ∃ x, (scR a b).1 = x := ⟨_, rfl⟩
      obtain ⟨y3, hy3⟩ : ∃ x, (scR a b).2 = x := ⟨_, rfl⟩
      obtain ⟨y4, hy4⟩ : ∃ x, (sR a b).1 = x := ⟨_, rfl⟩
      obtain ⟨y5, hy5⟩ : ∃ x, (sR a b).2 = x := ⟨_, rfl⟩
      simp only [hbr, hy1, hy2, hll, hy3, hy4, hy5] at d1 d2 d3 d4 d5 d6 d7 d8 hl
      replace d1 := Lib.hid d1
      replace d2 := Lib.hid d2
      replace d3 := Lib.hid d3
      replace d4 := Lib.hid d4
      replace d5 := Lib.hid d5
      replace d6 := Lib.hid d6
      replace d7 := Lib.hid d7
      replace d8 := Lib.hid d8
      clear hbr hy1 hy2 hll hy3 hy4 hy5 hga hgb
      go_enter Try.func5, Try.ntmps5
      go_wp2_with fail
      refine (e1.out _).mono ?_
      rintro e w' ⟨rfl, rfl⟩
      go_wp2_with fail
      refine (e2.out _).mono ?_
      rintro e w' ⟨rfl, rfl⟩
      go_wp2_with fail
      refine (d1.out _ ha' hb').mono ?_
      rintro e w1 ⟨rfl, hB1⟩
      go_wp2_with fail
      refine (d2.out _ ha' hb').mono ?_
      rintro e w2 ⟨rfl, hB2⟩
      go_wp2_with fail
      refine (d3.out _ ha' hb').mono ?_
      rintro e w3 ⟨v3, rfl, hv3, hB3⟩
      go_wp2_with fail
      refine (d4.out _ ha' hb').mono ?_
      rintro e w4 ⟨v4, rfl, hv4, hB4⟩
      go_wp2_with fail
      refine (d5.out _ ha' hb').mono ?_
      rintro e w5 ⟨rfl, hB5⟩
      go_wp2_with fail
      refine (d6.out _ ha' hb').mono ?_
      rintro e w6 ⟨rfl, hB6⟩
      go_wp2_with fail
      refine (d7.out _ ha' hb').mono ?_
      rintro e w7 ⟨rfl, hB7⟩
      go_wp2_with fail
      refine (d8.out _ ha' hb').mono ?_
      rintro e w8 ⟨rfl, hB8⟩
      have hB58 := bst (bst (bst hB5 hB6) hB7) hB8
      have V4 := hv4.edV.below hB58
      have V3 := (hv3.edV.below hB4).below hB58
      have hB := bst (bst (bst (bst hB1 hB2) hB3) hB4) hB58
      clear hB1 hB2 hB3 hB4 hB5 hB6 hB7 hB8 hB58 hv3 hv4
      go_wp2_with fail
      refine (same_v _ _ l _ V3 V4 hl).mono ?_
      rintro e w9 ⟨rfl, hB9⟩
      go_wp2_with fail
      refine (haw.out _).mono ?_
      rintro e w10 ⟨rfl, hB10⟩
      go_wp2_with fail
      go_ret
      exact ⟨rfl, bst (bst hB hB9) hB10⟩
    · go_enter Try.func5, Try.ntmps5
      go_wp2_with fail
      refine (e1.out _).mono ?_
      rintro e w' ⟨rfl, rfl⟩
      go_wp2_with fail
      refine (e2.out _).mono ?_
      rintro e w' ⟨rfl, rfl⟩
      go_wp2_with fail
      refine (haw.out _).mono ?_
      rintro e w5 ⟨rfl, hB5⟩
      go_wp2_with fail
      go_ret
      exact ⟨rfl, hB5⟩
  · go_enter Try.func5, Try.ntmps5
    go_wp2_with fail
    refine (e1.out _).mono ?_
    rintro e w' ⟨rfl, rfl⟩
    go_wp2_with fail
    refine (haw.out _).mono ?_
    rintro e w5 ⟨rfl, hB5⟩
    go_wp2_with fail
    go_ret
    exact ⟨rfl, hB5⟩
end Go.Proofs.Ytmmcdncaiedmgaa
