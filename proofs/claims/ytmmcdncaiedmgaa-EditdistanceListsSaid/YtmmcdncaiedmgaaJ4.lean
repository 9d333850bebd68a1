import Derived.Test.YtmmcdncaiedmgaaJ3
import Derived.Test.YtmmcdncaiedmgaaJ2
import Derived.Test.YtmmcdncaiedmgaaG
set_option linter.unusedVariables false
set_option linter.unusedSimpArgs false
namespace Go.Proofs.Ytmmcdncaiedmgaa
theorem bless_irr : ∀ (x : List UInt8), Op.bytesLess x x = false
  | [] => rfl
  | a :: x => by simp [Op.bytesLess, bless_irr x]
theorem bless_trans : ∀ (x y z : List UInt8), Op.bytesLess x y = true → Op.bytesLess y z = true → Op.bytesLess x z = true
  | _, _, [], _, h => by simp [Op.bytesLess] at h
  | _, [], _ :: _, h, _ => by simp [Op.bytesLess] at h
  | [], _ :: _, _ :: _, _, _ => rfl
  | a :: x, b :: y, c :: z, h, k => by
    simp only [Op.bytesLess, Bool.or_eq_true, decide_eq_true_eq, Bool.and_eq_true, beq_iff_eq] at h k ⊢
    rcases h with h | ⟨rfl, h⟩
    · rcases k with k | ⟨rfl, k⟩
      · exact .inl (UInt8.lt_trans h k)
      · exact .inl h
    · rcases k with k | ⟨rfl, k⟩
      · exact .inl k
      · exact .inr ⟨rfl, bless_trans x y z h k⟩
theorem bless_total : ∀ (x y : List UInt8), Op.bytesLess x y = false → Op.bytesLess y x = false → x = y
  | [], [], _, _ => rfl
  | [], _ :: _, h, _ => by simp [Op.bytesLess] at h
  | _ :: _, [], _, h => by simp [Op.bytesLess] at h
  | a :: x, b :: y, h, k => by
    simp only [Op.bytesLess, Bool.or_eq_false_iff, decide_eq_false_iff_not, Bool.and_eq_false_iff, beq_eq_false_iff_ne] at h k
    have e : a = b := by
      have h1 := h.1
      have h2 := k.1
      exact UInt8.le_antisymm (UInt8.not_lt.1 h2) (UInt8.not_lt.1 h1)
    subst e
    rw [bless_total x y (by rcases h.2 with h | h; exact absurd rfl h; exact h) (by rcases k.2 with h | h; exact absurd rfl h; exact h)]
theorem toList_inj' {x y : ByteArray} (h : x.toList = y.toList) : x = y := by
  have := str_beq x y
  rw [h] at this
  simpa using this.symm
theorem ltb_irr (x : ByteArray) : ltb x x = false := bless_irr _
theorem ltb_trans (x y z : ByteArray) (h : ltb x y = true) (k : ltb y z = true) : ltb x z = true := bless_trans _ _ _ h k
theorem ltb_total {x y : ByteArray} (h : ltb x y = false) (k : ltb y x = false) : x = y := toList_inj' (bless_total _ _ h k)
/-- no common subsequence of the greatest length is less -/
theorem cmpL_ge (A B : List ByteArray) : ∀ (f i k : Nat) (o : List ByteArray), A.length + 1 ≤ f + i → List.Sublist o (A.drop i) → List.Sublist o (B.drop k) → o.length = R A B i k → 0 ≤ cmpL o (commonF ltb A B f i k)
  | 0, i, k, o, hf, h1, h2, hl => by
    rw [R_end_left A B i k (by omega)] at hl
    rw [List.eq_nil_of_length_eq_zero hl, commonF]
    decide
  | f + 1, i, k, o, hf, h1, h2, hl => by
    by_cases h : R A B i k = 0
    · rw [h] at hl
      rw [List.eq_nil_of_length_eq_zero hl, commonF_zero _ _ _ _ _ _ h]
      decide
    · obtain ⟨x, y, z, hs, a1, a2, a3, a4, a5, a6, a7, a8⟩ := step_spec ltb_irr ltb_trans (show 0 < R A B i k by omega)
      obtain ⟨hx, he⟩ := List.getElem?_eq_some_iff.1 a1
      rw [commonF_step ltb A B (f + 1) i k x y (by omega) (by omega) hs hx, he, Nat.add_sub_cancel]
      cases o with
      | nil => simp at hl; omega
      | cons e o =>
        obtain ⟨p, p1, p2, p3, p4⟩ := sub_at h1
        obtain ⟨q, q1, q2, q3, q4⟩ := sub_at h2
        have m1 : o.length ≤ R A B (p + 1) (q + 1) := lcs_max _ _ _ p4 q4
        have m2 := R_both p2 q2
        have m3 := R_anti_left A B q p1
        have m4 := R_anti_right A B i q1
        simp only [List.length_cons] at hl
        have hle := a8 p q e p1 q1 p2 q2 (by omega)
        rw [cmpL]
        by_cases ee : e = z
        · have hz : cmpS e z = 0 := by rw [cmpS, if_neg (by simp [hle]), if_pos ee]
          rw [if_pos hz]
          subst ee
          have hpx : p = x := by
            rcases Nat.lt_trichotomy p x with h' | h' | h'
            · exact absurd p2 (a6 p p1 h')
            · exact h'
            · exact absurd a1 (p3 x a2 h')
          have hqy : q = y := by
            rcases Nat.lt_trichotomy q y with h' | h' | h'
            · exact absurd q2 (a7 q q1 h')
            · exact h'
            · exact absurd a3 (q3 y a4 h')
          subst hpx hqy
          exact cmpL_ge A B f (p + 1) (q + 1) o (by omega) p4 q4 (by omega)
        · have hz : cmpS e z = 1 := by rw [cmpS, if_neg (by simp [hle]), if_neg ee]
          rw [if_neg (by rw [hz]; decide), hz]
          decide
/-- what the law asks of the common subsequence -/
structure ComS (la lb c : List ByteArray) : Prop where
  len : c.length = lcs la lb
  left : List.Sublist c la
  right : List.Sublist c lb
  least : ∀ o, List.Sublist o la → List.Sublist o lb → o.length = c.length → 0 ≤ cmpL o c
theorem common_s (la lb : List ByteArray) : ComS la lb (common ltb la lb) := by
  obtain ⟨h1, h2, h3⟩ := commonF_spec ltb_irr ltb_trans la lb (la.length + 1) 0 0 (by omega)
  refine ⟨h1, h2, h3, fun o ho ho' hl => ?_⟩
  exact cmpL_ge la lb (la.length + 1) 0 0 o (by omega) ho ho' (hl.trans h1)
section
variable {α : Type} [DecidableEq α]
theorem ed_sub : ∀ {o l : List α}, List.Sublist o l → ed o l + o.length ≤ l.length
  | _, _, .slnil => by simp [ed_nil]
  | _, _, .cons x h => by
    rename_i o l
    have h1 := ed_sub h
    have h2 := ed_cons_right_le x o l
    simp only [List.length_cons]
    omega
  | _, _, .cons_cons x h => by
    have h1 := ed_sub h
    rw [ed_cons_same]
    simp only [List.length_cons]
    omega
theorem ed_lcs : ∀ (a b : List α), max a.length b.length ≤ ed a b + lcs a b
  | [], b => by simp [ed_nil]
  | x :: xs, [] => by simp [ed_cons_nil]
  | x :: xs, y :: ys => by
    have h1 := ed_lcs xs ys
    have h2 := ed_lcs xs (y :: ys)
    have h3 := ed_lcs (x :: xs) ys
    rw [ed_cons, lcs_cons]
    simp only [List.length_cons] at *
    have l1 := lcs_le_cons_left x xs ys
    by_cases e : x = y
    · rw [if_pos e, if_pos e]; omega
    · rw [if_neg e, if_neg e]; omega
end
theorem levL_ed (la lb : List ByteArray) : levL la lb = ed la lb := by
  unfold levL
  rw [lev_ed la lb (peqL la lb) (fun i k hi hk => by
    unfold peqL
    rw [str_beq]
    simp [List.getD_eq_getElem?_getD, List.getElem?_eq_getElem hi, List.getElem?_eq_getElem hk]) _ _ (Nat.le_refl _) (Nat.le_refl _)]
  rw [List.take_length, List.take_length, ed_rev]
theorem ComS.dist {la lb c : List ByteArray} (h : ComS la lb c) : levL la lb + 2 * c.length ≤ la.length + lb.length ∧ max la.length lb.length ≤ levL la lb + c.length := by
  rw [levL_ed]
  have h1 := ed_sub h.left
  have h2 := ed_sub h.right
  have h3 := ed_trans la c lb
  have h4 := ed_symm la c
  have h5 := ed_lcs la lb
  have h6 := h.len
  omega
end Go.Proofs.Ytmmcdncaiedmgaa
