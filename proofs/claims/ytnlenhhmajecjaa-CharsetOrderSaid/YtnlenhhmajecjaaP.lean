import Derived.Test.YtnlenhhmajecjaaJ
set_option linter.unusedVariables false
set_option linter.unusedSimpArgs false
namespace Go.Proofs.Ytnlenhhmajecjaa
/-! plain law: the dictionary's order -/
theorem bless_irr : ∀ (x : List UInt8), Op.bytesLess x x = false
  | [] => rfl
  | a :: x => by simp [Op.bytesLess, bless_irr x]
theorem bless_trans : ∀ (x y z : List UInt8), Op.bytesLess x y = true → Op.bytesLess y z = true → Op.bytesLess x z = true
  | _, _, [], _, h => by simp [Op.bytesLess] at h
  | _, [], _ :: _, h, _ => by simp [Op.bytesLess] at h
  | [], _ :: _, _ :: _, _, _ => rfl
  | a :: x, b :: y, c :: z, h, k => by
    simp only [Op.bytesLess, Bool.or_eq_true, decide_eq_true_eq, Bool.and_eq_true, beq_iff_eq] at h k ⊢
    rcases h with h | ⟨rfl, h⟩
    · rcases k with k | ⟨rfl, k⟩
      · exact .inl (UInt8.lt_trans h k)
      · exact .inl h
    · rcases k with k | ⟨rfl, k⟩
      · exact .inl k
      · exact .inr ⟨rfl, bless_trans x y z h k⟩
theorem bless_total : ∀ (x y : List UInt8), Op.bytesLess x y = false → Op.bytesLess y x = false → x = y
  | [], [], _, _ => rfl
  | [], _ :: _, h, _ => by simp [Op.bytesLess] at h
  | _ :: _, [], _, h => by simp [Op.bytesLess] at h
  | a :: x, b :: y, h, k => by
    simp only [Op.bytesLess, Bool.or_eq_false_iff, decide_eq_false_iff_not, Bool.and_eq_false_iff, beq_eq_false_iff_ne] at h k
    have e : a = b := by
      have h1 := h.1
      have h2 := k.1
      exact UInt8.le_antisymm (UInt8.not_lt.1 h2) (UInt8.not_lt.1 h1)
    subst e
    rw [bless_total x y (by rcases h.2 with h | h; exact absurd rfl h; exact h) (by rcases k.2 with h | h; exact absurd rfl h; exact h)]
theorem toList_inj' {x y : ByteArray} (h : x.toList = y.toList) : x = y := by
  have := str_beq x y
  rw [h] at this
  simpa using this.symm
theorem ltb_irr (x : ByteArray) : ltb x x = false := bless_irr _
theorem ltb_trans {x y z : ByteArray} (h : ltb x y = true) (k : ltb y z = true) : ltb x z = true := bless_trans _ _ _ h k
theorem ltb_total {x y : ByteArray} (h : ltb x y = false) (k : ltb y x = false) : x = y := toList_inj' (bless_total _ _ h k)
theorem cmpS_lt {x y : ByteArray} : cmpS x y = -1 ↔ ltb x y = true := by
  unfold cmpS
  by_cases h : ltb x y = true
  · simp [h]
  · rw [if_neg h]
    constructor
    · intro e; split at e <;> omega
    · intro e; exact absurd e h
theorem cmpS_eq {x y : ByteArray} : cmpS x y = 0 ↔ x = y := by
  unfold cmpS
  by_cases h : ltb x y = true
  · rw [if_pos h]
    constructor
    · intro e; omega
    · intro e; subst e; rw [ltb_irr] at h; cases h
  · rw [if_neg h]
    by_cases e : x = y
    · simp [e]
    · simp [e]
theorem cmpS_gt {x y : ByteArray} : cmpS x y = 1 ↔ ltb y x = true := by
  unfold cmpS
  by_cases h : ltb x y = true
  · rw [if_pos h]
    constructor
    · intro e; omega
    · intro e
      have := ltb_trans h e
      rw [ltb_irr] at this; cases this
  · rw [if_neg h]
    by_cases e : x = y
    · subst e
      rw [if_pos rfl, ltb_irr]
      constructor <;> intro e <;> simp at e
    · rw [if_neg e]
      constructor
      · intro _
        cases h2 : ltb y x with
        | true => rfl
        | false => exact absurd (ltb_total (by simpa using h) h2) e
      · intro _; rfl
theorem cmpS_range (x y : ByteArray) : cmpS x y = -1 ∨ cmpS x y = 0 ∨ cmpS x y = 1 := by
  unfold cmpS
  split
  · exact .inl rfl
  · split
    · exact .inr (.inl rfl)
    · exact .inr (.inr rfl)
theorem cmpS_neg (x y : ByteArray) : cmpS y x = - cmpS x y := by
  rcases cmpS_range x y with h | h | h
  · rw [h]; exact cmpS_gt.2 (cmpS_lt.1 h)
  · rw [h, cmpS_eq.1 h]; exact cmpS_eq.2 rfl
  · rw [h]; exact cmpS_lt.2 (cmpS_gt.1 h)
theorem cmpS_trans {x y z : ByteArray} (h : cmpS x y ≤ 0) (k : cmpS y z ≤ 0) : cmpS x z ≤ 0 ∧ (cmpS x z = 0 → cmpS x y = 0 ∧ cmpS y z = 0) := by
  rcases cmpS_range x y with h1 | h1 | h1
  · rcases cmpS_range y z with k1 | k1 | k1
    · have := cmpS_lt.2 (ltb_trans (cmpS_lt.1 h1) (cmpS_lt.1 k1))
      exact ⟨by omega, by omega⟩
    · rw [cmpS_eq.1 k1] at h1
      exact ⟨by omega, by omega⟩
    · omega
  · have e := cmpS_eq.1 h1
    subst e
    exact ⟨k, fun h => ⟨h1, h⟩⟩
  · omega
/-- lexicographic -/
theorem cmpD_neg (a b : ByteArray) : cmpD b a = - cmpD a b := by
  unfold cmpD
  rw [cmpS_neg (foldS (plainS a)) (foldS (plainS b)), cmpS_neg (plainS a) (plainS b), cmpS_neg a b]
  generalize cmpS (foldS (plainS a)) (foldS (plainS b)) = x
  generalize cmpS (plainS a) (plainS b) = y
  generalize cmpS a b = z
  by_cases hx : x = 0
  · subst hx
    by_cases hy : y = 0
    · subst hy; simp
    · rw [if_neg (by simp), if_pos (by omega), if_neg (by simp), if_pos hy]
  · rw [if_pos (by omega), if_pos hx]
theorem cmpD_range (a b : ByteArray) : cmpD a b = -1 ∨ cmpD a b = 0 ∨ cmpD a b = 1 := by
  have h1 := cmpS_range (foldS (plainS a)) (foldS (plainS b))
  have h2 := cmpS_range (plainS a) (plainS b)
  have h3 := cmpS_range a b
  unfold cmpD
  split
  · exact h1
  · split
    · exact h2
    · exact h3
theorem cmpD_eq (a b : ByteArray) : cmpD a b = 0 ↔ a = b := by
  constructor
  · intro h
    unfold cmpD at h
    split at h
    · omega
    · split at h
      · omega
      · exact cmpS_eq.1 h
  · intro h
    subst h
    unfold cmpD
    have e1 : cmpS (foldS (plainS a)) (foldS (plainS a)) = 0 := cmpS_eq.2 rfl
    have e2 : cmpS (plainS a) (plainS a) = 0 := cmpS_eq.2 rfl
    have e3 : cmpS a a = 0 := cmpS_eq.2 rfl
    rw [e1, e2, e3]; rfl
theorem cmpD_trans {a b c : ByteArray} (h : cmpD a b ≤ 0) (k : cmpD b c ≤ 0) : cmpD a c ≤ 0 := by
  have t1 := fun h k => cmpS_trans (x := foldS (plainS a)) (y := foldS (plainS b)) (z := foldS (plainS c)) h k
  have t2 := fun h k => cmpS_trans (x := plainS a) (y := plainS b) (z := plainS c) h k
  have t3 := fun h k => cmpS_trans (x := a) (y := b) (z := c) h k
  unfold cmpD at h k ⊢
  generalize cmpS (foldS (plainS a)) (foldS (plainS b)) = x1 at *
  generalize cmpS (foldS (plainS b)) (foldS (plainS c)) = y1 at *
  generalize cmpS (foldS (plainS a)) (foldS (plainS c)) = z1 at *
  generalize cmpS (plainS a) (plainS b) = x2 at *
  generalize cmpS (plainS b) (plainS c) = y2 at *
  generalize cmpS (plainS a) (plainS c) = z2 at *
  generalize cmpS a b = x3 at *
  generalize cmpS b c = y3 at *
  generalize cmpS a c = z3 at *
  have hx1 : x1 ≤ 0 := by split at h <;> omega
  have hy1 : y1 ≤ 0 := by split at k <;> omega
  obtain ⟨p1, q1⟩ := t1 hx1 hy1
  by_cases hz1 : z1 = 0
  · obtain ⟨rfl, rfl⟩ := q1 hz1
    subst hz1
    rw [if_neg (by simp)] at h k ⊢
    have hx2 : x2 ≤ 0 := by split at h <;> omega
    have hy2 : y2 ≤ 0 := by split at k <;> omega
    obtain ⟨p2, q2⟩ := t2 hx2 hy2
    by_cases hz2 : z2 = 0
    · obtain ⟨rfl, rfl⟩ := q2 hz2
      subst hz2
      rw [if_neg (by simp)] at h k ⊢
      exact (t3 h k).1
    · rw [if_pos hz2]; exact p2
  · rw [if_pos hz1]; exact p1
theorem cmpD_first {a b : ByteArray} (h : foldS (plainS a) ≠ foldS (plainS b)) : cmpD a b = cmpS (foldS (plainS a)) (foldS (plainS b)) := by
  unfold cmpD
  rw [if_pos]
  exact fun e => h (cmpS_eq.1 e)
end Go.Proofs.Ytnlenhhmajecjaa
