/- Plain mathematics of the edit distance: no program in sight. -/
set_option linter.unusedVariables false
set_option linter.unusedSimpArgs false
namespace Go.Proofs.Ytmmcdncaiedmgaa
section
variable {α : Type} [DecidableEq α]
/-- an alignment of two lists of cost `n` -/
inductive Al : List α → List α → Nat → Prop
  | nil : Al [] [] 0
  | both (x y : α) {a b : List α} {n : Nat} : Al a b n → Al (x :: a) (y :: b) (n + if x = y then 0 else 1)
  | left (x : α) {a b : List α} {n : Nat} : Al a b n → Al (x :: a) b (n + 1)
  | right (y : α) {a b : List α} {n : Nat} : Al a b n → Al a (y :: b) (n + 1)
theorem Al.refl : ∀ (a : List α), Al a a 0
  | [] => .nil
  | x :: a => by have := Al.both x x (Al.refl a); rwa [if_pos rfl] at this
theorem Al.symm {a b : List α} {n : Nat} (h : Al a b n) : Al b a n := by
  induction h with
  | nil => exact .nil
  | both x y _ ih =>
    have := Al.both y x ih
    by_cases e : x = y
    · subst e; exact this
    · rw [if_neg e]; rwa [if_neg (fun h => e h.symm)] at this
  | left x _ ih => exact .right x ih
  | right y _ ih => exact .left y ih
theorem Al.append {a b c d : List α} {n m : Nat} (h : Al a b n) (k : Al c d m) : Al (a ++ c) (b ++ d) (n + m) := by
  induction h with
  | nil => simpa using k
  | both x y _ ih => have := Al.both x y ih; rw [show ∀ p q r : Nat, p + q + r = p + r + q from fun p q r => by omega]; exact this
  | left x _ ih => have := Al.left x ih; rw [show ∀ p q : Nat, p + 1 + q = p + q + 1 from fun p q => by omega]; exact this
  | right y _ ih => have := Al.right y ih; rw [show ∀ p q : Nat, p + 1 + q = p + q + 1 from fun p q => by omega]; exact this
theorem Al.one (x y : α) : Al [x] [y] (if x = y then 0 else 1) := by have := Al.both x y (Al.nil (α := α)); rwa [Nat.zero_add] at this
theorem Al.rev {a b : List α} {n : Nat} (h : Al a b n) : Al a.reverse b.reverse n := by
  induction h with
  | nil => exact .nil
  | both x y _ ih => rw [List.reverse_cons, List.reverse_cons]; exact ih.append (Al.one x y)
  | left x _ ih => rw [List.reverse_cons]; have := ih.append (Al.left x (Al.nil (α := α))); simpa using this
  | right y _ ih => rw [List.reverse_cons]; have := ih.append (Al.right y (Al.nil (α := α))); simpa using this
theorem Al.trans {a b : List α} {n : Nat} (h : Al a b n) : ∀ {c : List α} {m : Nat}, Al b c m → ∃ k, k ≤ n + m ∧ Al a c k := by
  induction h with
  | nil => intro c m k; exact ⟨m, by omega, k⟩
  | @both x y a b n _ ih =>
    intro c m k
    generalize hb : y :: b = b' at k
    induction k with
    | nil => cases hb
    | @both y' z b'' c' m' k' _ =>
      injection hb with h1 h2
      subst h1 h2
      obtain ⟨t, ht, hal⟩ := ih k'
      refine ⟨_, ?_, Al.both x z hal⟩
      by_cases e1 : x = y <;> by_cases e2 : y = z <;> by_cases e3 : x = z <;> simp_all <;> omega
    | @left y' b'' c' m' k' _ =>
      injection hb with h1 h2
      subst h1 h2
      obtain ⟨t, ht, hal⟩ := ih k'
      exact ⟨_, by omega, Al.left x hal⟩
    | @right z b'' c' m' k' ih2 =>
      obtain ⟨t, ht, hal⟩ := ih2 hb
      exact ⟨_, by omega, Al.right z hal⟩
  | @left x a b n _ ih =>
    intro c m k
    obtain ⟨t, ht, hal⟩ := ih k
    exact ⟨_, by omega, Al.left x hal⟩
  | @right y a b n _ ih =>
    intro c m k
    generalize hb : y :: b = b' at k
    induction k with
    | nil => cases hb
    | @both y' z b'' c' m' k' _ =>
      injection hb with h1 h2
      subst h1 h2
      obtain ⟨t, ht, hal⟩ := ih k'
      exact ⟨_, by omega, Al.right z hal⟩
    | @left y' b'' c' m' k' _ =>
      injection hb with h1 h2
      subst h1 h2
      obtain ⟨t, ht, hal⟩ := ih k'
      exact ⟨t, by omega, hal⟩
    | @right z b'' c' m' k' ih2 =>
      obtain ⟨t, ht, hal⟩ := ih2 hb
      exact ⟨_, by omega, Al.right z hal⟩
theorem Al.zero {a b : List α} {n : Nat} (h : Al a b n) : n = 0 → a = b := by
  induction h with
  | nil => intro _; rfl
  | both x y _ ih =>
    intro h0
    by_cases e : x = y
    · rw [if_pos e] at h0; rw [ih (by omega), e]
    · rw [if_neg e] at h0; omega
  | left x _ ih => intro h0; omega
  | right y _ ih => intro h0; omega
theorem Al.len {a b : List α} {n : Nat} (h : Al a b n) : a.length ≤ b.length + n ∧ b.length ≤ a.length + n := by
  induction h with
  | nil => simp
  | both x y _ ih => simp only [List.length_cons]; omega
  | left x _ ih => simp only [List.length_cons]; omega
  | right y _ ih => simp only [List.length_cons]; omega

/-- the distance of two lists, read from their ends -/
def edRow (f : List α → Nat) (n : Nat) (x : α) : List α → Nat
  | [] => n
  | y :: ys => min (f ys + if x = y then 0 else 1) (min (f (y :: ys) + 1) (edRow f n x ys + 1))
def ed : List α → List α → Nat
  | [] => fun l => l.length
  | x :: xs => edRow (ed xs) (xs.length + 1) x
theorem ed_nil (l : List α) : ed [] l = l.length := rfl
theorem ed_cons_nil (x : α) (xs : List α) : ed (x :: xs) [] = xs.length + 1 := rfl
theorem ed_cons (x y : α) (xs ys : List α) : ed (x :: xs) (y :: ys) = min (ed xs ys + if x = y then 0 else 1) (min (ed xs (y :: ys) + 1) (ed (x :: xs) ys + 1)) := rfl
theorem al_right : ∀ (l : List α), Al [] l l.length
  | [] => .nil
  | y :: l => Al.right y (al_right l)
theorem al_left : ∀ (l : List α), Al l [] l.length
  | [] => .nil
  | y :: l => Al.left y (al_left l)
/-- the distance is the cost of an alignment -/
theorem ed_al : ∀ (a b : List α), Al a b (ed a b)
  | [], l => al_right l
  | x :: xs, [] => al_left (x :: xs)
  | x :: xs, y :: ys => by
    rw [ed_cons]
    have h1 := Al.both x y (ed_al xs ys)
    have h2 := Al.left x (ed_al xs (y :: ys))
    have h3 := Al.right y (ed_al (x :: xs) ys)
    rcases Nat.le_total (ed xs ys + if x = y then 0 else 1) (min (ed xs (y :: ys) + 1) (ed (x :: xs) ys + 1)) with h | h
    · rw [Nat.min_eq_left h]; exact h1
    · rw [Nat.min_eq_right h]
      rcases Nat.le_total (ed xs (y :: ys) + 1) (ed (x :: xs) ys + 1) with h' | h'
      · rw [Nat.min_eq_left h']; exact h2
      · rw [Nat.min_eq_right h']; exact h3
theorem ed_cons_left_le (x : α) (xs ys : List α) : ed (x :: xs) ys ≤ ed xs ys + 1 := by
  cases ys with
  | nil =>
    rw [ed_cons_nil]
    cases xs with
    | nil => simp [ed_nil]
    | cons z zs => rw [ed_cons_nil]; simp
  | cons y ys => rw [ed_cons]; omega
theorem ed_cons_right_le (y : α) (xs ys : List α) : ed xs (y :: ys) ≤ ed xs ys + 1 := by
  cases xs with
  | nil => simp [ed_nil]
  | cons x xs => rw [ed_cons]; omega
/-- no alignment costs less -/
theorem ed_le {a b : List α} {n : Nat} (h : Al a b n) : ed a b ≤ n := by
  induction h with
  | nil => exact Nat.le_refl _
  | both x y _ ih => rw [ed_cons]; omega
  | left x _ ih => have := ed_cons_left_le x; rename_i a b n _; have := this a b; omega
  | right y _ ih => have := ed_cons_right_le y; rename_i a b n _; have := this a b; omega
theorem ed_self (a : List α) : ed a a = 0 := Nat.le_zero.1 (ed_le (Al.refl a))
theorem ed_zero {a b : List α} : ed a b = 0 ↔ a = b := ⟨fun h => (ed_al a b).zero h, fun h => by rw [h]; exact ed_self b⟩
theorem ed_symm (a b : List α) : ed a b = ed b a := Nat.le_antisymm (ed_le (ed_al b a).symm) (ed_le (ed_al a b).symm)
theorem ed_trans (a b c : List α) : ed a c ≤ ed a b + ed b c := by
  obtain ⟨k, hk, hal⟩ := (ed_al a b).trans (ed_al b c)
  have := ed_le hal
  omega
theorem ed_rev (a b : List α) : ed a.reverse b.reverse = ed a b := by
  refine Nat.le_antisymm (ed_le (ed_al a b).rev) ?_
  have := ed_le (ed_al a.reverse b.reverse).rev
  rwa [List.reverse_reverse, List.reverse_reverse] at this
theorem ed_append (a b c d : List α) : ed (a ++ c) (b ++ d) ≤ ed a b + ed c d := ed_le ((ed_al a b).append (ed_al c d))
theorem ed_len (a b : List α) : a.length ≤ b.length + ed a b ∧ b.length ≤ a.length + ed a b := (ed_al a b).len
theorem ed_le_max : ∀ (a b : List α), ed a b ≤ max a.length b.length
  | [], l => by rw [ed_nil]; omega
  | x :: xs, [] => by rw [ed_cons_nil]; simp
  | x :: xs, y :: ys => by
    have := ed_le_max xs ys
    rw [ed_cons]
    simp only [List.length_cons]
    split <;> omega
theorem ed_cons_same (x : α) (a b : List α) : ed (x :: a) (x :: b) = ed a b := by
  have h1 : ed a b ≤ ed a (x :: b) + 1 := by
    have := ed_trans a (x :: b) b
    have h := ed_cons_left_le x b b
    rw [ed_self] at h
    omega
  have h2 : ed a b ≤ ed (x :: a) b + 1 := by
    have := ed_trans a (x :: a) b
    have h := ed_cons_right_le x a a
    rw [ed_self] at h
    omega
  rw [ed_cons, if_pos rfl]
  omega
theorem ed_append_left (c a b : List α) : ed (c ++ a) (c ++ b) = ed a b := by
  induction c with
  | nil => rfl
  | cons x c ih => rw [List.cons_append, List.cons_append, ed_cons_same, ih]
theorem ed_append_right (c a b : List α) : ed (a ++ c) (b ++ c) = ed a b := by
  rw [← ed_rev, List.reverse_append, List.reverse_append, ed_append_left, ed_rev]
end
end Go.Proofs.Ytmmcdncaiedmgaa
