/- Plain mathematics of common subsequences: no program in sight. -/
set_option linter.unusedVariables false
set_option linter.unusedSimpArgs false
namespace Go.Proofs.Ytmmcdncaiedmgaa
section
variable {α : Type} [DecidableEq α]

/-- the greatest length of a common subsequence -/
def lcsRow (f : List α → Nat) (x : α) : List α → Nat
  | [] => 0
  | y :: ys => max (max (f (y :: ys)) (lcsRow f x ys)) (if x = y then f ys + 1 else 0)
def lcs : List α → List α → Nat
  | [] => fun _ => 0
  | x :: xs => lcsRow (lcs xs) x
theorem lcs_nil (l : List α) : lcs [] l = 0 := rfl
theorem lcs_cons_nil (x : α) (xs : List α) : lcs (x :: xs) [] = 0 := rfl
theorem lcs_cons (x y : α) (xs ys : List α) : lcs (x :: xs) (y :: ys) = max (max (lcs xs (y :: ys)) (lcs (x :: xs) ys)) (if x = y then lcs xs ys + 1 else 0) := rfl
theorem lcs_right_nil (l : List α) : lcs l [] = 0 := by cases l <;> rfl

theorem lcs_le_cons_left (x : α) (xs ys : List α) : lcs xs ys ≤ lcs (x :: xs) ys := by
  cases ys with
  | nil => rw [lcs_right_nil, lcs_right_nil]; exact Nat.le_refl _
  | cons y ys => rw [lcs_cons]; omega
theorem lcs_le_cons_right (y : α) (xs ys : List α) : lcs xs ys ≤ lcs xs (y :: ys) := by
  cases xs with
  | nil => exact Nat.le_refl _
  | cons x xs => rw [lcs_cons]; omega
theorem lcs_le_left : ∀ (xs ys : List α), lcs xs ys ≤ xs.length
  | [], ys => by rw [lcs_nil]; exact Nat.le_refl _
  | x :: xs, [] => by rw [lcs_cons_nil]; exact Nat.zero_le _
  | x :: xs, y :: ys => by
    have h1 := lcs_le_left xs (y :: ys)
    have h2 := lcs_le_left (x :: xs) ys
    have h3 := lcs_le_left xs ys
    rw [lcs_cons]
    simp only [List.length_cons] at *
    split <;> omega
theorem lcs_le_right : ∀ (xs ys : List α), lcs xs ys ≤ ys.length
  | [], ys => by rw [lcs_nil]; exact Nat.zero_le _
  | x :: xs, [] => by rw [lcs_cons_nil]; exact Nat.zero_le _
  | x :: xs, y :: ys => by
    have h1 := lcs_le_right xs (y :: ys)
    have h2 := lcs_le_right (x :: xs) ys
    have h3 := lcs_le_right xs ys
    rw [lcs_cons]
    simp only [List.length_cons] at *
    split <;> omega

/-- the greatest length from two places on -/
def R (A B : List α) (i k : Nat) : Nat := lcs (A.drop i) (B.drop k)
theorem R_end_left (A B : List α) (i k : Nat) (h : A.length ≤ i) : R A B i k = 0 := by
  unfold R; rw [List.drop_eq_nil_of_le h, lcs_nil]
theorem R_end_right (A B : List α) (i k : Nat) (h : B.length ≤ k) : R A B i k = 0 := by
  unfold R; rw [List.drop_eq_nil_of_le h, lcs_right_nil]
theorem R_le (A B : List α) (i k : Nat) : R A B i k ≤ A.length := by
  have := lcs_le_left (A.drop i) (B.drop k); rw [List.length_drop] at this; unfold R; omega
theorem R_step (A B : List α) (i k : Nat) (hi : i < A.length) (hk : k < B.length) :
    R A B i k = max (max (R A B (i + 1) k) (R A B i (k + 1))) (if A[i] = B[k] then R A B (i + 1) (k + 1) + 1 else 0) := by
  unfold R
  rw [List.drop_eq_getElem_cons hi, List.drop_eq_getElem_cons hk, lcs_cons, ← List.drop_eq_getElem_cons hi, ← List.drop_eq_getElem_cons hk]
theorem R_mono_left (A B : List α) (i k : Nat) : R A B (i + 1) k ≤ R A B i k := by
  by_cases hi : i < A.length
  · unfold R; rw [List.drop_eq_getElem_cons hi]; exact lcs_le_cons_left _ _ _
  · rw [R_end_left A B (i + 1) k (by omega)]; exact Nat.zero_le _
theorem R_mono_right (A B : List α) (i k : Nat) : R A B i (k + 1) ≤ R A B i k := by
  by_cases hk : k < B.length
  · unfold R; rw [List.drop_eq_getElem_cons hk]; exact lcs_le_cons_right _ _ _
  · rw [R_end_right A B i (k + 1) (by omega)]; exact Nat.zero_le _
theorem R_anti_left (A B : List α) {i j : Nat} (k : Nat) (h : i ≤ j) : R A B j k ≤ R A B i k := by
  induction h with
  | refl => exact Nat.le_refl _
  | step _ ih => exact Nat.le_trans (R_mono_left _ _ _ _) ih
theorem R_anti_right (A B : List α) (i : Nat) {k j : Nat} (h : k ≤ j) : R A B i j ≤ R A B i k := by
  induction h with
  | refl => exact Nat.le_refl _
  | step _ ih => exact Nat.le_trans (R_mono_right _ _ _ _) ih

/-- the first place of an element in a list, if any -/
def find1 (x : α) : List α → Option Nat
  | [] => none
  | y :: ys => if x = y then some 0 else (find1 x ys).map (· + 1)
theorem find1_none (x : α) : ∀ (l : List α), (∀ j (h : j < l.length), l[j] ≠ x) → find1 x l = none
  | [], _ => rfl
  | y :: ys, h => by
    have h0 : ¬ x = y := fun e => h 0 (by simp) (by simp [e])
    rw [find1, if_neg h0, find1_none x ys (fun j hj => by have := h (j + 1) (by simp; omega); simpa using this)]
    rfl
theorem find1_some (x : α) : ∀ (l : List α) (i : Nat) (hi : i < l.length), l[i] = x → (∀ j (h : j < l.length), j < i → l[j] ≠ x) → find1 x l = some i
  | [], i, hi, _, _ => absurd hi (by simp)
  | y :: ys, 0, _, he, _ => by
    have : x = y := by simpa using he.symm
    rw [find1, if_pos this]
  | y :: ys, i + 1, hi, he, h => by
    have h0 : ¬ x = y := fun e => h 0 (by simp) (by omega) (by simp [e])
    rw [find1, if_neg h0, find1_some x ys i (by simp at hi; omega) (by simpa using he) (fun j hj hji => by have := h (j + 1) (by simp; omega) (by omega); simpa using this)]
    rfl
/-- the first place of `x` in `B` from `k` on, if any -/
def firstAt (B : List α) (k : Nat) (x : α) : Option Nat := find1 x (B.drop k)

/-- what the search keeps: the least element that a longest subsequence can go on with -/
def upd (lt : α → α → Bool) (A B : List α) (i k m : Nat) (acc : Option (Nat × Nat)) : Option (Nat × Nat) :=
  match A[m]? with
  | none => acc
  | some x => match firstAt B k x with
    | none => acc
    | some t => if R A B (m + 1) (k + t + 1) + 1 = R A B i k then
        (match acc with
        | none => some (m, k + t)
        | some (q, r) => if (match A[q]? with | some z => lt x z | none => false) then some (m, k + t) else some (q, r))
      else acc
def scan (lt : α → α → Bool) (A B : List α) (i k : Nat) : Nat → Nat → Option (Nat × Nat) → Option (Nat × Nat)
  | 0, _, acc => acc
  | f + 1, m, acc => if m < A.length ∧ R A B m k = R A B i k then scan lt A B i k f (m + 1) (upd lt A B i k m acc) else acc
/-- the subsequence that the program finds: `f` elements at most -/
def commonF (lt : α → α → Bool) (A B : List α) : Nat → Nat → Nat → List α
  | 0, _, _ => []
  | f + 1, i, k => if R A B i k = 0 then [] else
    match scan lt A B i k (A.length + 1) i none with
    | none => []
    | some (x, y) => match A[x]? with
      | none => []
      | some e => e :: commonF lt A B f (x + 1) (y + 1)
def common (lt : α → α → Bool) (A B : List α) : List α := commonF lt A B (A.length + 1) 0 0

theorem lcs_cons_le (x : α) : ∀ (xs ys : List α), lcs (x :: xs) ys ≤ lcs xs ys + 1
  | xs, [] => by rw [lcs_cons_nil]; exact Nat.zero_le _
  | xs, y :: ys => by
    have h1 := lcs_cons_le x xs ys
    have h2 := lcs_le_cons_right y xs ys
    rw [lcs_cons]
    split <;> omega
/-- the first element of the first list counts, at its first place in the second, or does not count -/
theorem lcs_first (x : α) (xs : List α) : ∀ (ys : List α), lcs (x :: xs) ys = max (lcs xs ys) (match find1 x ys with | none => 0 | some t => lcs xs (ys.drop (t + 1)) + 1)
  | [] => by rw [lcs_cons_nil, lcs_right_nil]; rfl
  | y :: ys => by
    have ih := lcs_first x xs ys
    have h1 := lcs_cons_le x xs ys
    have h2 := lcs_le_cons_right y xs ys
    rw [lcs_cons, find1]
    by_cases e : x = y
    · rw [if_pos e, if_pos e]
      simp only [List.drop_succ_cons, List.drop_zero]
      omega
    · rw [if_neg e, if_neg e]
      cases hf : find1 x ys with
      | none => rw [hf] at ih; simp only at ih; simp only [Option.map_none]; omega
      | some t => rw [hf] at ih; simp only at ih; simp only [Option.map_some, List.drop_succ_cons]; omega
theorem R_first (A B : List α) (i k : Nat) (hi : i < A.length) : R A B i k = max (R A B (i + 1) k) (match firstAt B k A[i] with | none => 0 | some t => R A B (i + 1) (k + t + 1) + 1) := by
  unfold R firstAt
  rw [List.drop_eq_getElem_cons hi, lcs_first]
  cases find1 A[i] (B.drop k) with
  | none => rfl
  | some t => simp only [List.drop_drop, Nat.add_assoc]
theorem upd_isSome (lt : α → α → Bool) (A B : List α) (i k m : Nat) (acc : Option (Nat × Nat)) (h : acc.isSome = true) : (upd lt A B i k m acc).isSome = true := by
  obtain ⟨p, rfl⟩ := Option.isSome_iff_exists.1 h
  obtain ⟨q, r⟩ := p
  unfold upd
  split
  · rfl
  · split
    · rfl
    · split
      · simp only; split <;> (first | rfl | (split <;> rfl))
      · rfl
theorem upd_finds (lt : α → α → Bool) (A B : List α) (i k m : Nat) (acc : Option (Nat × Nat)) (hm : m < A.length) (h1 : R A B m k = R A B i k) (h2 : R A B (m + 1) k < R A B i k) : (upd lt A B i k m acc).isSome = true := by
  have hf := R_first A B m k hm
  unfold upd
  rw [List.getElem?_eq_getElem hm]
  simp only
  cases hfa : firstAt B k A[m] with
  | none => rw [hfa] at hf; simp only at hf; omega
  | some t =>
    rw [hfa] at hf
    simp only at hf
    have : R A B (m + 1) (k + t + 1) + 1 = R A B i k := by omega
    simp only [if_pos this]
    cases acc with
    | none => rfl
    | some p => obtain ⟨q, r⟩ := p; simp only; split <;> (first | rfl | (split <;> rfl))
theorem scan_keeps (lt : α → α → Bool) (A B : List α) (i k : Nat) : ∀ (f m : Nat) (acc : Option (Nat × Nat)), acc.isSome = true → (scan lt A B i k f m acc).isSome = true
  | 0, _, _, h => h
  | f + 1, m, acc, h => by
    rw [scan]; split
    · exact scan_keeps lt A B i k f _ _ (upd_isSome lt A B i k m acc h)
    · exact h
theorem scan_finds (lt : α → α → Bool) (A B : List α) (i k m : Nat) (hm : m < A.length) (h1 : R A B m k = R A B i k) (h2 : R A B (m + 1) k < R A B i k) :
    ∀ (d f m' : Nat) (acc : Option (Nat × Nat)), m' + d = m → i ≤ m' → d < f → (scan lt A B i k f m' acc).isSome = true
  | 0, 0, _, _, _, _, h => absurd h (Nat.lt_irrefl _)
  | 0, f + 1, m', acc, he, hi, _ => by
    obtain rfl : m' = m := by omega
    rw [scan, if_pos ⟨hm, h1⟩]
    exact scan_keeps lt A B i k f _ _ (upd_finds lt A B i k m' acc hm h1 h2)
  | d + 1, 0, _, _, _, _, h => absurd h (Nat.not_lt_zero _)
  | d + 1, f + 1, m', acc, he, hi, hf => by
    have h3 := R_anti_left A B k hi
    have h4 := R_anti_left A B k (show m' ≤ m by omega)
    rw [scan, if_pos ⟨by omega, by omega⟩]
    exact scan_finds lt A B i k m hm h1 h2 d f (m' + 1) _ (by omega) (by omega) (by omega)
theorem last_place (A B : List α) (i k : Nat) (h : 0 < R A B i k) : ∃ m, i ≤ m ∧ m < A.length ∧ R A B m k = R A B i k ∧ R A B (m + 1) k < R A B i k := by
  have key : ∀ d m, i ≤ m → R A B m k = R A B i k → A.length - m ≤ d → ∃ m, i ≤ m ∧ m < A.length ∧ R A B m k = R A B i k ∧ R A B (m + 1) k < R A B i k := by
    intro d
    induction d with
    | zero =>
      intro m _ hm hd
      rw [R_end_left A B m k (by omega)] at hm
      omega
    | succ d ih =>
      intro m hi hm hd
      by_cases hl : m < A.length
      · by_cases h1 : R A B (m + 1) k < R A B i k
        · exact ⟨m, hi, hl, hm, h1⟩
        · have := R_mono_left A B m k
          exact ih (m + 1) (by omega) (by omega) (by omega)
      · rw [R_end_left A B m k (by omega)] at hm
        omega
  exact key (A.length - i) i (Nat.le_refl _) rfl (Nat.le_refl _)
theorem scan_some (lt : α → α → Bool) (A B : List α) (i k : Nat) (h : 0 < R A B i k) : ∃ x y, scan lt A B i k (A.length + 1) i none = some (x, y) := by
  obtain ⟨m, hi, hm, h1, h2⟩ := last_place A B i k h
  obtain ⟨p, hp⟩ := Option.isSome_iff_exists.1 (scan_finds lt A B i k m hm h1 h2 (m - i) (A.length + 1) i none (by omega) (Nat.le_refl _) (by omega))
  exact ⟨p.1, p.2, hp⟩
theorem commonF_zero (lt : α → α → Bool) (A B : List α) (f i k : Nat) (h : R A B i k = 0) : commonF lt A B f i k = [] := by
  cases f with
  | zero => rfl
  | succ f => rw [commonF, if_pos h]
theorem commonF_step (lt : α → α → Bool) (A B : List α) (f i k x y : Nat) (hf : 0 < f) (h : 0 < R A B i k) (hs : scan lt A B i k (A.length + 1) i none = some (x, y)) (hx : x < A.length) :
    commonF lt A B f i k = A[x] :: commonF lt A B (f - 1) (x + 1) (y + 1) := by
  obtain ⟨f, rfl⟩ : ∃ g, f = g + 1 := ⟨f - 1, by omega⟩
  rw [commonF, if_neg (by omega), hs]
  simp only [List.getElem?_eq_getElem hx]
  rfl
end
end Go.Proofs.Ytmmcdncaiedmgaa
