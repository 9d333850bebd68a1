import Derived.Test.YtmmcdncaiedmgaaL
set_option linter.unusedVariables false
set_option linter.unusedSimpArgs false
namespace Go.Proofs.Ytmmcdncaiedmgaa
section
variable {α : Type} [DecidableEq α]
/-! the plain law of the common subsequence -/
theorem find1_spec (x : α) : ∀ {l : List α} {t : Nat}, find1 x l = some t → l[t]? = some x ∧ ∀ j, j < t → l[j]? ≠ some x
  | [], t, h => by cases h
  | y :: ys, t, h => by
    rw [find1] at h
    by_cases e : x = y
    · rw [if_pos e] at h
      cases h
      exact ⟨by rw [e]; rfl, fun j hj => absurd hj (Nat.not_lt_zero _)⟩
    · rw [if_neg e] at h
      cases hf : find1 x ys with
      | none => rw [hf] at h; cases h
      | some s =>
        rw [hf] at h
        cases h
        obtain ⟨h1, h2⟩ := find1_spec x hf
        refine ⟨by simpa using h1, fun j hj => ?_⟩
        cases j with
        | zero => simpa using fun q : y = x => e q.symm
        | succ j =>
          have hj' : j + 1 < s + 1 := hj
          simpa using h2 j (by omega)
theorem find1_of_get {x : α} : ∀ {l : List α} {q : Nat}, l[q]? = some x → ∃ t, find1 x l = some t ∧ t ≤ q
  | [], q, h => by simp at h
  | y :: ys, q, h => by
    rw [find1]
    by_cases e : x = y
    · exact ⟨0, if_pos e, Nat.zero_le _⟩
    · rw [if_neg e]
      cases q with
      | zero => exact absurd (by simpa using h) (fun q : y = x => e q.symm)
      | succ q =>
        obtain ⟨t, ht, hq⟩ := find1_of_get (x := x) (l := ys) (q := q) (by simpa using h)
        exact ⟨t + 1, by rw [ht]; rfl, by omega⟩
theorem firstAt_spec {B : List α} {k t : Nat} {x : α} (h : firstAt B k x = some t) : B[k + t]? = some x ∧ ∀ j, k ≤ j → j < k + t → B[j]? ≠ some x := by
  obtain ⟨h1, h2⟩ := find1_spec x h
  refine ⟨by rwa [List.getElem?_drop] at h1, fun j hj hjt => ?_⟩
  have := h2 (j - k) (by omega)
  rwa [List.getElem?_drop, show k + (j - k) = j by omega] at this
theorem firstAt_of_get {B : List α} {k q : Nat} {x : α} (hq : k ≤ q) (h : B[q]? = some x) : ∃ t, firstAt B k x = some t ∧ k + t ≤ q := by
  obtain ⟨t, ht, hle⟩ := find1_of_get (x := x) (l := B.drop k) (q := q - k) (by rw [List.getElem?_drop, show k + (q - k) = q by omega]; exact h)
  exact ⟨t, ht, by omega⟩

/-- place `m` of `A` can carry the next element -/
def Cand (A B : List α) (i k m : Nat) (x : α) (t : Nat) : Prop := A[m]? = some x ∧ firstAt B k x = some t ∧ R A B (m + 1) (k + t + 1) + 1 = R A B i k
theorem get_lt {β : Type} {A : List β} {m : Nat} {x : β} (h : A[m]? = some x) : m < A.length := (List.getElem?_eq_some_iff.1 h).1
theorem R_place {A B : List α} {m k t : Nat} {x : α} (h : A[m]? = some x) (hf : firstAt B k x = some t) : R A B (m + 1) (k + t + 1) + 1 ≤ R A B m k := by
  obtain ⟨hm, he⟩ := List.getElem?_eq_some_iff.1 h
  rw [R_first A B m k hm, he, hf]
  exact Nat.le_max_right _ _
/-- what the search has kept when it has seen the places below `m` -/
def Inv (lt : α → α → Bool) (A B : List α) (i k m : Nat) : Option (Nat × Nat) → Prop
  | none => ∀ p x t, i ≤ p → p < m → ¬ Cand A B i k p x t
  | some (q, r) => ∃ z t, i ≤ q ∧ q < m ∧ Cand A B i k q z t ∧ r = k + t ∧ ∀ p x t, i ≤ p → p < m → Cand A B i k p x t → lt x z = false ∧ (p < q → x ≠ z)
theorem Inv.skip {lt : α → α → Bool} {A B : List α} {i k m : Nat} {acc : Option (Nat × Nat)} (h : Inv lt A B i k m acc) (hn : ∀ x t, ¬ Cand A B i k m x t) : Inv lt A B i k (m + 1) acc := by
  match acc, h with
  | none, h =>
    intro p x t hp hpm hc
    by_cases e : p = m
    · subst e; exact hn _ _ hc
    · exact h p x t hp (by omega) hc
  | some (q, r), ⟨z, t, h1, h2, h3, h4, h5⟩ =>
    refine ⟨z, t, h1, by omega, h3, h4, fun p x t hp hpm hc => ?_⟩
    by_cases e : p = m
    · subst e; exact absurd hc (hn _ _)
    · exact h5 p x t hp (by omega) hc
theorem cand_eq {A B : List α} {i k m t t' : Nat} {x x' : α} (h : Cand A B i k m x t) (h' : Cand A B i k m x' t') : x = x' ∧ t = t' := by
  obtain ⟨h1, h2, h3⟩ := h
  obtain ⟨h1', h2', h3'⟩ := h'
  rw [h1] at h1'
  cases h1'
  rw [h2] at h2'
  cases h2'
  exact ⟨rfl, rfl⟩
theorem inv_upd {lt : α → α → Bool} (hir : ∀ x, lt x x = false) (htr : ∀ x y z, lt x y = true → lt y z = true → lt x z = true) {A B : List α} {i k m : Nat} {acc : Option (Nat × Nat)} (him : i ≤ m)
    (h : Inv lt A B i k m acc) : Inv lt A B i k (m + 1) (upd lt A B i k m acc) := by
  unfold upd
  cases hA : A[m]? with
  | none => exact h.skip fun x t hc => by rw [hc.1] at hA; cases hA
  | some x =>
    simp only
    cases hf : firstAt B k x with
    | none =>
      exact h.skip fun y t hc => by
        have h1 := hc.1
        rw [hA] at h1
        cases h1
        have h2 := hc.2.1
        rw [hf] at h2
        cases h2
    | some t =>
      simp only
      by_cases hr : R A B (m + 1) (k + t + 1) + 1 = R A B i k
      · have hc : Cand A B i k m x t := ⟨hA, hf, hr⟩
        rw [if_pos hr]
        match acc, h with
        | none, h =>
          refine ⟨x, t, him, by omega, hc, rfl, fun p u s hp hpm hcp => ?_⟩
          by_cases e : p = m
          · subst e
            rw [(cand_eq hcp hc).1]
            exact ⟨hir x, fun q => absurd q (Nat.lt_irrefl _)⟩
          · exact absurd hcp (h p u s hp (by omega))
        | some (q, r), ⟨z, s, h1, h2, h3, h4, h5⟩ =>
          simp only [h3.1]
          by_cases hl : lt x z = true
          · rw [if_pos hl]
            refine ⟨x, t, him, by omega, hc, rfl, fun p u s' hp hpm hcp => ?_⟩
            by_cases e : p = m
            · subst e
              rw [(cand_eq hcp hc).1]
              exact ⟨hir x, fun q => absurd q (Nat.lt_irrefl _)⟩
            · have h6 := (h5 p u s' hp (by omega) hcp).1
              refine ⟨?_, fun _ e' => ?_⟩
              · cases hux : lt u x with
                | false => rfl
                | true => rw [htr u x z hux hl] at h6; cases h6
              · rw [e', hl] at h6; cases h6
          · rw [if_neg hl]
            refine ⟨z, s, h1, by omega, h3, h4, fun p u s' hp hpm hcp => ?_⟩
            by_cases e : p = m
            · subst e
              rw [(cand_eq hcp hc).1]
              exact ⟨by simpa using hl, fun q => absurd q (by omega)⟩
            · exact h5 p u s' hp (by omega) hcp
      · rw [if_neg hr]
        exact h.skip fun y s hc => hr (by
          have h1 := hc.1
          rw [hA] at h1
          cases h1
          have h2 := hc.2.1
          rw [hf] at h2
          cases h2
          exact hc.2.2)
theorem Inv.less {lt : α → α → Bool} {A B : List α} {i k m : Nat} {acc : Option (Nat × Nat)} (h : Inv lt A B i k m acc) (hm : ∀ p x t, i ≤ p → m ≤ p → ¬ Cand A B i k p x t) (hml : m ≤ A.length ∨ A.length ≤ m) : Inv lt A B i k A.length acc := by
  match acc, h with
  | none, h =>
    intro p x t hp hpm hc
    by_cases e : p < m
    · exact h p x t hp e hc
    · exact hm p x t hp (by omega) hc
  | some (q, r), ⟨z, t, h1, h2, h3, h4, h5⟩ =>
    refine ⟨z, t, h1, get_lt h3.1, h3, h4, fun p x t hp hpm hc => ?_⟩
    by_cases e : p < m
    · exact h5 p x t hp e hc
    · exact absurd hc (hm p x t hp (by omega))
theorem inv_scan {lt : α → α → Bool} (hir : ∀ x, lt x x = false) (htr : ∀ x y z, lt x y = true → lt y z = true → lt x z = true) {A B : List α} {i k : Nat} :
    ∀ (f m : Nat) (acc : Option (Nat × Nat)), i ≤ m → A.length ≤ f + m → Inv lt A B i k m acc → Inv lt A B i k A.length (scan lt A B i k f m acc)
  | 0, m, acc, him, hf, h => by
    rw [scan]
    exact h.less (fun p x t _ hp hc => by have := get_lt hc.1; omega) (.inr (by omega))
  | f + 1, m, acc, him, hf, h => by
    rw [scan]
    by_cases hc : m < A.length ∧ R A B m k = R A B i k
    · rw [if_pos hc]
      exact inv_scan hir htr f (m + 1) _ (by omega) (by omega) (inv_upd hir htr him h)
    · rw [if_neg hc]
      refine h.less (fun p x t hp hmp hcp => hc ⟨by have := get_lt hcp.1; omega, ?_⟩) (by omega)
      have h1 := R_place hcp.1 hcp.2.1
      have h2 := R_anti_left A B k hmp
      have h3 := R_anti_left A B k him
      have h4 := hcp.2.2
      omega
/-- the next element: the least one, at its first places -/
theorem step_spec {lt : α → α → Bool} (hir : ∀ x, lt x x = false) (htr : ∀ x y z, lt x y = true → lt y z = true → lt x z = true) {A B : List α} {i k : Nat} (h : 0 < R A B i k) :
    ∃ x y z, scan lt A B i k (A.length + 1) i none = some (x, y) ∧ A[x]? = some z ∧ i ≤ x ∧ B[y]? = some z ∧ k ≤ y ∧ R A B (x + 1) (y + 1) + 1 = R A B i k ∧
      (∀ j, i ≤ j → j < x → A[j]? ≠ some z) ∧ (∀ j, k ≤ j → j < y → B[j]? ≠ some z) ∧
      (∀ p q u, i ≤ p → k ≤ q → A[p]? = some u → B[q]? = some u → R A B (p + 1) (q + 1) + 1 = R A B i k → lt u z = false) := by
  obtain ⟨x, y, hs⟩ := scan_some lt A B i k h
  have hi := inv_scan hir htr (A := A) (B := B) (i := i) (k := k) (A.length + 1) i none (Nat.le_refl _) (by omega) (fun p x t h1 h2 => absurd h2 (by omega))
  rw [hs] at hi
  obtain ⟨z, t, h1, h2, h3, rfl, h5⟩ := hi
  obtain ⟨hb1, hb2⟩ := firstAt_spec h3.2.1
  refine ⟨x, k + t, z, hs, h3.1, h1, hb1, by omega, h3.2.2, fun j hj hjx hz => ?_, hb2, fun p q u hp hq hpu hqu hr => ?_⟩
  · have hc : Cand A B i k j z t := by
      refine ⟨hz, h3.2.1, ?_⟩
      have q1 := R_place hz h3.2.1
      have q2 := R_anti_left A B k hj
      have q3 := R_anti_left A B (k + t + 1) (show j + 1 ≤ x + 1 by omega)
      have q4 := h3.2.2
      omega
    exact (h5 j z t hj (by omega) hc).2 hjx rfl
  · obtain ⟨s, hs1, hs2⟩ := firstAt_of_get hq hqu
    have hc : Cand A B i k p u s := by
      refine ⟨hpu, hs1, ?_⟩
      have q1 := R_place hpu hs1
      have q2 := R_anti_left A B k hp
      have q3 := R_anti_right A B (p + 1) (show k + s + 1 ≤ q + 1 by omega)
      omega
    exact (h5 p u s hp (get_lt hpu) hc).1
theorem lcs_max : ∀ (a b o : List α), List.Sublist o a → List.Sublist o b → o.length ≤ lcs a b
  | [], b, o, h, _ => by rw [List.sublist_nil.1 h]; simp
  | x :: xs, [], o, _, h => by rw [List.sublist_nil.1 h]; simp
  | x :: xs, y :: ys, o, h, h' => by
    rw [lcs_cons]
    cases h with
    | cons _ h1 => have := lcs_max xs (y :: ys) o h1 h'; omega
    | cons_cons _ h1 =>
      rename_i o'
      cases h' with
      | cons _ h2 => have := lcs_max (x :: xs) ys (x :: o') (h1.cons_cons x) h2; omega
      | cons_cons _ h2 =>
        have := lcs_max xs ys o' h1 h2
        rw [if_pos rfl]
        simp only [List.length_cons]
        omega
theorem sub_first {e : α} {o : List α} : ∀ {l : List α}, List.Sublist (e :: o) l → ∃ p, l[p]? = some e ∧ (∀ j, j < p → l[j]? ≠ some e) ∧ List.Sublist o (l.drop (p + 1))
  | [], h => by cases h
  | y :: ys, h => by
    by_cases e' : y = e
    · subst e'
      refine ⟨0, rfl, fun j hj => absurd hj (Nat.not_lt_zero _), ?_⟩
      cases h with
      | cons _ h => exact (List.sublist_cons_self _ _).trans h
      | cons_cons _ h => exact h
    · cases h with
      | cons_cons _ h => exact absurd rfl e'
      | cons _ h =>
        obtain ⟨p, h1, h2, h3⟩ := sub_first h
        refine ⟨p + 1, by simpa using h1, fun j hj => ?_, by simpa using h3⟩
        cases j with
        | zero => simpa using e'
        | succ j => simpa using h2 j (by omega)
theorem sub_at {e : α} {o A : List α} {i : Nat} (h : List.Sublist (e :: o) (A.drop i)) : ∃ p, i ≤ p ∧ A[p]? = some e ∧ (∀ j, i ≤ j → j < p → A[j]? ≠ some e) ∧ List.Sublist o (A.drop (p + 1)) := by
  obtain ⟨p, h1, h2, h3⟩ := sub_first h
  refine ⟨i + p, by omega, by rwa [List.getElem?_drop] at h1, fun j hj hjp => ?_, by rwa [List.drop_drop, show i + (p + 1) = i + p + 1 by omega] at h3⟩
  have := h2 (j - i) (by omega)
  rwa [List.getElem?_drop, show i + (j - i) = j by omega] at this
theorem sub_cons {β : Type} {e : β} {o A : List β} {i p : Nat} (hi : i ≤ p) (h : A[p]? = some e) (hs : List.Sublist o (A.drop (p + 1))) : List.Sublist (e :: o) (A.drop i) := by
  obtain ⟨hp, he⟩ := List.getElem?_eq_some_iff.1 h
  have h1 : List.Sublist (e :: o) (A.drop p) := by
    rw [List.drop_eq_getElem_cons hp, he]
    exact hs.cons_cons e
  have h2 : A.drop p = (A.drop i).drop (p - i) := by rw [List.drop_drop, show i + (p - i) = p by omega]
  rw [h2] at h1
  exact h1.trans (List.drop_sublist _ _)
theorem commonF_spec {lt : α → α → Bool} (hir : ∀ x, lt x x = false) (htr : ∀ x y z, lt x y = true → lt y z = true → lt x z = true) (A B : List α) :
    ∀ (f i k : Nat), A.length + 1 ≤ f + i → (commonF lt A B f i k).length = R A B i k ∧ List.Sublist (commonF lt A B f i k) (A.drop i) ∧ List.Sublist (commonF lt A B f i k) (B.drop k)
  | 0, i, k, hf => by
    have : R A B i k = 0 := R_end_left A B i k (by omega)
    rw [commonF, this]
    exact ⟨rfl, List.nil_sublist _, List.nil_sublist _⟩
  | f + 1, i, k, hf => by
    by_cases h : R A B i k = 0
    · rw [commonF_zero _ _ _ _ _ _ h, h]
      exact ⟨rfl, List.nil_sublist _, List.nil_sublist _⟩
    · obtain ⟨x, y, z, hs, h1, h2, h3, h4, h5, _⟩ := step_spec hir htr (show 0 < R A B i k by omega)
      obtain ⟨hx, he⟩ := List.getElem?_eq_some_iff.1 h1
      rw [commonF_step lt A B (f + 1) i k x y (by omega) (by omega) hs hx, he]
      obtain ⟨q1, q2, q3⟩ := commonF_spec hir htr A B f (x + 1) (y + 1) (by omega)
      refine ⟨by rw [Nat.add_sub_cancel, List.length_cons, q1, h5], ?_, ?_⟩
      · exact sub_cons h2 h1 q2
      · exact sub_cons h4 h3 q3
theorem R_both {A B : List α} {p q : Nat} {u : α} (h1 : A[p]? = some u) (h2 : B[q]? = some u) : R A B (p + 1) (q + 1) + 1 ≤ R A B p q := by
  obtain ⟨t, ht, hle⟩ := firstAt_of_get (Nat.le_refl q) h2
  have := R_place h1 ht
  have h3 := R_anti_right A B (p + 1) (show q + t + 1 ≤ q + 1 by omega)
  omega
end
end Go.Proofs.Ytmmcdncaiedmgaa
