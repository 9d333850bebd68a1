import Derived.Test.YtnlenhhmajecjaaK
set_option linter.unusedVariables false
set_option linter.unusedSimpArgs false
namespace Go.Proofs.Ytnlenhhmajecjaa
/-! plain law: which strings are accepted -/
def good (s : ByteArray) (i : Nat) : Prop := kd s i ≠ 0 ∧ (kd s i = 2 → 0 < i ∧ (kd s (i - 1) = 1 ∨ kd s (i - 1) = 2))
theorem bl_extract (s : ByteArray) (i j : Nat) : bl (s.extract i j) = ((bl s).drop i).take (j - i) := by
  simp [bl, ByteArray.data_extract, List.extract_eq_take_drop]
theorem kd_extract {s : ByteArray} {f i t : Nat} (h : f + t < i) : kd (s.extract f i) t = kd s (f + t) := by
  unfold kd bat
  rw [bl_extract]
  simp only [List.getD_eq_getElem?_getD]
  rw [List.getElem?_take_of_lt (by omega), List.getElem?_drop]
theorem joins_iff {s : ByteArray} {f i : Nat} : joins s f i = true ↔ i < s.size ∧ kd s i = 2 ∧ kd s f = 1 ∧ f < i := by
  simp only [joins, Bool.and_eq_true, decide_eq_true_eq]
theorem badC_cl {s : ByteArray} {f i : Nat} (h : f < i) : badC (f, s.extract f i) = true ↔ kd s f = 0 ∨ kd s f = 2 := by
  have := kd_extract (s := s) (f := f) (i := i) (t := 0) (by omega)
  rw [Nat.add_zero] at this
  simp only [badC, this, Bool.or_eq_true, decide_eq_true_eq]
theorem clF_bad (s : ByteArray) : ∀ (g f i : Nat), g + 1 = s.size + 1 - i → f < i → i ≤ s.size → (∀ t, f < t → t < i → kd s t = 2) → (f + 1 < i → kd s f = 1) →
    ((clF s (g + 1) f i).any badC = true ↔ (kd s f = 0 ∨ kd s f = 2) ∨ ∃ j, i ≤ j ∧ j < s.size ∧ ¬ good s j)
  | g, f, i, hg, hfi, his, hm, hl => by
    rw [clF]
    by_cases hj : joins s f i = true
    · rw [if_pos hj]
      obtain ⟨h1, h2, h3, h4⟩ := joins_iff.1 hj
      obtain ⟨g', rfl⟩ : ∃ g', g = g' + 1 := ⟨g - 1, by omega⟩
      rw [clF_bad s g' f (i + 1) (by omega) (by omega) (by omega) (fun t ht hti => by
        by_cases e : t = i
        · subst e; exact h2
        · exact hm t ht (by omega)) (fun _ => h3)]
      have hgood : good s i := by
        refine ⟨by omega, fun _ => ⟨by omega, ?_⟩⟩
        by_cases e : i - 1 = f
        · rw [e]; exact .inl h3
        · exact .inr (hm (i - 1) (by omega) (by omega))
      constructor
      · rintro (h | ⟨j, hj1, hj2, hj3⟩)
        · exact .inl h
        · exact .inr ⟨j, by omega, hj2, hj3⟩
      · rintro (h | ⟨j, hj1, hj2, hj3⟩)
        · exact .inl h
        · by_cases e : j = i
          · subst e; exact absurd hgood hj3
          · exact .inr ⟨j, by omega, hj2, hj3⟩
    · rw [if_neg hj, List.any_cons, Bool.or_eq_true, badC_cl hfi]
      by_cases hi : i = s.size
      · have hg0 : g = 0 := by omega
        subst hg0
        rw [clF]
        constructor
        · rintro (h | h)
          · exact .inl h
          · simp at h
        · rintro (h | ⟨j, hj1, hj2, _⟩)
          · exact .inl h
          · omega
      · obtain ⟨g', rfl⟩ : ∃ g', g = g' + 1 := ⟨g - 1, by omega⟩
        rw [clF_bad s g' i (i + 1) (by omega) (by omega) (by omega) (fun t ht hti => by omega) (fun h => by omega)]
        by_cases hf : kd s f = 0 ∨ kd s f = 2
        · exact ⟨fun _ => .inl hf, fun _ => .inl hf⟩
        · have key : (kd s i = 0 ∨ kd s i = 2) ↔ ¬ good s i := by
            unfold good
            constructor
            · rintro (h | h) hgd
              · exact hgd.1 h
              · have hnf : kd s f ≠ 1 := fun e => hj (joins_iff.2 ⟨by omega, h, e, hfi⟩)
                have hif : i = f + 1 := by
                  by_cases e : f + 1 < i
                  · exact absurd (hl e) hnf
                  · omega
                have h3 := (hgd.2 h).2
                rw [hif, Nat.add_sub_cancel] at h3
                rcases h3 with h3 | h3
                · exact hnf h3
                · exact hf (.inr h3)
            · intro hgd
              by_cases h0 : kd s i = 0
              · exact .inl h0
              · by_cases h2 : kd s i = 2
                · exact .inr h2
                · exact absurd ⟨h0, fun e => absurd e h2⟩ hgd
          constructor
          · rintro (h | h | ⟨j, hj1, hj2, hj3⟩)
            · exact .inl h
            · exact .inr ⟨i, Nat.le_refl _, by omega, key.1 h⟩
            · exact .inr ⟨j, by omega, hj2, hj3⟩
          · rintro (h | ⟨j, hj1, hj2, hj3⟩)
            · exact .inl h
            · by_cases e : j = i
              · subst e; exact .inr (.inl (key.2 hj3))
              · exact .inr (.inr ⟨j, by omega, hj2, hj3⟩)
theorem clusters_bad (s : ByteArray) : (clusters s).any badC = true ↔ ∃ j, j < s.size ∧ ¬ good s j := by
  unfold clusters
  cases hs : s.size with
  | zero =>
    rw [clF]
    constructor
    · intro h; simp at h
    · rintro ⟨j, hj, _⟩; omega
  | succ g =>
    rw [clF_bad s g 0 1 (by omega) (by omega) (by omega) (fun t h1 h2 => by omega) (fun h => by omega)]
    have key : (kd s 0 = 0 ∨ kd s 0 = 2) ↔ ¬ good s 0 := by
      unfold good
      constructor
      · rintro (h | h) hgd
        · exact hgd.1 h
        · exact absurd (hgd.2 h).1 (by omega)
      · intro hgd
        by_cases h0 : kd s 0 = 0
        · exact .inl h0
        · by_cases h2 : kd s 0 = 2
          · exact .inr h2
          · exact absurd ⟨h0, fun e => absurd e h2⟩ hgd
    constructor
    · rintro (h | ⟨j, hj1, hj2, hj3⟩)
      · exact ⟨0, by omega, key.1 h⟩
      · exact ⟨j, by omega, hj3⟩
    · rintro ⟨j, hj, hj3⟩
      by_cases e : j = 0
      · subst e; exact .inl (key.2 hj3)
      · exact .inr ⟨j, by omega, by omega, hj3⟩
theorem chk_zero (s : ByteArray) (h : s.size ≤ 65536) : chkR s = 0 ↔ ∀ j, j < s.size → good s j := by
  rw [chkR, if_neg (by omega)]
  by_cases hb : (clusters s).any badC = true
  · rw [if_pos hb]
    obtain ⟨j, hj, hn⟩ := (clusters_bad s).1 hb
    exact ⟨fun h => by omega, fun h => absurd (h j hj) hn⟩
  · rw [if_neg hb]
    exact ⟨fun _ j hj => Classical.byContradiction fun hn => hb ((clusters_bad s).2 ⟨j, hj, hn⟩), fun _ => rfl⟩
instance (s : ByteArray) (i : Nat) : Decidable (good s i) := by unfold good; infer_instance
end Go.Proofs.Ytnlenhhmajecjaa
