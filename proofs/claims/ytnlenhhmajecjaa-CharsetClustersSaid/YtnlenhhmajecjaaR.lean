import Derived.Test.YtnlenhhmajecjaaQ
set_option linter.unusedVariables false
set_option linter.unusedSimpArgs false
namespace Go.Proofs.Ytnlenhhmajecjaa
/-! plain law: words and names -/
theorem letU_all (s : ByteArray) : ∀ i, letU s i = i → ∀ j, j < i → kd s j = 1 ∨ kd s j = 3
  | 0, _, j, hj => absurd hj (Nat.not_lt_zero _)
  | i + 1, h, j, hj => by
    rw [letU] at h
    have hle := letU_le s i
    by_cases hk : kd s i = 1 ∨ kd s i = 3
    · rw [if_pos hk] at h
      by_cases e : j = i
      · subst e; exact hk
      · exact letU_all s i (by omega) j (by omega)
    · rw [if_neg hk] at h
      omega
theorem any_q56 (s : ByteArray) : (bl s).any q56 = false ↔ ∀ j, j < s.size → kd s j ≠ 5 ∧ kd s j ≠ 6 := by
  rw [List.any_eq_false]
  constructor
  · intro h j hj
    have hj' : j < (bl s).length := by rw [size_bl]; exact hj
    have := h _ (List.getElem_mem hj')
    rw [← bat_get s j hj'] at this
    simpa [q56, kd] using this
  · intro h c hc
    obtain ⟨j, hj, rfl⟩ := List.getElem_of_mem hc
    have := h j (by rw [← size_bl]; exact hj)
    rw [kd, bat_get s j hj] at this
    simpa [q56] using this
theorem isW_iff (s : ByteArray) : isW s = true ↔ (0 < s.size ∧ s.size ≤ 64) ∧ (∀ j, j < s.size → good s j) ∧ (kd s 0 = 1 ∨ kd s 0 = 3) ∧ ∀ j, j < s.size → kd s j ≠ 5 ∧ kd s j ≠ 6 := by
  unfold isW
  rw [Bool.and_eq_true, Bool.and_eq_true, Bool.and_eq_true, decide_eq_true_iff, decide_eq_true_iff, Bool.not_eq_true', any_q56, Bool.or_eq_true, decide_eq_true_iff, decide_eq_true_iff]
  constructor
  · rintro ⟨h1, h2, h3, h4⟩
    exact ⟨h1, (chk_zero s (by omega)).1 h2, h3, h4⟩
  · rintro ⟨h1, h2, h3, h4⟩
    exact ⟨h1, (chk_zero s (by omega)).2 h2, h3, h4⟩
theorem isN_iff (s : ByteArray) : isN s = true ↔ (0 < s.size ∧ s.size ≤ 16) ∧ letN s = s.size := by
  unfold isN
  rw [Bool.and_eq_true, decide_eq_true_iff, decide_eq_true_iff]
theorem name_word {s : ByteArray} (h : isN s = true) : isW s = true ∧ letN s = s.size ∧ s.size ≤ 16 := by
  obtain ⟨h1, h2⟩ := (isN_iff s).1 h
  have hk := letU_all s s.size h2
  refine ⟨(isW_iff s).2 ⟨by omega, fun j hj => ?_, hk 0 (by omega), fun j hj => ?_⟩, h2, h1.2⟩
  · have := hk j hj
    exact ⟨by omega, fun e => by omega⟩
  · have := hk j hj
    omega
theorem bl_app (a b : ByteArray) : bl (a ++ b) = bl a ++ bl b := by simp [bl]
theorem kd_left {a b : ByteArray} {j : Nat} (h : j < a.size) : kd (a ++ b) j = kd a j := by
  unfold kd bat
  rw [bl_app]
  simp only [List.getD_eq_getElem?_getD]
  rw [List.getElem?_append_left (by rw [size_bl]; exact h)]
theorem kd_right {a b : ByteArray} {j : Nat} (h : a.size ≤ j) : kd (a ++ b) j = kd b (j - a.size) := by
  unfold kd bat
  rw [bl_app]
  simp only [List.getD_eq_getElem?_getD]
  rw [List.getElem?_append_right (by rw [size_bl]; exact h), size_bl]
theorem word_app {s t : ByteArray} (h : isW s = true) (k : isW t = true) : isW (s ++ t) = decide (s.size + t.size ≤ 64) := by
  obtain ⟨h1, h2, h3, h4⟩ := (isW_iff s).1 h
  obtain ⟨k1, k2, k3, k4⟩ := (isW_iff t).1 k
  have hsz : (s ++ t).size = s.size + t.size := by simp
  rw [Bool.eq_iff_iff, decide_eq_true_iff, isW_iff, hsz]
  constructor
  · rintro ⟨q, _⟩; omega
  · intro hle
    refine ⟨by omega, fun j hj => ?_, ?_, fun j hj => ?_⟩
    · by_cases hl : j < s.size
      · obtain ⟨g1, g2⟩ := h2 j hl
        refine ⟨by rw [kd_left hl]; exact g1, fun e => ?_⟩
        rw [kd_left hl] at e
        obtain ⟨g3, g4⟩ := g2 e
        exact ⟨g3, by rw [kd_left (by omega)]; exact g4⟩
      · obtain ⟨g1, g2⟩ := k2 (j - s.size) (by omega)
        refine ⟨by rw [kd_right (by omega)]; exact g1, fun e => ?_⟩
        rw [kd_right (by omega)] at e
        obtain ⟨g3, g4⟩ := g2 e
        refine ⟨by omega, ?_⟩
        rw [kd_right (by omega), show j - 1 - s.size = j - s.size - 1 by omega]
        exact g4
    · rw [kd_left (by omega)]; exact h3
    · by_cases hl : j < s.size
      · rw [kd_left hl]; exact h4 j hl
      · rw [kd_right (by omega)]; exact k4 _ (by omega)
/-- the characters that no word has -/
def noW : ByteArray := ⟨#[32, 46, 44, 59, 58, 33, 63, 40, 41, 45]⟩
theorem noW_kind : ∀ n, n < 256 → (noW.data.toList.contains n.toUInt8 = true → kindN n = 5 ∨ kindN n = 6) := by decide +kernel
theorem word_some {s : ByteArray} (h : isW s = true) : (bl s).any (inS noW) = false := by
  obtain ⟨h1, h2, h3, h4⟩ := (isW_iff s).1 h
  rw [List.any_eq_false]
  intro c hc hin
  obtain ⟨j, hj, rfl⟩ := List.getElem_of_mem hc
  have hk := h4 j (by rw [← size_bl]; exact hj)
  rw [kd, bat_get s j hj] at hk
  have := noW_kind (bl s)[j].toNat (UInt8.toNat_lt _) (by rw [u8_round]; exact hin)
  omega
theorem word_chk {s : ByteArray} (h : isW s = true) : chkR s = 0 := by
  obtain ⟨h1, h2, h3, h4⟩ := (isW_iff s).1 h
  exact (chk_zero s (by omega)).2 h2
end Go.Proofs.Ytnlenhhmajecjaa
