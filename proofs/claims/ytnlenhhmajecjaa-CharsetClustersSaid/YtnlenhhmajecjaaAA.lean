import Derived.Test.YtnlenhhmajecjaaE
import Derived.Test.YtnlenhhmajecjaaV
import Derived.Lib.Join
import Derived.Lib.SlicesS
set_option linter.unusedVariables false
set_option linter.unusedSimpArgs false
namespace Go.Proofs.Ytnlenhhmajecjaa
/-! plain law: the clusters of a string -/
theorem clF_form (s : ByteArray) : ∀ (g f i : Nat), i + g = s.size + 1 → f < i → (∀ t, f < t → t < i → kd s t = 2) → ∀ x ∈ clF s g f i, ∃ a b, x = (a, s.extract a b) ∧ a < b ∧ b ≤ s.size ∧ ∀ t, a < t → t < b → kd s t = 2
  | 0, f, i, _, _, _, x, hx => by simp [clF] at hx
  | g + 1, f, i, hg, hf, hk, x, hx => by
    rw [clF] at hx
    by_cases hj : joins s f i = true
    · rw [if_pos hj] at hx
      refine clF_form s g f (i + 1) (by omega) (by omega) (fun t h1 h2 => ?_) x hx
      by_cases e : t = i
      · subst e; exact (joins_iff.1 hj).2.1
      · exact hk t h1 (by omega)
    · rw [if_neg hj] at hx
      rcases List.mem_cons.1 hx with rfl | hx
      · exact ⟨f, i, rfl, hf, by omega, hk⟩
      · exact clF_form s g i (i + 1) (by omega) (by omega) (fun t h1 h2 => by omega) x hx
theorem clF_flat (s : ByteArray) : ∀ (g f i : Nat), i + g = s.size + 1 → f < i → (g = 0 → f = s.size) → ((clF s g f i).map (fun x => bl x.2)).flatten = (bl s).drop f
  | 0, f, i, hg, hf, h0 => by
    rw [h0 rfl, clF, List.drop_of_length_le (by rw [size_bl]; exact Nat.le_refl _)]; rfl
  | g + 1, f, i, hg, hf, h0 => by
    rw [clF]
    by_cases hj : joins s f i = true
    · rw [if_pos hj]
      have := (joins_iff.1 hj).1
      exact clF_flat s g f (i + 1) (by omega) (by omega) (fun e => by omega)
    · rw [if_neg hj, List.map_cons, List.flatten_cons, clF_flat s g i (i + 1) (by omega) (by omega) (fun e => by omega), bl_extract]
      have e : (bl s).drop i = ((bl s).drop f).drop (i - f) := by rw [List.drop_drop]; congr 1; omega
      rw [e, List.take_append_drop]
theorem inter_nil : ∀ (xs : List (List UInt8)), Lib.join xs [] = xs.flatten
  | [] => rfl
  | [x] => by simp [Lib.join, List.intercalate]
  | x :: y :: r => by
    have h := inter_nil (y :: r)
    simp only [Lib.join, List.intercalate] at h ⊢
    rw [List.intersperse_cons_cons, List.flatten_cons, List.flatten_cons, h, List.nil_append]
    simp
theorem cl_flat (s : ByteArray) : ((clR s).map bl).flatten = bl s := by
  have h := clF_flat s s.size 0 1 (by omega) (by omega) (fun e => e.symm)
  rw [List.drop_zero] at h
  rw [clR, clusters, List.map_map]
  exact h
theorem cl_join (s : ByteArray) : Lib.join ((clR s).map (·.data.toList)) (ByteArray.mk #[]).data.toList = bl s := by
  have h := cl_flat s
  rw [show (ByteArray.mk #[]).data.toList = [] from rfl, inter_nil]
  exact h
theorem cl_form {s c : ByteArray} (h : c ∈ clR s) : ∃ a b, (a, c) ∈ clusters s ∧ c = s.extract a b ∧ a < b ∧ b ≤ s.size ∧ ∀ t, a < t → t < b → kd s t = 2 := by
  obtain ⟨x, hx, rfl⟩ := List.mem_map.1 h
  obtain ⟨a, b, rfl, h1, h2, h3⟩ := clF_form s s.size 0 1 (by omega) (by omega) (fun t h1 h2 => by omega) x hx
  exact ⟨a, b, hx, rfl, h1, h2, h3⟩
theorem cl_size {s c : ByteArray} (h : c ∈ clR s) : 0 < c.size ∧ c.size ≤ s.size := by
  obtain ⟨a, b, _, rfl, h1, h2, _⟩ := cl_form h
  rw [ByteArray.size_extract]; omega
theorem cl_empty (s : ByteArray) : Lib.containsS (clR s) ⟨#[]⟩ = false := by
  rw [Bool.eq_false_iff]
  intro h
  have := (cl_size ((Lib.containsS_iff _ _).1 h)).1
  exact absurd this (by decide)
theorem cl_one {s : ByteArray} (hs : s.size ≤ 65536) (hc : chkR s = 0) : ∀ c ∈ clR s, (plainS c).size = 1 := by
  intro c h
  obtain ⟨a, b, hm, rfl, h1, h2, h3⟩ := cl_form h
  have hb : ¬ (kd s a = 0 ∨ kd s a = 2) := by
    rw [← badC_cl h1]
    intro hbad
    rw [chkR, if_neg (by omega), if_pos (List.any_eq_true.2 ⟨_, hm, hbad⟩)] at hc
    cases hc
  rw [← size_bl, bl_plain, bl_extract]
  have hl : a < (bl s).length := by rw [size_bl]; omega
  obtain ⟨n, hn⟩ : ∃ n, b - a = n + 1 := ⟨b - a - 1, by omega⟩
  rw [hn, List.drop_eq_getElem_cons hl, List.take_succ_cons, List.filter_cons, if_pos, List.length_cons]
  · rw [List.filter_eq_nil_iff.2]
    · rfl
    · intro x hx
      obtain ⟨j, hj, rfl⟩ := List.getElem_of_mem hx
      rw [List.length_take, List.length_drop] at hj
      have hk := h3 (a + 1 + j) (by omega) (by omega)
      rw [kd_bl (by omega)] at hk
      simp only [List.getElem_take, List.getElem_drop]
      simp [hk]
  · rw [← kd_bl hl]
    simpa using fun e => hb (.inr e)
theorem sum_ones : ∀ (L : List (List UInt8)), (∀ x ∈ L, x.length = 1) → L.flatten.length = L.length
  | [], _ => rfl
  | x :: r, h => by
    rw [List.flatten_cons, List.length_append, List.length_cons, h x (List.mem_cons_self ..), sum_ones r (fun y hy => h y (List.mem_cons_of_mem _ hy))]
    omega
theorem cl_count {s : ByteArray} (hs : s.size ≤ 65536) (hc : chkR s = 0) : (clR s).length = (plainS s).size := by
  have h1 := cl_one hs hc
  have e : bl (plainS s) = ((clR s).map fun c => bl (plainS c)).flatten := by
    rw [bl_plain]
    conv => lhs; rw [← cl_flat s]
    rw [List.filter_flatten, List.map_map]
    exact congrArg List.flatten (List.map_congr_left fun c _ => (bl_plain c).symm)
  rw [← size_bl, e, sum_ones, List.length_map]
  · intro x hx
    obtain ⟨c, hc', rfl⟩ := List.mem_map.1 hx
    rw [size_bl]; exact h1 c hc'
theorem cl_any {s : ByteArray} (hs : s.size ≤ 65536) (hc : chkR s = 0) : (clR s).any (fun c => decide ((plainS c).size ≠ 1)) = false := by
  rw [List.any_eq_false]
  intro c h
  simp [cl_one hs hc c h]
end Go.Proofs.Ytnlenhhmajecjaa
