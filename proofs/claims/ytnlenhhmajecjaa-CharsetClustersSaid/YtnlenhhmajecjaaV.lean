import Derived.Test.YtnlenhhmajecjaaR
set_option linter.unusedVariables false
set_option linter.unusedSimpArgs false
namespace Go.Proofs.Ytnlenhhmajecjaa
/-! plain law: folded and plain forms -/
theorem all_bytes {p : UInt8 → Prop} (h : ∀ n, n < 256 → p n.toUInt8) (c : UInt8) : p c := by
  have := h c.toNat c.toNat_lt
  rwa [u8_round] at this
theorem foldB_kind (c : UInt8) : kindN (foldB c).toNat = kindN c.toNat := all_bytes (p := fun c => kindN (foldB c).toNat = kindN c.toNat) (by decide +kernel) c
theorem foldB_twice (c : UInt8) : foldB (foldB c) = foldB c := all_bytes (p := fun c => foldB (foldB c) = foldB c) (by decide +kernel) c
theorem fold_twice (s : ByteArray) : foldS (foldS s) = foldS s := by
  apply bl_inj
  rw [foldS, bl_mkS, foldS, bl_mkS, List.map_map]
  exact List.map_congr_left fun c _ => foldB_twice c
theorem plain_twice (s : ByteArray) : plainS (plainS s) = plainS s := by
  apply bl_inj
  rw [plainS, bl_mkS, plainS, bl_mkS, List.filter_filter]
  exact List.filter_congr fun c _ => by simp
theorem plain_fold (s : ByteArray) : plainS (foldS s) = foldS (plainS s) := by
  apply bl_inj
  rw [plainS, bl_mkS, foldS, bl_mkS, foldS, bl_mkS, plainS, bl_mkS, List.filter_map]
  congr 1
  exact List.filter_congr fun c _ => by simp [Function.comp, foldB_kind]
theorem bl_fold (s : ByteArray) : bl (foldS s) = (bl s).map foldB := by rw [foldS, bl_mkS]
theorem bl_plain (s : ByteArray) : bl (plainS s) = (bl s).filter fun c => !decide (kindN c.toNat = 2) := by rw [plainS, bl_mkS]
theorem kd_bl {s : ByteArray} {j : Nat} (h : j < (bl s).length) : kd s j = kindN (bl s)[j].toNat := by rw [kd, bat_get s j h]
theorem kd_fold {s : ByteArray} {j : Nat} (h : j < s.size) : kd (foldS s) j = kd s j := by
  have h1 : j < (bl s).length := by rw [size_bl]; exact h
  have h2 : j < (bl (foldS s)).length := by rw [bl_fold, List.length_map]; exact h1
  rw [kd_bl h1, kd_bl h2]
  simp only [bl_fold, List.getElem_map, foldB_kind]
def ld (c : UInt8) : Bool := decide (kindN c.toNat = 1) || decide (kindN c.toNat = 3)
theorem letU_count (s : ByteArray) : ∀ i, i ≤ s.size → letU s i = (((bl s).take i).filter ld).length
  | 0, _ => by simp [letU]
  | i + 1, h => by
    have h1 : i < (bl s).length := by rw [size_bl]; omega
    rw [letU, letU_count s i (by omega), List.take_succ_eq_append_getElem h1, List.filter_append, List.length_append, kd_bl h1]
    by_cases e : kindN (bl s)[i].toNat = 1 ∨ kindN (bl s)[i].toNat = 3
    · rw [if_pos e]
      have : ld (bl s)[i] = true := by simpa [ld] using e
      simp [this]
    · rw [if_neg e]
      have : ld (bl s)[i] = false := by simpa [ld] using e
      simp [this]
theorem letN_count (s : ByteArray) : letN s = ((bl s).filter ld).length := by
  rw [letN, letU_count s s.size (Nat.le_refl _), ← size_bl, List.take_length]
theorem let_fold (s : ByteArray) : letN (foldS s) = letN s := by
  rw [letN_count, letN_count, bl_fold, List.filter_map, List.length_map]
  congr 1
  exact List.filter_congr fun c _ => by simp [Function.comp, ld, foldB_kind]
theorem let_plain (s : ByteArray) : letN (plainS s) = letN s := by
  rw [letN_count, letN_count, bl_plain, List.filter_filter]
  congr 1
  refine List.filter_congr fun c _ => ?_
  unfold ld
  by_cases h1 : kindN c.toNat = 1
  · simp [h1]
  · by_cases h3 : kindN c.toNat = 3
    · simp [h3]
    · simp [h1, h3]
theorem chk_cases {s : ByteArray} (h : s.size ≤ 65536) : chkR s = 0 ∨ chkR s = 11 := by
  rw [chkR, if_neg (by omega)]
  split
  · exact .inr rfl
  · exact .inl rfl
theorem good_fold {s : ByteArray} {j : Nat} (h : j < s.size) : good (foldS s) j ↔ good s j := by
  unfold good
  rw [kd_fold h, kd_fold (show j - 1 < s.size by omega)]
theorem chk_fold {s : ByteArray} (h : s.size ≤ 65536) : chkR (foldS s) = chkR s := by
  have h1 := chk_zero s h
  have h2 := chk_zero (foldS s) (by rw [fold_size]; exact h)
  rw [fold_size] at h2
  have h3 : chkR (foldS s) = 0 ↔ chkR s = 0 := by
    rw [h1, h2]
    exact ⟨fun k j hj => (good_fold hj).1 (k j hj), fun k j hj => (good_fold hj).2 (k j hj)⟩
  have h4 := chk_cases h
  have h5 := chk_cases (s := foldS s) (by rw [fold_size]; exact h)
  rcases h4 with h4 | h4
  · rw [h4, h3.2 h4]
  · rcases h5 with h5 | h5
    · have := h3.1 h5; omega
    · rw [h4, h5]
theorem chk_plain {s : ByteArray} (h : s.size ≤ 65536) (hc : chkR s = 0) : chkR (plainS s) = 0 := by
  have hg := (chk_zero s h).1 hc
  refine (chk_zero (plainS s) (by have := plain_size s; omega)).2 fun j hj => ?_
  have h1 : j < (bl (plainS s)).length := by rw [size_bl]; exact hj
  have hm := List.getElem_mem h1
  simp only [bl_plain] at hm
  obtain ⟨hm1, hm2⟩ := List.mem_filter.1 hm
  obtain ⟨i, hi, he⟩ := List.getElem_of_mem hm1
  have hgi := hg i (by rw [← size_bl]; exact hi)
  have hk : kd (plainS s) j = kd s i := by
    rw [kd_bl h1, kd_bl hi, he]
    simp only [bl_plain]
  have hk2 : kd s i ≠ 2 := by
    rw [kd_bl hi, he]
    simpa using hm2
  refine ⟨by rw [hk]; exact hgi.1, fun e => absurd (hk ▸ e) hk2⟩
def marks : ByteArray := ⟨#[94, 126, 37]⟩
theorem marks_kind : ∀ n, n < 256 → (marks.data.toList.contains n.toUInt8 = true → kindN n = 2) := by decide +kernel
theorem some_plain (s : ByteArray) : (bl (plainS s)).any (inS marks) = false := by
  rw [List.any_eq_false, bl_plain]
  intro c hc hin
  have h2 := (List.mem_filter.1 hc).2
  have := marks_kind c.toNat c.toNat_lt (by rw [u8_round]; exact hin)
  simp [this] at h2
end Go.Proofs.Ytnlenhhmajecjaa
