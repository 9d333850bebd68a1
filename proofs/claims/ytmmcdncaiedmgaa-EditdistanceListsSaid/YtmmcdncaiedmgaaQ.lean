import Derived.Test.YtmmcdncaiedmgaaP
import Derived.Test.YtmmcdncaiedmgaaS3
import Derived.Test.YtmmcdncaiedmgaaF
set_option linter.unusedVariables false
set_option linter.unusedSimpArgs false
namespace Go.Proofs.Ytmmcdncaiedmgaa
/-! plain law of edits -/
def okL (n : Int) : List Ed → Int → Prop
  | [], _ => True
  | x :: l, e => ¬ badE n x ∧ ¬ x.at_ < e ∧ okL n l (x.at_ + x.len)
def endE : List Ed → Int → Int
  | [], e => e
  | x :: l, _ => endE l (x.at_ + x.len)
def sumE : List Ed → Int
  | [] => 0
  | x :: l => (x.tx.size - x.len) + sumE l
/-- what is written before the place where the list of edits ends -/
def outL (A : List UInt8) : List Ed → Nat → List UInt8
  | [], _ => []
  | x :: l, t => (A.drop t).take (x.at_.toNat - t) ++ bl x.tx ++ outL A l (x.at_ + x.len).toNat
theorem chk_okL {n : Int} : ∀ {l : List Ed} {e m : Int}, okL n l e → chk n l e m = (0, m + sumE l)
  | [], e, m, _ => by rw [chk, sumE]; simp
  | x :: l, e, m, ⟨h1, h2, h3⟩ => by rw [chk, if_neg h1, if_neg h2, chk_okL h3, sumE, Int.add_assoc]
theorem okL_of_chk {n : Int} : ∀ {l : List Ed} {e m M : Int}, chk n l e m = (0, M) → okL n l e ∧ M = m + sumE l
  | [], e, m, M, h => by rw [chk] at h; injection h with _ h; exact ⟨trivial, by rw [sumE]; omega⟩
  | x :: l, e, m, M, h => by
    rw [chk] at h
    split at h
    · exact absurd (Prod.mk.inj h).1 (by decide)
    · split at h
      · exact absurd (Prod.mk.inj h).1 (by decide)
      · rename_i h1 h2
        obtain ⟨h3, h4⟩ := okL_of_chk h
        exact ⟨⟨h1, h2, h3⟩, by rw [sumE]; omega⟩
theorem okL_snoc {n : Int} {x : Ed} : ∀ {l : List Ed} {e : Int}, okL n l e → ¬ badE n x → ¬ x.at_ < endE l e → okL n (l ++ [x]) e
  | [], e, _, h1, h2 => ⟨h1, h2, trivial⟩
  | y :: l, e, ⟨g1, g2, g3⟩, h1, h2 => ⟨g1, g2, okL_snoc g3 h1 h2⟩
theorem endE_snoc {x : Ed} : ∀ (l : List Ed) (e : Int), endE (l ++ [x]) e = x.at_ + x.len
  | [], e => rfl
  | y :: l, e => endE_snoc l _
theorem outL_snoc {A : List UInt8} {x : Ed} : ∀ (l : List Ed) (e : Int), outL A (l ++ [x]) e.toNat = outL A l e.toNat ++ ((A.drop (endE l e).toNat).take (x.at_.toNat - (endE l e).toNat) ++ bl x.tx)
  | [], e => by simp [outL, endE]
  | y :: l, e => by
    rw [List.cons_append, outL, outL_snoc l, outL, endE]; simp
theorem applyL_out {A : List UInt8} : ∀ (l : List Ed) (e : Int), applyL A l e.toNat = outL A l e.toNat ++ A.drop (endE l e).toNat
  | [], e => rfl
  | y :: l, e => by rw [applyL, applyL_out l, outL, endE]; simp
theorem sub1_bl {b : ByteArray} {k : Nat} (h : k < (bl b).length) : bl (sub1 b k) = [(bl b)[k]] := by
  rw [sub1, bl_ext, Nat.add_sub_cancel_left, List.drop_eq_getElem_cons h, List.take_succ_cons, List.take_zero]
theorem take_pred {B : List UInt8} {k : Nat} (h0 : 0 < k) (h : k ≤ B.length) : B.take k = B.take (k - 1) ++ [B[k - 1]'(by omega)] := by
  obtain ⟨k, rfl⟩ : ∃ j, k = j + 1 := ⟨k - 1, by omega⟩
  simp only [Nat.add_sub_cancel]
  exact List.take_succ_eq_append_getElem (by omega)
theorem mid_pred {A : List UInt8} {t i : Nat} (ht : t < i) (h : i ≤ A.length) : (A.drop t).take (i - t) = (A.drop t).take (i - 1 - t) ++ [A[i - 1]'(by omega)] := by
  have := take_pred (B := A.drop t) (k := i - t) (by omega) (by rw [List.length_drop]; omega)
  rw [this]
  simp only [List.getElem_drop]
  congr 2
  · omega
  · congr 1; omega

/-- what is known of the script up to the places `i` and `k` -/
structure TrOk (a b : ByteArray) (i k : Nat) (L : List Ed) : Prop where
  ok : okL a.size L 0
  e0 : 0 ≤ endE L 0
  ei : endE L 0 ≤ i
  out : outL (bl a) L 0 ++ ((bl a).drop (endE L 0).toNat).take (i - (endE L 0).toNat) = (bl b).take k
  len : L.length = lev (peq a b) i k
  each : ∀ x ∈ L, 0 ≤ x.at_ ∧ 0 ≤ x.len ∧ x.len ≤ 1 ∧ x.tx.size ≤ 1 ∧ 1 ≤ x.len + x.tx.size ∧ (x.len = 1 → x.at_ + 1 ≤ a.size ∧ sub1 a x.at_.toNat ≠ x.tx)

theorem TrOk.snoc {a b : ByteArray} {i' k' i k : Nat} {L : List Ed} (h : TrOk a b i' k' L) (x : Ed) (hx : x.at_ = i') (hl : 0 ≤ x.len) (hi : (i' : Int) + x.len = i) (hin : i ≤ a.size)
    (hout : (bl b).take k = (bl b).take k' ++ bl x.tx) (hlen : lev (peq a b) i k = lev (peq a b) i' k' + 1)
    (he : x.len ≤ 1 ∧ x.tx.size ≤ 1 ∧ 1 ≤ x.len + x.tx.size ∧ (x.len = 1 → sub1 a i' ≠ x.tx)) : TrOk a b i k (L ++ [x]) := by
  have h1 := h.ei
  have h0 := h.e0
  refine ⟨okL_snoc h.ok (by unfold badE; omega) (by omega), by rw [endE_snoc]; omega, by rw [endE_snoc]; omega, ?_, by rw [List.length_append, h.len, hlen]; rfl, fun y hy => ?_⟩
  · rw [endE_snoc, hx, hi, Int.toNat_natCast, Nat.sub_self, List.take_zero, List.append_nil, hout, ← h.out]
    have := outL_snoc (A := bl a) (x := x) L 0
    rw [Int.toNat_zero] at this
    rw [this, hx, Int.toNat_natCast, List.append_assoc]
  · rcases List.mem_append.1 hy with hy | hy
    · exact h.each y hy
    · rw [List.mem_singleton] at hy
      subst hy
      exact ⟨by omega, hl, he.1, he.2.1, he.2.2.1, fun q => ⟨by omega, by rw [hx, Int.toNat_natCast]; exact he.2.2.2 q⟩⟩

theorem sub1_size {b : ByteArray} {k : Nat} (h : k < b.size) : (sub1 b k).size = 1 := by
  rw [sub1, ByteArray.size_extract]; omega
theorem trace_ok (a b : ByteArray) : ∀ (f i k : Nat), i ≤ a.size → k ≤ b.size → i + k ≤ f → TrOk a b i k (trace (peq a b) b f i k)
  | 0, i, k, hi, hk, hf => by
    obtain rfl : i = 0 := by omega
    obtain rfl : k = 0 := by omega
    exact ⟨trivial, Int.le_refl _, Int.le_refl _, by simp [trace, outL], rfl, fun x hx => by simp [trace] at hx⟩
  | f + 1, i, k, hi, hk, hf => by
    have hbk : ∀ j, j < b.size → j < (bl b).length := fun j hj => by rw [size_bl]; exact hj
    rw [trace]
    split
    · rename_i h
      obtain ⟨rfl, rfl⟩ := h
      exact ⟨trivial, Int.le_refl _, Int.le_refl _, by simp [outL, endE], rfl, fun x hx => by simp at hx⟩
    · rename_i hnz
      split
      · rename_i h
        obtain ⟨⟨hi0, hk0⟩, hp, hl⟩ := h
        have ih := trace_ok a b f (i - 1) (k - 1) (by omega) (by omega) (by omega)
        have h0 := ih.e0
        have h1 := ih.ei
        refine ⟨ih.ok, h0, by omega, ?_, by rw [ih.len, hl], ih.each⟩
        have hA : i ≤ (bl a).length := by rw [size_bl]; exact hi
        have hB : k ≤ (bl b).length := by rw [size_bl]; exact hk
        rw [mid_pred (by omega) hA, ← List.append_assoc, ih.out, take_pred hk0 hB]
        congr 2
        unfold peq bat at hp
        rw [beq_iff_eq] at hp
        simpa [List.getD_eq_getElem?_getD, List.getElem?_eq_getElem (show i - 1 < (bl a).length from by omega), List.getElem?_eq_getElem (show k - 1 < (bl b).length from by omega)] using hp
      · rename_i hnm
        split
        · rename_i h
          obtain ⟨⟨hi0, hk0⟩, hl⟩ := h
          have ih := trace_ok a b f (i - 1) (k - 1) (by omega) (by omega) (by omega)
          have hB : k ≤ (bl b).length := by rw [size_bl]; exact hk
          have hpf : peq a b (i - 1) (k - 1) = false := by
            cases hp : peq a b (i - 1) (k - 1)
            · rfl
            · obtain ⟨i, rfl⟩ : ∃ j, i = j + 1 := ⟨i - 1, by omega⟩
              obtain ⟨k, rfl⟩ : ∃ j, k = j + 1 := ⟨k - 1, by omega⟩
              simp only [Nat.add_sub_cancel] at hp hl
              rw [lev_succ_succ, hp] at hl
              simp at hl
              omega
          refine ih.snoc _ rfl (by dsimp only; decide) (by show ((i - 1 : Nat) : Int) + 1 = i; omega) hi ?_ hl ⟨by dsimp only; decide, by dsimp only; rw [sub1_size (by omega)]; decide, by dsimp only; rw [sub1_size (by omega)]; decide, fun _ q => ?_⟩
          · rw [take_pred hk0 hB]; congr 1; exact (sub1_bl (by omega)).symm
          · have := congrArg bl q
            rw [sub1_bl (by rw [size_bl]; omega), sub1_bl (by omega)] at this
            injection this with this
            unfold peq bat at hpf
            rw [beq_eq_false_iff_ne] at hpf
            apply hpf
            simpa [List.getD_eq_getElem?_getD, List.getElem?_eq_getElem (show i - 1 < (bl a).length from by rw [size_bl]; omega), List.getElem?_eq_getElem (show k - 1 < (bl b).length from by omega)] using this
        · rename_i hnc
          split
          · rename_i h
            obtain ⟨hi0, hl⟩ := h
            have ih := trace_ok a b f (i - 1) k (by omega) (by omega) (by omega)
            refine ih.snoc _ rfl (by dsimp only; decide) (by show ((i - 1 : Nat) : Int) + 1 = i; omega) hi (by simp [bl]) hl ⟨by dsimp only; decide, by dsimp only; decide, by dsimp only; decide, fun _ q => ?_⟩
            have := congrArg ByteArray.size q
            rw [sub1_size (by omega)] at this
            dsimp only at this; exact absurd this (by decide)
          · rename_i hnd
            have hk0 : 0 < k := by
              by_cases h : 0 < k
              · exact h
              · obtain rfl : k = 0 := by omega
                obtain ⟨i, rfl⟩ : ∃ j, i = j + 1 := ⟨i - 1, by omega⟩
                exact absurd ⟨by omega, by cases i <;> simp [lev_succ_zero, lev_zero]⟩ hnd
            have ih := trace_ok a b f i (k - 1) (by omega) (by omega) (by omega)
            have hB : k ≤ (bl b).length := by rw [size_bl]; exact hk
            have hl : lev (peq a b) i k = lev (peq a b) i (k - 1) + 1 := by
              obtain ⟨k, rfl⟩ : ∃ j, k = j + 1 := ⟨k - 1, by omega⟩
              cases i with
              | zero => rw [lev_zero, lev_zero]; simp
              | succ i =>
                simp only [Nat.add_sub_cancel] at hnm hnc hnd ⊢
                rw [lev_succ_succ] at hnm hnc hnd ⊢
                cases hp : peq a b i k <;> simp [hp] at hnm hnc hnd ⊢ <;> omega
            refine ih.snoc _ rfl (Int.le_refl _) (by show (i : Int) + 0 = i; omega) hi ?_ hl ⟨by dsimp only; decide, by dsimp only; rw [sub1_size (by omega)]; decide, by dsimp only; rw [sub1_size (by omega)]; decide, fun q => absurd q (by dsimp only; decide)⟩
            rw [take_pred hk0 hB]; congr 1; exact (sub1_bl (by omega)).symm

theorem script_ok (a b : ByteArray) : TrOk a b a.size b.size (script a b) := trace_ok a b _ _ _ (Nat.le_refl _) (Nat.le_refl _) (Nat.le_refl _)
theorem script_len (a b : ByteArray) : (script a b).length = levS a b := (script_ok a b).len
theorem script_leads (a b : ByteArray) : applyL (bl a) (script a b) 0 = bl b := by
  have h := script_ok a b
  have := applyL_out (A := bl a) (script a b) 0
  rw [Int.toNat_zero] at this
  rw [this]
  have ho := h.out
  rw [← size_bl a, ← size_bl b, List.take_length, List.take_of_length_le (by rw [List.length_drop]; exact Nat.le_refl _)] at ho
  exact ho
end Go.Proofs.Ytmmcdncaiedmgaa
