/- The table of the program computes the plain distance. -/
import Derived.Test.YtmmcdncaiedmgaaB
import Derived.Test.YtmmcdncaiedmgaaE
set_option linter.unusedVariables false
set_option linter.unusedSimpArgs false
namespace Go.Proofs.Ytmmcdncaiedmgaa
theorem take_rev {α : Type} (A : List α) (i : Nat) (h : i < A.length) : (A.take (i + 1)).reverse = A[i] :: (A.take i).reverse := by
  rw [List.take_succ_eq_append_getElem h, List.reverse_append]; rfl
theorem lev_ed {α : Type} [DecidableEq α] (A B : List α) (p : Nat → Nat → Bool) (hp : ∀ i k (hi : i < A.length) (hk : k < B.length), p i k = decide (A[i] = B[k])) :
    ∀ i k, i ≤ A.length → k ≤ B.length → lev p i k = ed (A.take i).reverse (B.take k).reverse
  | 0, k, _, hk => by rw [lev_zero]; simp [ed_nil]; omega
  | i + 1, 0, hi, _ => by rw [lev_succ_zero, take_rev A i (by omega)]; simp [ed_cons_nil]; omega
  | i + 1, k + 1, hi, hk => by
    have h1 := lev_ed A B p hp i k (by omega) (by omega)
    have h2 := lev_ed A B p hp i (k + 1) (by omega) hk
    have h3 := lev_ed A B p hp (i + 1) k hi (by omega)
    rw [lev_succ_succ, hp i k (by omega) (by omega), h1, h2, h3, take_rev A i (by omega), take_rev B k (by omega), ed_cons]
    simp only [decide_eq_true_eq]
theorem size_bl (a : ByteArray) : (bl a).length = a.size := by simp [bl]
theorem levS_ed (a b : ByteArray) : levS a b = ed (bl a) (bl b) := by
  unfold levS
  rw [lev_ed (bl a) (bl b) (peq a b) (fun i k hi hk => by
    unfold peq bat
    rw [show (bl a).getD i 0 = (bl a)[i] from by simp [List.getD_eq_getElem?_getD, List.getElem?_eq_getElem hi], show (bl b).getD k 0 = (bl b)[k] from by simp [List.getD_eq_getElem?_getD, List.getElem?_eq_getElem hk]]
    rw [Bool.eq_iff_iff]; simp) _ _ (by rw [size_bl]; exact Nat.le_refl _) (by rw [size_bl]; exact Nat.le_refl _)]
  rw [← size_bl a, ← size_bl b, List.take_length, List.take_length, ed_rev]
theorem bl_inj {a b : ByteArray} (h : bl a = bl b) : a = b := by
  cases a; cases b
  simp only [bl, Array.toList_inj] at h
  rw [show _ = _ from h]
theorem levS_zero (a b : ByteArray) : levS a b = 0 ↔ a = b := by rw [levS_ed, ed_zero]; exact ⟨bl_inj, fun h => by rw [h]⟩
theorem levS_symm (a b : ByteArray) : levS a b = levS b a := by rw [levS_ed, levS_ed, ed_symm]
theorem levS_trans (a b c : ByteArray) : levS a c ≤ levS a b + levS b c := by rw [levS_ed, levS_ed, levS_ed]; exact ed_trans _ _ _
theorem levS_len (a b : ByteArray) : a.size ≤ b.size + levS a b ∧ b.size ≤ a.size + levS a b := by
  have := ed_len (bl a) (bl b); rwa [size_bl, size_bl, ← levS_ed] at this
theorem levS_max (a b : ByteArray) : levS a b ≤ max a.size b.size := by
  have := ed_le_max (bl a) (bl b); rwa [size_bl, size_bl, ← levS_ed] at this
end Go.Proofs.Ytmmcdncaiedmgaa
