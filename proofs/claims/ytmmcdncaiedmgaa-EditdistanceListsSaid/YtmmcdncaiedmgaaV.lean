import Derived.Test.YtmmcdncaiedmgaaU
import Derived.Test.YtmmcdncaiedmgaaN4
set_option linter.unusedVariables false
set_option linter.unusedSimpArgs false
namespace Go.Proofs.Ytmmcdncaiedmgaa
open Go.RowKit
def touchE : List Ed → Int
  | [] => 0
  | x :: l => max (x.tx.size : Int) x.len + touchE l
theorem ed_applyL {A : List UInt8} : ∀ {l : List Ed} {e : Int}, okL A.length l e → 0 ≤ e → e ≤ A.length → (ed (A.drop e.toNat) (applyL A l e.toNat) : Int) ≤ touchE l
  | [], e, _, h0, h1 => by rw [applyL, ed_self, touchE]; exact Int.le_refl _
  | x :: l, e, ⟨h2, h3, h4⟩, h0, h1 => by
    have hb : 0 ≤ x.at_ ∧ 0 ≤ x.len ∧ x.at_ ≤ (A.length : Int) ∧ x.len ≤ (A.length : Int) - x.at_ := by unfold badE at h2; omega
    have ih := ed_applyL h4 (by omega) (by omega)
    rw [applyL, touchE]
    have hsplit : A.drop e.toNat = (A.drop e.toNat).take (x.at_.toNat - e.toNat) ++ ((A.drop x.at_.toNat).take x.len.toNat ++ A.drop (x.at_ + x.len).toNat) := by
      have s1 := (List.take_append_drop (x.at_.toNat - e.toNat) (A.drop e.toNat)).symm
      have s2 := (List.take_append_drop x.len.toNat (A.drop x.at_.toNat)).symm
      rw [List.drop_drop] at s1 s2
      rw [show e.toNat + (x.at_.toNat - e.toNat) = x.at_.toNat from by omega] at s1
      rw [show x.at_.toNat + x.len.toNat = (x.at_ + x.len).toNat from by omega] at s2
      rw [← s2]; exact s1
    have h5 := ed_append ((A.drop e.toNat).take (x.at_.toNat - e.toNat)) ((A.drop e.toNat).take (x.at_.toNat - e.toNat)) ((A.drop x.at_.toNat).take x.len.toNat ++ A.drop (x.at_ + x.len).toNat) (bl x.tx ++ applyL A l (x.at_ + x.len).toNat)
    rw [← hsplit, ed_self, ← List.append_assoc] at h5
    have h6 := ed_append ((A.drop x.at_.toNat).take x.len.toNat) (bl x.tx) (A.drop (x.at_ + x.len).toNat) (applyL A l (x.at_ + x.len).toNat)
    have h7 := ed_le_max ((A.drop x.at_.toNat).take x.len.toNat) (bl x.tx)
    rw [size_bl, List.length_take, List.length_drop] at h7
    omega
theorem chk_code {n : Int} : ∀ (l : List Ed) (e m : Int), (chk n l e m).1 = 0 ∨ (((chk n l e m).1 = 2 ∨ (chk n l e m).1 = 10) ∧ l ≠ [])
  | [], e, m => .inl rfl
  | x :: l, e, m => by
    rw [chk]
    split
    · exact .inr ⟨.inl rfl, by simp⟩
    · split
      · exact .inr ⟨.inr rfl, by simp⟩
      · rcases chk_code l (x.at_ + x.len) (m + (x.tx.size - x.len)) with h | ⟨h, _⟩
        · exact .inl h
        · exact .inr ⟨h, by simp⟩
theorem sumE_le {l : List Ed} (h : ∀ x ∈ l, x.tx.size ≤ 8 ∧ 0 ≤ x.len) : sumE l ≤ 8 * l.length := by
  induction l with
  | nil => simp [sumE]
  | cons x l ih =>
    have h1 := h x (by simp)
    have h2 := ih (fun y hy => h y (by simp [hy]))
    rw [sumE, List.length_cons]; omega
/-- what the law asks of `Apply` -/
theorem applied_law (a : ByteArray) (l : List Ed) (ha : a.size ≤ 12) (hl : l.length ≤ 6) (ht : ∀ x ∈ l, x.tx.size ≤ 8) :
    ((applyR a l).2 = 2 ∨ (applyR a l).2 = 10) ∧ (applyR a l).1 = ByteArray.empty ∧ 0 < l.length ∨
    (applyR a l).2 = 0 ∧ okL a.size l 0 ∧ ((applyR a l).1.size : Int) = a.size + sumE l ∧ (levS a (applyR a l).1 : Int) ≤ touchE l ∧ (applyR a l).1.size ≤ 256 := by
  rcases chk_code l 0 (a.size : Int) (n := a.size) with h | ⟨h, hne⟩
  · right
    obtain ⟨c, m, hc⟩ : ∃ c m, chk (a.size : Int) l 0 a.size = (c, m) := ⟨_, _, rfl⟩
    rw [hc] at h
    simp only at h
    subst h
    obtain ⟨hok, rfl⟩ := okL_of_chk hc
    have hs := sumE_le (fun x hx => ⟨ht x hx, by have := okL_mem hok hx; unfold badE at this; omega⟩)
    rw [applied_eq (by omega) hc (by omega)]
    have h1 := applyL_len (A := bl a) (l := l) (e := 0) (by rw [size_bl]; exact hok) (Int.le_refl _) (by omega)
    have h2 := ed_applyL (A := bl a) (l := l) (e := 0) (by rw [size_bl]; exact hok) (Int.le_refl _) (by omega)
    rw [Int.toNat_zero, size_bl] at h1
    rw [Int.toNat_zero, List.drop_zero] at h2
    have h3 : bl (applied a l) = applyL (bl a) l 0 := rfl
    have h4 : ((applied a l).size : Int) = a.size + sumE l := by rw [← size_bl, h3]; omega
    exact ⟨rfl, hok, h4, by rw [levS_ed, h3]; exact h2, by show (applied a l).size ≤ 256; omega⟩
  · left
    have hn : (chk (a.size : Int) l 0 a.size).1 ≠ 0 := by omega
    rw [apply_code (c := (chk (a.size : Int) l 0 a.size).1) (m := (chk (a.size : Int) l 0 a.size).2) (by omega) rfl hn]
    exact ⟨h, rfl, List.length_pos_iff.2 hne⟩
end Go.Proofs.Ytmmcdncaiedmgaa
