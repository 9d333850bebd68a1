import Derived.Test.YtpfjeldpckmdoaaC2
set_option linter.unusedVariables false
set_option linter.unusedSimpArgs false
namespace Go.Proofs.Ytpfjeldpckmdoaa
/-! plain law of potentials and page ends -/
theorem pot_stable {p : PP} {k t : Nat} (ht : p.n - k ≤ t) : ∀ {j : Nat}, k ≤ j → j ≤ p.n → pot p j t = pot p k t
  | 0, hj, _ => by obtain rfl : k = 0 := by omega
                   rfl
  | j + 1, hj, hn => by
    by_cases e : k = j + 1
    · subst e; rfl
    · rw [pot, if_neg (by omega)]
      exact pot_stable ht (j := j) (by omega) (by omega)
theorem best_congr {f g : Nat → Int} : ∀ {L : List (Nat × Int)} {acc : Int}, (∀ x ∈ L, f x.1 = g x.1) → best f acc L = best g acc L
  | [], _, _ => rfl
  | x :: L, acc, h => by
    have hx := h x (List.mem_cons_self ..)
    have hs : stp f acc x = stp g acc x := by unfold stp; rw [hx]
    show best f (stp f acc x) L = best g (stp g acc x) L
    rw [hs]
    exact best_congr fun y hy => h y (List.mem_cons_of_mem _ hy)
theorem ptl_eq {p : PP} (h : Val p) {f : Nat} (hf : f < p.n) : ptl p f = best (ptl p) (-1) (pgs p f) := by
  have h1 : ptl p f = pot p (p.n - f) f := pot_stable (k := p.n - f) (by omega) (by omega) (Nat.le_refl _)
  obtain ⟨k, hk⟩ : ∃ k, p.n - f = k + 1 := ⟨p.n - f - 1, by omega⟩
  rw [h1, hk, pot, if_pos (by omega), show p.n - (k + 1) = f by omega]
  refine best_congr fun x hx => ?_
  have := (pgs_ok h hf x hx).1
  exact (pot_stable (k := k) (by omega) (by omega) (Nat.le_refl _)).symm
theorem ptl_end (p : PP) : ptl p p.n = 0 := pot_stable (p := p) (k := 0) (t := p.n) (by omega) (by omega) (Nat.le_refl _)
theorem best_spec (f : Nat → Int) : ∀ (L : List (Nat × Int)) (acc : Int), best f acc L = acc ∨ ∃ x ∈ L, 0 ≤ f x.1 ∧ best f acc L = x.2 + f x.1
  | [], acc => .inl rfl
  | x :: L, acc => by
    rcases best_spec f L (stp f acc x) with h | ⟨y, hy, h1, h2⟩
    · by_cases hc : 0 ≤ f x.1 ∧ (acc < 0 ∨ x.2 + f x.1 < acc)
      · exact .inr ⟨x, List.mem_cons_self .., hc.1, by show best f (stp f acc x) L = _; rw [h, stp, if_pos hc]⟩
      · exact .inl (by show best f (stp f acc x) L = _; rw [h, stp, if_neg hc])
    · exact .inr ⟨y, List.mem_cons_of_mem _ hy, h1, h2⟩
/-- a page on which the least cost is met -/
theorem hit_exists {p : PP} (h : Val p) {f : Nat} (hf : f < p.n) (h0 : 0 ≤ ptl p f) : ∃ x, (pgs p f).find? (hit (ptl p) f) = some x := by
  rw [← Option.isSome_iff_exists, List.find?_isSome]
  rcases best_spec (ptl p) (pgs p f) (-1) with e | ⟨x, hx, h1, h2⟩
  · rw [← ptl_eq h hf] at e; omega
  · rw [← ptl_eq h hf] at h2
    exact ⟨x, hx, by simp [hit, h1, h2]⟩
theorem hit_iff {f : Nat → Int} {i : Nat} {x : Nat × Int} : hit f i x = true ↔ 0 ≤ f x.1 ∧ x.2 + f x.1 = f i := by
  simp [hit]
theorem brkF_end (p : PP) (f : Nat → Int) (g i : Nat) (h : p.n ≤ i) : brkF p f g i = [] := by
  cases g with
  | zero => rfl
  | succ g => rw [brkF, if_neg (by omega)]
theorem brkF_step {p : PP} {f : Nat → Int} {g i : Nat} {x : Nat × Int} (hi : i < p.n) (hx : (pgs p i).find? (hit f i) = some x) : brkF p f (g + 1) i = x.1 :: brkF p f g x.1 := by
  rw [brkF, if_pos hi, hx]
theorem ptl_bd {p : PP} (h : Val p) (t : Nat) : -1 ≤ ptl p t ∧ ptl p t ≤ 20000 * p.n := pot_bd h (Nat.le_refl _) t
end Go.Proofs.Ytpfjeldpckmdoaa
