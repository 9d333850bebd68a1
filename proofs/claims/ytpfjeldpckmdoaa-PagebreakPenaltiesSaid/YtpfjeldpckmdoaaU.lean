import Derived.Test.YtpfjeldpckmdoaaC3
set_option linter.unusedVariables false
set_option linter.unusedSimpArgs false
namespace Go.Proofs.Ytpfjeldpckmdoaa
/-! plain law of page ends: their cost, and which there are -/
/-- page ends that rise to `n` from `i` on -/
def Up (n : Nat) : Nat → List Nat → Prop
  | i, [] => i = n
  | i, j :: L => i < j ∧ j ≤ n ∧ Up n j L
theorem up_get {n : Nat} : ∀ {L : List Nat} {i : Nat}, Up n i L → ∀ m, m < L.length → (i :: L).getD m 0 < L.getD m 0 ∧ L.getD m 0 ≤ n
  | [], _, _, m, hm => absurd hm (Nat.not_lt_zero _)
  | j :: L, i, h, 0, _ => by simp; exact ⟨h.1, h.2.1⟩
  | j :: L, i, h, m + 1, hm => by
    have := up_get h.2.2 m (by simpa using hm)
    simpa using this
theorem up_end {n : Nat} : ∀ {L : List Nat} {i : Nat}, Up n i L → (i :: L).getD L.length 0 = n
  | [], i, h => h
  | j :: L, i, h => by
    have := up_end h.2.2
    simpa using this
theorem up_len {n : Nat} : ∀ {L : List Nat} {i : Nat}, Up n i L → i + L.length ≤ n
  | [], i, h => by have : i = n := h
                   simp; omega
  | j :: L, i, h => by
    have := up_len h.2.2
    have := h.1
    simp; omega
theorem up_snoc {i n : Nat} (hn : i < n) : ∀ {L : List Nat} {k : Nat}, Up i k L → Up n k (L ++ [n])
  | [], k, h => by
    have : k = i := h
    subst this
    exact ⟨hn, Nat.le_refl _, rfl⟩
  | j :: L, k, h => ⟨h.1, by have := h.2.1; omega, up_snoc hn h.2.2⟩
/-- the cost of page ends, or why it has none -/
def costF (p : PP) : Nat → Int → List Nat → Int × Nat
  | _, a, [] => (a, 0)
  | i, a, j :: L => if (pg p i j).2 = 0 then costF p j (a + (pg p i j).1) L else (0, (pg p i j).2)
theorem cost_ok {p : PP} : ∀ {L : List Nat} {i : Nat} {a : Int}, (costF p i a L).2 = 0 → ∀ m, m < L.length → (pg p ((i :: L).getD m 0) (L.getD m 0)).2 = 0
  | [], _, _, _, m, hm => absurd hm (Nat.not_lt_zero _)
  | j :: L, i, a, h, m, hm => by
    rw [costF] at h
    split at h
    · rename_i h1
      cases m with
      | zero => simpa using h1
      | succ m =>
        have := cost_ok h m (by simpa using hm)
        simpa using this
    · rename_i h1; exact absurd h h1
theorem pg_fit {p : PP} {i j : Nat} (h : (pg p i j).2 = 0) : hgt p i j ≤ p.hh ∧ (j = p.n ∨ p.pn (j - 1) < 10000) := by
  unfold pg at h
  split at h
  · simp at h
  · rename_i h1
    split at h
    · rename_i h2; exact ⟨by omega, .inl h2⟩
    · split at h
      · simp at h
      · rename_i h2 h3; exact ⟨by omega, .inr (by omega)⟩
theorem pg_zero {p : PP} {i j : Nat} (h1 : hgt p i j ≤ p.hh) (h2 : j = p.n ∨ p.pn (j - 1) < 10000) : (pg p i j).2 = 0 := by
  unfold pg
  rw [if_neg (by omega)]
  by_cases h3 : j = p.n
  · rw [if_pos h3]
  · rw [if_neg h3, if_neg (by rcases h2 with h | h <;> omega)]
theorem pg_high {p : PP} {i j : Nat} : (pg p i j).2 = 22 ↔ p.hh < hgt p i j := by
  constructor
  · intro h
    unfold pg at h
    split at h
    · assumption
    · split at h
      · simp at h
      · split at h <;> simp at h
  · intro h
    unfold pg
    rw [if_pos h]
theorem pgsF_mem {p : PP} (h : Val p) {i j : Nat} (hij : i < j) (hj : j ≤ p.n) (h0 : (pg p i j).2 = 0) : ∀ {g s : Nat}, i < s → s ≤ j → j < s + g → (j, (pg p i j).1) ∈ pgsF p i g s
  | 0, s, _, _, _ => by omega
  | g + 1, s, h1, h2, h3 => by
    have hs : ¬ (pg p i s).2 = 22 := fun e => by
      have e1 := pg_high.1 e
      have e2 := hgt_mono h (Nat.le_refl i) (by omega : i ≤ s) h2 hj
      have e3 := (pg_fit h0).1
      omega
    rw [pgsF, if_neg hs]
    by_cases e : s = j
    · subst e
      rw [if_pos h0]
      exact List.mem_cons_self ..
    · have := pgsF_mem h hij hj h0 (g := g) (s := s + 1) (by omega) (by omega) (by omega)
      split
      · exact List.mem_cons_of_mem _ this
      · exact this
theorem pgs_mem {p : PP} (h : Val p) {i j : Nat} (hij : i < j) (hj : j ≤ p.n) (h0 : (pg p i j).2 = 0) : (j, (pg p i j).1) ∈ pgs p i :=
  pgsF_mem h hij hj h0 (by omega) (by omega) (by omega)
theorem pgsF_fit {p : PP} {i : Nat} : ∀ {g s : Nat}, ∀ x ∈ pgsF p i g s, (pg p i x.1).2 = 0 ∧ x.2 = (pg p i x.1).1
  | 0, s, x, hx => by simp [pgsF] at hx
  | g + 1, s, x, hx => by
    rw [pgsF] at hx
    split at hx
    · simp at hx
    · split at hx
      · rename_i h0
        rcases List.mem_cons.1 hx with rfl | hx
        · exact ⟨h0, rfl⟩
        · exact pgsF_fit x hx
      · exact pgsF_fit x hx
theorem best_keep {f : Nat → Int} : ∀ {L : List (Nat × Int)} {acc : Int}, (∀ x ∈ L, 0 ≤ x.2) → 0 ≤ acc → 0 ≤ best f acc L
  | [], acc, _, h => h
  | x :: L, acc, hL, h => by
    refine best_keep (acc := stp f acc x) (fun y hy => hL y (List.mem_cons_of_mem _ hy)) ?_
    have := hL x (List.mem_cons_self ..)
    unfold stp
    split <;> omega
theorem best_nonneg {f : Nat → Int} : ∀ {L : List (Nat × Int)} {acc : Int}, (∀ x ∈ L, 0 ≤ x.2) → ∀ x ∈ L, 0 ≤ f x.1 → 0 ≤ best f acc L
  | y :: L, acc, hL, x, hx, h0 => by
    show 0 ≤ best f (stp f acc y) L
    rcases List.mem_cons.1 hx with rfl | hx
    · refine best_keep (fun y hy => hL y (List.mem_cons_of_mem _ hy)) ?_
      have := hL x (List.mem_cons_self ..)
      unfold stp
      split
      · omega
      · rename_i h1
        by_cases e : acc < 0
        · exact absurd ⟨h0, .inl e⟩ h1
        · omega
    · exact best_nonneg (fun y hy => hL y (List.mem_cons_of_mem _ hy)) x hx h0
theorem ptl_page {p : PP} (h : Val p) {i j : Nat} (hij : i < j) (hj : j ≤ p.n) (h0 : (pg p i j).2 = 0) (hp : 0 ≤ ptl p j) : 0 ≤ ptl p i := by
  rw [ptl_eq h (by omega)]
  exact best_nonneg (fun x hx => (pgs_ok h (by omega) x hx).2.2.1) _ (pgs_mem h hij hj h0) hp
theorem ptl_cost {p : PP} (h : Val p) : ∀ {L : List Nat} {i : Nat} {a : Int}, Up p.n i L → (costF p i a L).2 = 0 → 0 ≤ ptl p i
  | [], i, a, hu, _ => by
    have : i = p.n := hu
    rw [this, ptl_end]
    exact Int.le_refl _
  | j :: L, i, a, hu, hc => by
    rw [costF] at hc
    split at hc
    · rename_i h1
      exact ptl_page h hu.1 hu.2.1 h1 (ptl_cost h hu.2.2 hc)
    · rename_i h1; exact absurd hc h1
/-- no page ends where a line fits nowhere -/
theorem ptl_high {p : PP} (h : Val p) {i : Nat} (hi : i < p.n) (hh : p.hh < hgt p i (i + 1)) : ∀ {d t : Nat}, t + d = i → ptl p t < 0
  | d, t, ht => by
    apply Classical.byContradiction
    intro hno
    rcases best_spec (ptl p) (pgs p t) (-1) with e | ⟨x, hx, h1, h2⟩
    · rw [← ptl_eq h (by omega)] at e; omega
    · obtain ⟨k1, k2, _, _⟩ := pgs_ok h (by omega) x hx
      have k3 := (pg_fit (pgsF_fit x hx).1).1
      by_cases e : i < x.1
      · have := hgt_mono h (i := i) (i' := t) (j := i + 1) (j' := x.1) (by omega) (by omega) (by omega) k2
        omega
      · have := ptl_high h hi hh (d := i - x.1) (t := x.1) (by omega)
        omega
  termination_by d => d
/-- page ends where each line fits and no penalty is infinite -/
theorem ptl_low {p : PP} (h : Val p) (hf : ∀ i, i < p.n → hgt p i (i + 1) ≤ p.hh) (hp : ∀ i, i < p.n → p.pn i ≠ 10000) : ∀ {d t : Nat}, t + d = p.n → 0 ≤ ptl p t
  | 0, t, ht => by
    have : t = p.n := by omega
    rw [this, ptl_end]
    exact Int.le_refl _
  | d + 1, t, ht => by
    have h1 := hp t (by omega)
    have h2 := h.pr t (by omega)
    exact ptl_page h (j := t + 1) (by omega) (by omega) (pg_zero (hf t (by omega)) (.inr (by rw [Nat.add_sub_cancel]; omega))) (ptl_low h hf hp (d := d) (by omega))
theorem brkF_law {p : PP} (h : Val p) : ∀ {g i : Nat}, i ≤ p.n → p.n - i ≤ g → 0 ≤ ptl p i → Up p.n i (brkF p (ptl p) g i) ∧ ∀ a, costF p i a (brkF p (ptl p) g i) = (a + ptl p i, 0)
  | g, i, hi, hg, h0 => by
    by_cases e : i = p.n
    · rw [brkF_end p (ptl p) g i (by omega)]
      refine ⟨e, fun a => ?_⟩
      rw [costF, e, ptl_end]
      simp
    · cases g with
      | zero => omega
      | succ g =>
        obtain ⟨x, hx⟩ := hit_exists h (f := i) (by omega) h0
        rw [brkF_step (by omega) hx]
        have hm := List.mem_of_find?_eq_some hx
        obtain ⟨q1, q2⟩ := hit_iff.1 (List.find?_some hx)
        obtain ⟨k1, k2, _, _⟩ := pgs_ok h (by omega) x hm
        obtain ⟨f1, f2⟩ := pgsF_fit x hm
        have ih := brkF_law h (g := g) (i := x.1) k2 (by omega) q1
        refine ⟨⟨k1, k2, ih.1⟩, fun a => ?_⟩
        rw [costF, if_pos f1, ih.2, ← f2, ← q2]
        congr 1
        omega
theorem brk_law {p : PP} (h : Val p) (h0 : 0 ≤ ptl p 0) : Up p.n 0 (brk p) ∧ costF p 0 0 (brk p) = (ptl p 0, 0) := by
  have := brkF_law h (g := p.n) (i := 0) (Nat.zero_le _) (by omega) h0
  exact ⟨this.1, by rw [brk, this.2]; simp⟩
end Go.Proofs.Ytpfjeldpckmdoaa
