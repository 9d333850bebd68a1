import Derived.Test.YtpfjeldpckmdoaaB
set_option linter.unusedVariables false
set_option linter.unusedSimpArgs false
namespace Go.Proofs.Ytpfjeldpckmdoaa
/-! plain words: a page problem, heights, pages, potentials, page ends -/
structure PP where
  lines : List Int
  notes : List (List Int)
  pens : List Int
  hh : Int
  gap : Int
namespace PP
def n (p : PP) : Nat := p.lines.length
def nb (p : PP) : Nat := (p.notes.getD 0 []).length
def ln (p : PP) (i : Nat) : Int := p.lines.getD i 0
def nt (p : PP) (b i : Nat) : Int := (p.notes.getD i []).getD b 0
def pn (p : PP) (i : Nat) : Int := p.pens.getD i 0
end PP
def rng (x : Int) : Prop := 0 ≤ x ∧ x ≤ 1073741824
/-- a valid page problem -/
structure Val (p : PP) : Prop where
  l2 : p.notes.length = p.n
  l3 : p.pens.length = p.n
  rows : ∀ i, i < p.n → (p.notes.getD i []).length = p.nb
  blk : 0 < p.n → p.nb ≤ 16
  lr : ∀ i, i < p.n → rng (p.ln i)
  nr : ∀ i b, i < p.n → b < p.nb → rng (p.nt b i)
  pr : ∀ i, i < p.n → 0 ≤ p.pn i ∧ p.pn i ≤ 10000
  hr : 1 ≤ p.hh ∧ p.hh ≤ 1073741824
  gr : rng p.gap
theorem Val.nb16 {p : PP} (h : Val p) : p.nb ≤ 16 := by
  by_cases e : 0 < p.n
  · exact h.blk e
  · have h0 : p.notes = [] := List.eq_nil_of_length_eq_zero (by have := h.l2; omega)
    simp [PP.nb, h0]
/-- sum of the first -/
def pre (f : Nat → Int) : Nat → Int
  | 0 => 0
  | k + 1 => pre f k + f k
theorem pre_mono {f : Nat → Int} : ∀ {i j : Nat}, i ≤ j → (∀ k, k < j → 0 ≤ f k) → pre f i ≤ pre f j
  | i, 0, h, _ => by obtain rfl : i = 0 := by omega
                     exact Int.le_refl _
  | i, j + 1, h, hf => by
    by_cases e : i = j + 1
    · subst e; exact Int.le_refl _
    · have h1 := pre_mono (i := i) (j := j) (by omega) (fun k hk => hf k (by omega))
      have h2 := hf j (by omega)
      rw [pre]; omega
theorem pre_bd {f : Nat → Int} : ∀ {j : Nat}, (∀ k, k < j → rng (f k)) → 0 ≤ pre f j ∧ pre f j ≤ 1073741824 * j
  | 0, _ => by simp [pre]
  | j + 1, hf => by
    have h1 := pre_bd (f := f) (j := j) (fun k hk => hf k (by omega))
    have h2 := hf j (by omega)
    unfold rng at h2
    rw [pre]; omega
/-- the notes of a block on lines -/
def own (p : PP) (i j b : Nat) : Int := pre (p.nt b) j - pre (p.nt b) i
/-- the height of lines, with the first blocks -/
def hgU (p : PP) (i j : Nat) : Nat → Int
  | 0 => pre p.ln j - pre p.ln i
  | b + 1 => hgU p i j b + if 0 < own p i j b then own p i j b + p.gap else 0
def hgt (p : PP) (i j : Nat) : Int := hgU p i j p.nb
theorem own_bd {p : PP} (h : Val p) {i j b : Nat} (hij : i ≤ j) (hj : j ≤ p.n) (hb : b < p.nb) : 0 ≤ own p i j b ∧ own p i j b ≤ 1073741824 * j := by
  have h1 := pre_mono (f := p.nt b) hij (fun k hk => (h.nr k b (by omega) hb).1)
  have h2 := pre_bd (f := p.nt b) (j := j) (fun k hk => h.nr k b (by omega) hb)
  have h3 := pre_bd (f := p.nt b) (j := i) (fun k hk => h.nr k b (by omega) hb)
  unfold own; omega
theorem hgU_bd {p : PP} (h : Val p) {i j : Nat} (hij : i ≤ j) (hj : j ≤ p.n) : ∀ {b : Nat}, b ≤ p.nb → 0 ≤ hgU p i j b ∧ hgU p i j b ≤ 1073741824 * j + (1073741824 * j + 1073741824) * b
  | 0, _ => by
    have h1 := pre_mono (f := p.ln) hij (fun k hk => (h.lr k (by omega)).1)
    have h2 := pre_bd (f := p.ln) (j := j) (fun k hk => h.lr k (by omega))
    have h3 := pre_bd (f := p.ln) (j := i) (fun k hk => h.lr k (by omega))
    simp only [hgU]; omega
  | b + 1, hb => by
    have h1 := hgU_bd h hij hj (b := b) (by omega)
    have h2 := own_bd h hij hj (b := b) (by omega)
    have h3 := h.gr
    unfold rng at h3
    have e : (1073741824 * (j : Int) + 1073741824) * ((b + 1 : Nat) : Int) = (1073741824 * (j : Int) + 1073741824) * (b : Int) + (1073741824 * (j : Int) + 1073741824) := by
      rw [Int.natCast_add, Int.mul_add]; simp
    rw [hgU, e]
    split <;> omega
theorem hgt_bd {p : PP} (h : Val p) {i j : Nat} (hij : i ≤ j) (hj : j ≤ p.n) : 0 ≤ hgt p i j := (hgU_bd h hij hj (Nat.le_refl _)).1
theorem hgU_top {p : PP} (h : Val p) (hn : p.n ≤ 10) {i j b : Nat} (hij : i ≤ j) (hj : j ≤ p.n) (hb : b ≤ p.nb) : 0 ≤ hgU p i j b ∧ hgU p i j b ≤ 300000000000 := by
  have h1 := hgU_bd h hij hj hb
  have h2 := h.nb16
  refine ⟨h1.1, Int.le_trans h1.2 ?_⟩
  have e : (1073741824 * (j : Int) + 1073741824) * (b : Int) ≤ (1073741824 * (j : Int) + 1073741824) * 16 := Int.mul_le_mul_of_nonneg_left (by omega) (by omega)
  omega
/-- heights do not shrink -/
theorem hgU_mono {p : PP} (h : Val p) {i i' j j' : Nat} (h1 : i' ≤ i) (h2 : i ≤ j) (h3 : j ≤ j') (h4 : j' ≤ p.n) : ∀ {b : Nat}, b ≤ p.nb → hgU p i j b ≤ hgU p i' j' b
  | 0, _ => by
    have e1 := pre_mono (f := p.ln) h1 (fun k hk => (h.lr k (by omega)).1)
    have e2 := pre_mono (f := p.ln) h3 (fun k hk => (h.lr k (by omega)).1)
    simp only [hgU]; omega
  | b + 1, hb => by
    have e1 := pre_mono (f := p.nt b) h1 (fun k hk => (h.nr k b (by omega) (by omega)).1)
    have e2 := pre_mono (f := p.nt b) h3 (fun k hk => (h.nr k b (by omega) (by omega)).1)
    have e3 := hgU_mono h h1 h2 h3 h4 (b := b) (by omega)
    have e4 := own_bd h h2 (by omega : j ≤ p.n) (b := b) (by omega)
    have e5 : own p i j b ≤ own p i' j' b := by unfold own; omega
    have e6 := h.gr
    unfold rng at e6
    rw [hgU, hgU]
    split <;> split <;> omega
theorem hgt_mono {p : PP} (h : Val p) {i i' j j' : Nat} (h1 : i' ≤ i) (h2 : i ≤ j) (h3 : j ≤ j') (h4 : j' ≤ p.n) : hgt p i j ≤ hgt p i' j' := hgU_mono h h1 h2 h3 h4 (Nat.le_refl _)
/-- the cost of a page, or why it is not possible -/
def pg (p : PP) (i j : Nat) : Int × Nat :=
  if p.hh < hgt p i j then (0, 22) else if j = p.n then (0, 0) else if 10000 ≤ p.pn (j - 1) then (0, 23) else ((badN (p.hh - hgt p i j).toNat p.hh.toNat : Int) + p.pn (j - 1), 0)
theorem badN_le (c t : Nat) : badN c t ≤ 10000 := by
  unfold badN
  split
  · omega
  · exact Nat.min_le_right _ _
theorem pg_bd {p : PP} (h : Val p) {i j : Nat} (hj0 : 0 < j) (hj : j ≤ p.n) : 0 ≤ (pg p i j).1 ∧ (pg p i j).1 ≤ 20000 := by
  unfold pg
  split
  · simp
  · split
    · simp
    · split
      · simp
      · rename_i h1 h2 h3
        have e1 := badN_le (p.hh - hgt p i j).toNat p.hh.toNat
        have e2 := h.pr (j - 1) (by omega)
        simp only
        omega
theorem pg_code (p : PP) (i j : Nat) : (pg p i j).2 = 0 ∨ (pg p i j).2 = 22 ∨ (pg p i j).2 = 23 := by
  unfold pg
  split
  · simp
  · split
    · simp
    · split <;> simp
/-- the possible pages from a line on, `j` being the next end that is tried -/
def pgsF (p : PP) (i : Nat) : Nat → Nat → List (Nat × Int)
  | 0, _ => []
  | g + 1, j => if (pg p i j).2 = 22 then [] else if (pg p i j).2 = 0 then (j, (pg p i j).1) :: pgsF p i g (j + 1) else pgsF p i g (j + 1)
def pgs (p : PP) (i : Nat) : List (Nat × Int) := pgsF p i (p.n - i) (i + 1)
/-- one step of the least cost -/
def stp (f : Nat → Int) (acc : Int) (x : Nat × Int) : Int := if 0 ≤ f x.1 ∧ (acc < 0 ∨ x.2 + f x.1 < acc) then x.2 + f x.1 else acc
def best (f : Nat → Int) (acc : Int) (L : List (Nat × Int)) : Int := L.foldl (stp f) acc
/-- the potentials of the last lines -/
def pot (p : PP) : Nat → Nat → Int
  | 0, _ => 0
  | k + 1, t => if t = p.n - (k + 1) then best (pot p k) (-1) (pgs p (p.n - (k + 1))) else pot p k t
def ptl (p : PP) (t : Nat) : Int := pot p p.n t
/-- the first page of least cost -/
def hit (f : Nat → Int) (i : Nat) (x : Nat × Int) : Bool := decide (0 ≤ f x.1) && decide (x.2 + f x.1 = f i)
def brkF (p : PP) (f : Nat → Int) : Nat → Nat → List Nat
  | 0, _ => []
  | g + 1, i => if i < p.n then match (pgs p i).find? (hit f i) with | some x => x.1 :: brkF p f g x.1 | none => [] else []
def brk (p : PP) : List Nat := brkF p (ptl p) p.n 0
end Go.Proofs.Ytpfjeldpckmdoaa
