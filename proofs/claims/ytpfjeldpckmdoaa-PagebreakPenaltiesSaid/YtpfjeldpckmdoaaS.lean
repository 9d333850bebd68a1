import Derived.Test.YtpfjeldpckmdoaaV
import Derived.Test.YtpfjeldpckmdoaaK
import Derived.Shelf.Slices.Clone
set_option linter.unusedVariables false
set_option linter.unusedSimpArgs false
namespace Go.Proofs.Ytpfjeldpckmdoaa
open Go.RowKit Go.Shelf
/-! penalties of paragraphs -/
/-- where a paragraph begins among the first lines, or the lines begin or end -/
def begI (b : Nat → Bool) (n i x : Nat) : Bool := decide (x = 0) || decide (x = n) || (decide (x < i) && b x)
def begB (b : Nat → Bool) (n x : Nat) : Bool := begI b n n x
def wantP (g : Nat → Bool) (n : Nat) (w o : Int) (x : Nat) : Int := (if g x = true ∧ g (x + 1) = false then o else 0) + (if x + 1 < n ∧ g (x + 1) = false ∧ g (x + 2) = true then w else 0)
/-- the ends of paragraphs from a line on -/
def Nxt (g : Nat → Bool) (n : Nat) : Nat → List Nat → Prop
  | f, [] => f = n
  | f, t :: E => f ≤ t ∧ t ≤ n ∧ g t = true ∧ (∀ x, f < x → x < t → g x = false) ∧ Nxt g n t E
/-- what has been laid down when the paragraphs before line `f` are done -/
def parF (g : Nat → Bool) (n : Nat) (w o : Int) (f x : Nat) : Int := if x < f then wantP g n w o x else 0
theorem par_same {g : Nat → Bool} {n : Nat} {w o : Int} {f t x : Nat} (hft : f ≤ t) (ht2 : t < f + 2) (ht : t ≤ n) (hg : g t = true) : parF g n w o t x = parF g n w o f x := by
  by_cases e : t = f
  · rw [e]
  · have e1 : t = f + 1 := by omega
    unfold parF
    by_cases h1 : x < f
    · rw [if_pos h1, if_pos (by omega)]
    · rw [if_neg h1]
      by_cases h2 : x = f
      · rw [if_pos (by omega)]
        subst h2
        rw [e1] at hg
        unfold wantP
        simp [hg]
      · rw [if_neg (by omega)]
theorem par_step {g : Nat → Bool} {n : Nat} {w o : Int} {f r t x : Nat} (htr : t = r + 2) (hft : f ≤ r) (ht : t ≤ n) (hf : g f = true) (hg : g t = true) (hb : ∀ x, f < x → x < t → g x = false) :
    parF g n w o t x = if x = r then (if r = f then o else 0) + w else if x = f then o else parF g n w o f x := by
  unfold parF
  have hf1 := hb (f + 1) (by omega) (by omega)
  by_cases h1 : x < f
  · rw [if_pos h1, if_pos (by omega), if_neg (by omega), if_neg (by omega)]
  · rw [if_neg h1]
    by_cases h2 : x = f
    · subst h2
      rw [if_pos (by omega)]
      unfold wantP
      rw [if_pos ⟨hf, hf1⟩]
      by_cases h3 : x = r
      · subst h3
        rw [if_pos rfl, if_pos rfl, if_pos ⟨by omega, hf1, by rw [← htr]; exact hg⟩]
      · rw [if_neg h3, if_pos rfl, if_neg (by rw [hb (x + 2) (by omega) (by omega)]; simp)]
        simp
    · rw [if_neg h2]
      by_cases h4 : x < t
      · rw [if_pos h4]
        unfold wantP
        rw [if_neg (by rw [hb x (by omega) h4]; simp)]
        by_cases h3 : x = r
        · subst h3
          rw [if_pos ⟨by omega, hb (x + 1) (by omega) (by omega), by rw [← htr]; exact hg⟩, if_pos rfl, if_neg h2]
        · rw [if_neg h3]
          by_cases h5 : x + 1 = t
          · rw [if_neg (by rw [h5, hg]; simp)]
            rfl
          · rw [if_neg (by rw [hb (x + 2) (by omega) (by omega)]; simp)]
            rfl
      · rw [if_neg h4, if_neg (by omega)]
theorem par_zero (g : Nat → Bool) (n : Nat) (w o : Int) {f x : Nat} (h : f ≤ x) : parF g n w o f x = 0 := by
  unfold parF; rw [if_neg (by omega)]
theorem want_bd {g : Nat → Bool} {n : Nat} {w o : Int} (hw : 0 ≤ w ∧ w ≤ 9999) (ho : 0 ≤ o ∧ o ≤ 9999) (x : Nat) : 0 ≤ wantP g n w o x ∧ wantP g n w o x ≤ 19998 := by
  unfold wantP; split <;> split <;> omega
theorem nxt_range (b : Nat → Bool) (n : Nat) : ∀ {d i f : Nat}, i + d = n → f ≤ i → (∀ x, f < x → x < i → begB b n x = false) → Nxt (begB b n) n f ((List.range' i d).filter b ++ [n])
  | 0, i, f, hi, hf, hb => by
    have e : i = n := by omega
    subst e
    exact ⟨hf, Nat.le_refl _, by simp [begB, begI], hb, rfl⟩
  | d + 1, i, f, hi, hf, hb => by
    rw [List.range'_succ]
    by_cases e : b i = true
    · rw [List.filter_cons_of_pos e]
      exact ⟨hf, by omega, by simp [begB, begI, e]; omega, hb, nxt_range b n (by omega) (by omega) (fun x h1 h2 => by omega)⟩
    · rw [List.filter_cons_of_neg e]
      refine nxt_range b n (by omega) (by omega) fun x h1 h2 => ?_
      by_cases ex : x = i
      · subst ex
        have e' : b x = false := by simpa using e
        simp [begB, begI, e']
        omega
      · exact hb x h1 (by omega)
theorem nxt_all (b : Nat → Bool) (n : Nat) : Nxt (begB b n) n 0 ((List.range n).filter b ++ [n]) := by
  rw [List.range_eq_range']
  exact nxt_range b n (by omega) (Nat.le_refl _) (fun x h1 h2 => by omega)
theorem flt_get (b : Nat → Bool) (n : Nat) : ∀ m, m < ((List.range n).filter b).length → ((List.range n).filter b).getD m 0 < n ∧ (0 < m → ((List.range n).filter b).getD (m - 1) 0 < ((List.range n).filter b).getD m 0) := fun m hm => by
  have hp : ((List.range n).filter b).Pairwise (· < ·) := List.Pairwise.filter _ List.pairwise_lt_range
  constructor
  · rw [List.getD_eq_getElem?_getD, List.getElem?_eq_getElem hm]
    have := List.getElem_mem hm
    exact List.mem_range.1 (List.mem_filter.1 this).1
  · intro h0
    rw [List.getD_eq_getElem?_getD, List.getD_eq_getElem?_getD, List.getElem?_eq_getElem hm, List.getElem?_eq_getElem (by omega : m - 1 < _)]
    exact List.pairwise_iff_getElem.1 hp (m - 1) m (by omega) hm (by omega)
theorem flt_len (b : Nat → Bool) (n : Nat) : ((List.range n).filter b).length ≤ n := by
  have := List.length_filter_le b (List.range n)
  simpa using this
def lays15_ren : Go.Shelf.Ren := ⟨fun | 15 => 25 | n => n, fun n => n, fun n => n⟩
theorem lays15 : Go.Proofs.Lays2.n15 Try.prog lays15_ren := {
  mixed := by kernel_rfl
  f15 := Try.func25.trans (congrArg some (by kernel_rfl))
  t3 := Try.underlying3
  a3 := Try.isAgg3
  z3 := Try.sizeOf3
  v3 := Try.zeroValue3
  t4 := Try.underlying4
  a4 := Try.isAgg4
  z4 := Try.sizeOf4
  v4 := Try.zeroValue4
  t22 := Try.underlying22
  a22 := Try.isAgg22
  z22 := Try.sizeOf22
  v22 := Try.zeroValue22
  i3 := by kernel_rfl }
theorem nums_zs (L : List Nat) : (zs L).map (Value.int .i64) = nums L := by simp [zs, nums]
theorem clone_any (A : Option Addr) (L : List Nat) (c : Nat) (w : World) (hA : (A = none ∧ L = []) ∨ ∃ g, A = some ⟨g, 0, none⟩ ∧ ∀ j, j < L.length → w.cell? ⟨g, j, none⟩ = some (.int .i64 ((L.getD j 0 : Nat) : Int))) (hl : L.length ≤ 1000) :
    Calls Try.prog 25 #[.slice A L.length c] w fun e w' => ∃ v', e = .returned v' ∧ w'.ownsRow w.heap.size 3 1 v' L.length (nums L) ∧ Below w.heap.size w w' := by
  rcases hA with ⟨rfl, rfl⟩ | ⟨g, rfl, hc⟩
  · refine (Any.slices_Clone_int_nil lays15 0 c w).mono ?_
    rintro e w' ⟨rfl, rfl⟩
    exact ⟨_, rfl, World.ownsRow_nil _ _ _ _, Below.refl _ _⟩
  · refine (Any.slices_Clone_int lays15 g 0 L.length c (zs L) w (by rw [zs_len]; exact Nat.le_refl _) (by omega) (fun j hj => by rw [Nat.zero_add, zs_get]; exact hc j (by rw [zs_len] at hj; exact hj))).mono ?_
    rintro e w' ⟨v', rfl, h1, _, h3⟩
    refine ⟨v', rfl, ?_, h3⟩
    rw [List.take_of_length_le (by rw [zs_len]; exact Nat.le_refl _), nums_zs] at h1
    exact h1
def penB (x : Int) : Bool := decide (0 ≤ x) && decide (x ≤ 10000)
theorem penalty_any (x : Int) (hx : 0 ≤ x ∧ x ≤ 10000) (w : World) : Calls Try.prog 24 #[.int .i64 x] w fun e w' => e = .returned (.bool true) ∧ w' = w := by
  obtain ⟨h1, h2⟩ := hx
  go_enter Try.func24, Try.ntmps24
  go_wp2_with fail
  go_ret
  exact ⟨rfl, rfl⟩
end Go.Proofs.Ytpfjeldpckmdoaa
