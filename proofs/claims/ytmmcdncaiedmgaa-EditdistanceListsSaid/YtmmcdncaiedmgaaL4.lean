import Derived.Test.YtmmcdncaiedmgaaL3
import Derived.Test.YtmmcdncaiedmgaaJ4
set_option linter.unusedVariables false
set_option linter.unusedSimpArgs false
namespace Go.Proofs.Ytmmcdncaiedmgaa
open Go.RowKit
/-- the finished table of lengths, as it is read -/
structure LT (la lb : List ByteArray) (T : Nat) (wr : World) : Prop where
  top : ∀ i, i ≤ la.length → wr.cell? ⟨T, i, none⟩ = some (.slice (some ⟨T + 1 + (la.length - i), 0, none⟩) (lb.length + 1) (lb.length + 1))
  cell : ∀ i k, i ≤ la.length → k ≤ lb.length → wr.cell? ⟨T + 1 + (la.length - i), k, none⟩ = some (.int .i64 (R la lb i k))
  lt : T + 1 + la.length < wr.heap.size
theorem LTab.lt {la lb : List ByteArray} {w wr : World} {g : Nat → Int} (h : LTab la lb w wr 0 0 g) : LT la lb w.heap.size wr := by
  refine ⟨fun i hi => ?_, fun i k hi hk => ?_, by have := h.size; omega⟩
  · have := h.top.cell (i := i) (by omega)
    rwa [if_pos (Nat.zero_le _)] at this
  · by_cases e : i = 0
    · subst e
      have := (h.row (Nat.zero_le _)).cell (i := k) (by omega)
      rwa [h.pre k (Nat.zero_le _) hk] at this
    · exact (h.rows i (by omega) hi).cell (by omega)
theorem LT.below {la lb : List ByteArray} {T : Nat} {wr w' : World} (h : LT la lb T wr) (hb : Below wr.heap.size wr w') : LT la lb T w' :=
  ⟨fun i hi => (hb.cell (by show T < _; have := h.lt; omega)).trans (h.top i hi), fun i k hi hk => (hb.cell (by show T + 1 + (la.length - i) < _; have := h.lt; omega)).trans (h.cell i k hi hk), by have := h.lt; have := hb.size; omega⟩
/-- a pair of places that a longest subsequence can go on with -/
def Pr (A B : List ByteArray) (i k p q : Nat) (u : ByteArray) : Prop := i ≤ p ∧ k ≤ q ∧ A[p]? = some u ∧ B[q]? = some u ∧ R A B (p + 1) (q + 1) + 1 = R A B i k
/-- what the search of the reference has found among the pairs that it has seen -/
def SInv (A B : List ByteArray) (i k : Nat) (seen : Nat → Nat → Prop) (s10 s11 : Value) : Prop :=
  (s10 = .int .i64 (-1) ∧ s11 = .int .i64 (-1) ∧ ∀ p q u, seen p q → ¬ Pr A B i k p q u) ∨
  ∃ (x y : Nat) (z : ByteArray), s10 = .int .i64 x ∧ s11 = .int .i64 y ∧ Pr A B i k x y z ∧ ∀ p q u, seen p q → Pr A B i k p q u → ltb u z = false
namespace SInv
variable {A B : List ByteArray} {i k K M : Nat} {seen seen' : Nat → Nat → Prop} {s10 s11 : Value}
theorem skip (h : SInv A B i k seen s10 s11) (hs : ∀ p q, seen' p q → seen p q ∨ (p = K ∧ q = M)) (hn : ∀ u, ¬ Pr A B i k K M u) : SInv A B i k seen' s10 s11 := by
  rcases h with ⟨h1, h2, h3⟩ | ⟨x, y, z, h1, h2, h3, h4⟩
  · refine .inl ⟨h1, h2, fun p q u hq => ?_⟩
    rcases hs p q hq with h | ⟨rfl, rfl⟩
    · exact h3 p q u h
    · exact hn u
  · refine .inr ⟨x, y, z, h1, h2, h3, fun p q u hq hp => ?_⟩
    rcases hs p q hq with h | ⟨rfl, rfl⟩
    · exact h4 p q u h hp
    · exact absurd hp (hn u)
theorem more (h : SInv A B i k seen s10 s11) (hs : ∀ p q u, seen' p q → Pr A B i k p q u → seen p q) : SInv A B i k seen' s10 s11 := by
  rcases h with ⟨h1, h2, h3⟩ | ⟨x, y, z, h1, h2, h3, h4⟩
  · exact .inl ⟨h1, h2, fun p q u hq hp => h3 p q u (hs p q u hq hp) hp⟩
  · exact .inr ⟨x, y, z, h1, h2, h3, fun p q u hq hp => h4 p q u (hs p q u hq hp) hp⟩
theorem first {u : ByteArray} (hs : ∀ p q, seen' p q → seen p q ∨ (p = K ∧ q = M)) (h : ∀ p q u, seen p q → ¬ Pr A B i k p q u) (hu : Pr A B i k K M u) : SInv A B i k seen' (.int .i64 K) (.int .i64 M) := by
  refine .inr ⟨K, M, u, rfl, rfl, hu, fun p q v hq hv => ?_⟩
  rcases hs p q hq with h' | ⟨rfl, rfl⟩
  · exact absurd hv (h p q v h')
  · have := hv.2.2.1.symm.trans hu.2.2.1
    cases this
    exact ltb_irr _
theorem take {u z : ByteArray} (hs : ∀ p q, seen' p q → seen p q ∨ (p = K ∧ q = M)) (h : ∀ p q u, seen p q → Pr A B i k p q u → ltb u z = false) (hu : Pr A B i k K M u) (hl : ltb u z = true) : SInv A B i k seen' (.int .i64 K) (.int .i64 M) := by
  refine .inr ⟨K, M, u, rfl, rfl, hu, fun p q v hq hv => ?_⟩
  rcases hs p q hq with h' | ⟨rfl, rfl⟩
  · cases hvu : ltb v u with
    | false => rfl
    | true => have := h p q v h' hv; rw [ltb_trans v u z hvu hl] at this; cases this
  · have := hv.2.2.1.symm.trans hu.2.2.1
    cases this
    exact ltb_irr _
theorem keep {x y : Nat} {u z : ByteArray} (hs : ∀ p q, seen' p q → seen p q ∨ (p = K ∧ q = M)) (hxy : Pr A B i k x y z) (h : ∀ p q u, seen p q → Pr A B i k p q u → ltb u z = false) (hu : Pr A B i k K M u) (hl : ltb u z = false) :
    SInv A B i k seen' (.int .i64 x) (.int .i64 y) := by
  refine .inr ⟨x, y, z, rfl, rfl, hxy, fun p q v hq hv => ?_⟩
  rcases hs p q hq with h' | ⟨rfl, rfl⟩
  · exact h p q v h' hv
  · have := hv.2.2.1.symm.trans hu.2.2.1
    cases this
    exact hl
end SInv
/-- when all pairs were seen, the element is the one of the step -/
theorem sinv_end {A B : List ByteArray} {i k X Y : Nat} {z : ByteArray} {s10 s11 : Value} (h : SInv A B i k (fun p _ => p < A.length) s10 s11) (hz : Pr A B i k X Y z)
    (hm : ∀ p q u, i ≤ p → k ≤ q → A[p]? = some u → B[q]? = some u → R A B (p + 1) (q + 1) + 1 = R A B i k → ltb u z = false) :
    ∃ (x y : Nat), s10 = .int .i64 x ∧ s11 = .int .i64 y ∧ x < A.length ∧ A.getD x ByteArray.empty = z := by
  rcases h with ⟨_, _, h3⟩ | ⟨x, y, u, h1, h2, h3, h4⟩
  · exact absurd hz (h3 X Y z (get_lt hz.2.2.1))
  · have e : u = z := ltb_total (hm x y u h3.1 h3.2.1 h3.2.2.1 h3.2.2.2.1 h3.2.2.2.2) (h4 X Y z (get_lt hz.2.2.1) hz)
    refine ⟨x, y, h1, h2, get_lt h3.2.2.1, ?_⟩
    rw [List.getD_eq_getElem?_getD, h3.2.2.1, e]; rfl
end Go.Proofs.Ytmmcdncaiedmgaa
