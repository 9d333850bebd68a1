import Derived.Test.YtmmcdncaiedmgaaY
import Derived.Test.YtmmcdncaiedmgaaT
set_option linter.unusedVariables false
set_option linter.unusedSimpArgs false
namespace Go.Proofs.Ytmmcdncaiedmgaa
open Go.RowKit
def rowV (m : Nat) (g : Nat) : Value := .slice (some ⟨g, 0, none⟩) m m
/-- a table whose rows were appended one by one: `v` the slice of rows, `rs` the blocks of the rows -/
structure RTab (w : World) (lo : Nat) (v : Value) (n m : Nat) (rs : List Nat) (f : Nat → Nat → Int) : Prop where
  len : rs.length = n
  top : w.ownsRow lo 61 1 v n (rs.map (rowV m))
  rows : ∀ i, i < n → lo ≤ rs.getD i 0 ∧ Has w (rs.getD i 0) 3 m (fun k => .int .i64 (f i k))
namespace RTab
variable {w w' : World} {lo n m : Nat} {v : Value} {rs : List Nat} {f : Nat → Nat → Int}
theorem ownNe {g t k : Nat} {F : Nat → Value} (h : w.ownsRow lo 61 1 v n (rs.map (rowV m))) (hg : Has w g t k F) (ht : t ≠ 61) : v.ownBlock ≠ some g := by
  intro e
  rcases own_forms h with ⟨rfl, _⟩ | ⟨g', cap, rfl, hg1, hg2, hcap⟩
  · cases e
  · injection e with e
    subst e
    exact (own_has h).ne_ hg (fun q => ht q.symm) rfl
theorem grown (h : RTab w lo v n m rs f) {r : Nat} (hg : w.grownBy w' (some r)) (hr : v.ownBlock ≠ some r) (hrs : ∀ i, i < n → rs.getD i 0 ≠ r) : RTab w' lo v n m rs f :=
  ⟨h.len, h.top.kept hg (.inr hr), fun i hi => ⟨(h.rows i hi).1, (h.rows i hi).2.grown hg (fun e => hrs i hi (Option.some.inj e))⟩⟩
theorem form (h : RTab w lo v n m rs f) (hn : 0 < n) : ∃ g cap, v = .slice (some ⟨g, 0, none⟩) n cap ∧ lo ≤ g ∧ g < w.heap.size ∧ n ≤ cap ∧ ∀ i, i < n → w.cell? ⟨g, i, none⟩ = some (.slice (some ⟨rs.getD i 0, 0, none⟩) m m) := by
  rcases own_forms h.top with ⟨_, h0, _⟩ | ⟨g, cap, rfl, hg1, hg2, hcap⟩
  · omega
  · refine ⟨g, cap, rfl, hg1, hg2, hcap, fun i hi => ?_⟩
    have := (own_has h.top).cell (i := i) (by omega)
    rw [this]
    have hl := h.len
    simp [List.getD_eq_getElem?_getD, List.getElem?_map, show i < rs.length by omega, rowV]
theorem cell (h : RTab w lo v n m rs f) {i k : Nat} (hi : i < n) (hk : k < m) : w.cell? ⟨rs.getD i 0, k, none⟩ = some (.int .i64 (f i k)) := (h.rows i hi).2.cell hk
end RTab
end Go.Proofs.Ytmmcdncaiedmgaa
