import Derived.Test.YtmmcdncaiedmgaaB
set_option linter.unusedVariables false
set_option linter.unusedSimpArgs false
namespace Go.Proofs.Ytmmcdncaiedmgaa
open Go.RowKit
theorem info61 : (Try.prog.info? 61).map (fun i => (i.zero, i.size, i.bytes)) = some (some (.slice none 0 0), 1, 24) := by kernel_rfl

/-- the table while row `i` is filled up to column `k` -/
def part (p : Nat → Nat → Bool) (i k i' k' : Nat) : Int := if i' < i ∨ (i' = i ∧ k' < k) then lev p i' k' else 0
theorem part_lt {p : Nat → Nat → Bool} {i k i' k' : Nat} (h : i' < i) : part p i k i' k' = lev p i' k' := if_pos (.inl h)
theorem part_le {p : Nat → Nat → Bool} {i k k' : Nat} (h : k' < k) : part p i k i k' = lev p i k' := if_pos (.inr ⟨rfl, h⟩)

structure Fil (p : Nat → Nat → Bool) (n m : Nat) (w wr : World) (i r k : Nat) : Prop where
  below : Below w.heap.size w wr
  size : wr.heap.size = w.heap.size + 1 + r
  top : ∃ F, Has wr w.heap.size 61 n F
  tab : Tab 61 wr w.heap.size w.heap.size r m (fun i => w.heap.size + 1 + i) (part p i k)

theorem fil_row {p : Nat → Nat → Bool} {n m : Nat} {w wr : World} {i : Nat} (h : Fil p n m w wr i i 0) (hi : i < n) :
    Fil p n m w ((wr.alloc (.cells (madeCells #[.int .i64 0] m) 3)).setCell ⟨w.heap.size, i, none⟩ (.slice (some ⟨w.heap.size + 1 + i, 0, none⟩) m m)) i (i + 1) 0 := by
  obtain ⟨hb, hs, ⟨F, hF⟩, ht⟩ := h
  have hn := Has.made wr (.int .i64 0) m 3
  rw [hs] at hn
  have := Tab.push (by decide) (ht.alloc _) (hF.alloc _) hi (hn.congr (f' := fun k => .int .i64 (part p i 0 i k)) (fun k hk => by simp [part])) (fun j hj => by omega) (by omega)
  exact ⟨(hb.alloc (by omega) _).setCell (Nat.le_refl _) _, by simp [hs]; omega, ⟨_, this.2⟩, this.1⟩

theorem fil_store {p : Nat → Nat → Bool} {n m : Nat} {w wr : World} {i k : Nat} (q : Nat) (h : Fil p n m w wr i (i + 1) k) {v : Int} (hv : v = lev p i k) :
    Fil p n m w ((wr.drewN q).setCell ⟨w.heap.size + 1 + i, k, none⟩ (.int .i64 v)) i (i + 1) (k + 1) := by
  obtain ⟨hb, hs, ⟨F, hF⟩, ht⟩ := h
  refine ⟨(drewN_below hb q).setCell (by show w.heap.size ≤ w.heap.size + 1 + i; omega) _, by simpa using hs, ⟨F, (hF.drewN q).far (by show w.heap.size ≠ w.heap.size + 1 + i; omega) _⟩,
    ((ht.drewN q).store (by decide) (i := i) (by omega) k v).congr fun i' k' hi' hk' => ?_⟩
  subst hv
  by_cases e : i' = i ∧ k' = k
  · obtain ⟨rfl, rfl⟩ := e
    rw [if_pos ⟨rfl, rfl⟩, part_le (by omega)]
  · rw [if_neg e]
    unfold part
    by_cases h : i' < i ∨ i' = i ∧ k' < k
    · rw [if_pos h, if_pos (by omega)]
    · rw [if_neg h, if_neg (by omega)]

theorem fil_end {p : Nat → Nat → Bool} {n m : Nat} {w wr : World} {i : Nat} (h : Fil p n m w wr i (i + 1) m) : Fil p n m w wr (i + 1) (i + 1) 0 := by
  obtain ⟨hb, hs, ht0, ht⟩ := h
  refine ⟨hb, hs, ht0, ht.congr fun i' k' hi' hk' => ?_⟩
  have h1 : part p (i + 1) 0 i' k' = lev p i' k' := part_lt (by omega)
  refine Eq.trans ?_ h1.symm
  by_cases e : i' = i
  · subst e; exact part_le hk'
  · exact part_lt (by omega)

end Go.Proofs.Ytmmcdncaiedmgaa
