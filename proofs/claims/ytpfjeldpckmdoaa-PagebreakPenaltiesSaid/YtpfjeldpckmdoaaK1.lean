import Derived.Test.YtpfjeldpckmdoaaP
import Derived.Test.YtpfjeldpckmdoaaC3
import Derived.Test.YtpfjeldpckmdoaaQ
set_option linter.unusedVariables false
set_option linter.unusedSimpArgs false
namespace Go.Proofs.Ytpfjeldpckmdoaa
open Go.RowKit Go.Shelf
def nums (L : List Nat) : List Value := L.map fun t => .int .i64 (t : Nat)
theorem nums_snoc (L : List Nat) (t : Nat) : nums (L ++ [t]) = nums L ++ [.int .i64 (t : Nat)] := by simp [nums]
/-- page ends so far (`L`, in `v`), and the line from which the next page goes -/
structure PB (W5 W : World) (B8 f : Nat) (L : List Nat) (v : Value) (ds : List Nat) : Prop where
  bel : Below W5.heap.size W5 W
  ob : Boxed W W5.heap.size 22 v
  fb : Boxed W B8 3 (.int .i64 (f : Nat))
  row : W.ownsRow W5.heap.size 3 1 v L.length (nums L)
  ne : some B8 ≠ v.ownBlock
  l8 : W5.heap.size ≤ B8
  mks : Marks W5.heap.size ds W
section
variable {W5 W X Y w1 : World} {B8 f : Nat} {L : List Nat} {v : Value} {ds : List Nat}
theorem PB.drewN (h : PB W5 W B8 f L v ds) (q : Nat) : PB W5 (W.drewN q) B8 f L v ds := ⟨drewN_below h.bel q, h.ob, h.fb, h.row, h.ne, h.l8, h.mks⟩
theorem boxed_ne2 {B B' : Nat} {t t' : TypeId} {u u' : Value} (h : Boxed W B t u) (h' : Boxed W B' t' u') (ht : t ≠ t') : B ≠ B' := by
  rintro rfl
  have h2 : W.heap[B]? = _ := h'
  rw [show W.heap[B]? = _ from h] at h2
  injection h2 with e
  injection e with _ e
  exact ht e
theorem mark_ne {B D : Nat} {t : TypeId} {u : Value} (h : Boxed W B t u) (hD : W.heap[D]? = some (.deferred (some []))) : D ≠ B := by
  rintro rfl
  rw [show W.heap[D]? = _ from h] at hD
  cases hD
theorem row_cells {b : Nat} {e : TypeId} {size n : Nat} {xs : List Value} {r : Nat} (h : W.ownsRow b e size v n xs) (hr : v.ownBlock = some r) : ∃ c, W.heap[r]? = some (.cells c e (0, 0)) := by
  rcases h.2 with ⟨rfl, _⟩ | ⟨g, cap, cur, rfl, _, hg, _⟩
  · simp [Value.ownBlock] at hr
  · obtain rfl : g = r := by simpa [Value.ownBlock] using hr
    exact ⟨cur, hg⟩
theorem mark_row {b : Nat} {e : TypeId} {size n : Nat} {xs : List Value} {D : Nat} (h : W.ownsRow b e size v n xs) (hD : W.heap[D]? = some (.deferred (some []))) : some D ≠ v.ownBlock := fun e => by
  obtain ⟨c, hc⟩ := row_cells h e.symm
  rw [hD] at hc
  cases hc
theorem PB.kept {n0 : Nat} (h : PB W5 X B8 f L v ds) (hd : ∀ d ∈ ds, d < n0) (h0 : W5.heap.size ≤ n0) {rw0 : Option Nat} (hg : X.grownBy Y rw0) (hr : ∀ r, rw0 = some r → n0 ≤ r ∧ ∃ o : Obj, X.heap[r]? = some o ∧ o.isCells = false) : PB W5 Y B8 f L v ds :=
  ⟨ownFrom_below (β := Unit) (Nat.le_refl _) h0 () X Y rw0 h.bel hg hr, boxed_own (β := Unit) _ _ (fun _ => v) () X Y rw0 h.ob hg (fun r e => (hr r e).2), boxed_own (β := Unit) _ _ (fun _ => .int .i64 (f : Nat)) () X Y rw0 h.fb hg (fun r e => (hr r e).2),
    h.row.kept hg (by
      by_cases e : v.ownBlock = rw0
      · cases hv : v.ownBlock with
        | none => exact .inl rfl
        | some r =>
          rw [hv] at e
          obtain ⟨_, o, ho, hc⟩ := hr r e.symm
          obtain ⟨c, hcc⟩ := row_cells h.row hv
          rw [ho] at hcc
          cases hcc
          cases hc
      · exact .inr e), h.ne, h.l8, marks_own (β := Unit) hd () X Y rw0 h.mks hg hr⟩
/-- a page end more -/
theorem PB.push (h : PB W5 W B8 f L v ds) {o : Obj} {g' cap' tp : Nat} (hgrow : (W.alloc o).grownBy w1 v.ownBlock)
    (hown : w1.ownsRow W5.heap.size 3 1 (.slice (some ⟨g', 0, none⟩) (L.length + 1) cap') (L.length + 1) (nums L ++ [.int .i64 (tp : Nat)])) (htp : f < tp) :
    Boxed w1 W5.heap.size 22 v ∧ Boxed w1 B8 3 (.int .i64 (f : Nat)) ∧ W5.heap.size ≠ B8 ∧ KeepsOthers W ((w1.setCell ⟨W5.heap.size, 0, none⟩ (.slice (some ⟨g', 0, none⟩) (L.length + 1) cap')).setCell ⟨B8, 0, none⟩ (.int .i64 (tp : Nat))) ∧
    PB W5 ((w1.setCell ⟨W5.heap.size, 0, none⟩ (.slice (some ⟨g', 0, none⟩) (L.length + 1) cap')).setCell ⟨B8, 0, none⟩ (.int .i64 (tp : Nat))) B8 tp (L ++ [tp]) (.slice (some ⟨g', 0, none⟩) (L.length + 1) cap') ds := by
  have hk : ∀ k, k < W.heap.size → some k ≠ v.ownBlock → w1.heap[k]? = W.heap[k]? := fun k hk hne => by
    rw [hgrow.block k (by simp; omega) hne, Below.heap_alloc _ _ _ hk]
  have hb1 : Boxed w1 W5.heap.size 22 v := (hk _ h.ob.lt (h.ob.not_row (by decide) h.row)).trans h.ob
  have hb8 : Boxed w1 B8 3 (.int .i64 (f : Nat)) := (hk _ h.fb.lt h.ne).trans h.fb
  have hne : W5.heap.size ≠ B8 := boxed_ne2 h.ob h.fb (by decide)
  have hgo : W5.heap.size ≠ g' := fun e => hb1.not_row (by decide) hown (by simp [Value.ownBlock, e])
  have hg8 : g' ≠ B8 := by
    rintro rfl
    rcases hown.2 with ⟨h0, _⟩ | ⟨g, cap, cur, hv, hbg, hg, hnc, hcm, hcs, htake⟩
    · cases h0
    · injection hv with e1 _ e3
      injection e1 with e1
      injection e1 with e1
      subst e1 e3
      rw [show w1.heap[g']? = _ from hb8] at hg
      injection hg with hg
      injection hg with hg
      subst hg
      have hl : (nums L).length = L.length := by simp [nums]
      have h1 : L.length = 0 := by simp at hcs; omega
      have hL : L = [] := List.eq_nil_of_length_eq_zero h1
      subst hL
      simp [nums] at htake
      omega
  have hk2 : ∀ k, k ≠ W5.heap.size → k ≠ B8 → ((w1.setCell ⟨W5.heap.size, 0, none⟩ (.slice (some ⟨g', 0, none⟩) (L.length + 1) cap')).setCell ⟨B8, 0, none⟩ (.int .i64 (tp : Nat))).heap[k]? = w1.heap[k]? := fun k h1 h2 => by
    rw [Below.heap_setCell _ _ _ _ h2, Below.heap_setCell _ _ _ _ h1]
  refine ⟨hb1, hb8, hne, ?_, ?_, ?_, (hb8.other (Ne.symm hne) _).set _, ?_, ?_, h.l8, ?_⟩
  · refine (((KeepsOthers.alloc W o).trans (KeepsOthers.of_grownBy hgrow fun j ob ej hj => ?_)).trans (KeepsOthers.setCell _ _ _)).trans (KeepsOthers.setCell _ _ _)
    obtain ⟨c, hc⟩ := row_cells (h.row.alloc o) ej
    rw [hc] at hj
    cases hj
    rfl
  · refine ((h.bel.trans ⟨hgrow.os, hgrow.tape, hgrow.output, by have := hgrow.size; simp at this; omega, fun k hk' => ?_⟩).setCell (p := ⟨W5.heap.size, 0, none⟩) (Nat.le_refl _) _).setCell (p := ⟨B8, 0, none⟩) h.l8 _
    exact hk k (Nat.lt_of_lt_of_le hk' h.bel.size) (fun e => by have := (h.row.lt k e.symm).1; omega)
  · exact (hb1.set _).other hne _
  · rw [nums_snoc, List.length_append, List.length_singleton]
    exact own_of_block hown (hk2 g' (Ne.symm hgo) hg8)
  · simp only [Value.ownBlock]
    exact fun e => hg8 (by injection e with e; exact e.symm)
  · refine h.mks.keep fun D hD => ?_
    have hd := (h.mks.2 D hD).2
    rw [hk2 D (mark_ne h.ob hd) (mark_ne h.fb hd)]
    exact hk D (h.mks.lt hD) (mark_row h.row hd)
/-- the copy of the loop's variable for the next round -/
theorem PB.copy (h : PB W5 W B8 f L v ds) : PB W5 (W.alloc (.cells #[.int .i64 (f : Nat)] 3)) W.heap.size f L v ds :=
  ⟨h.bel.alloc h.bel.size _, h.ob.alloc _, Boxed.new W 3 _, h.row.alloc _, fun e => by have := (h.row.lt _ e.symm).2; omega, h.bel.size, h.mks.keep fun D hD => Below.heap_alloc _ _ _ (h.mks.lt hD)⟩
theorem PB.mark (h : PB W5 W B8 f L v ds) {D n0 : Nat} (h0 : W5.heap.size ≤ n0) (hD : W.heap[D]? = some (.deferred (some []))) (hd : ∀ d ∈ ds, d < n0) (hn : n0 ≤ D) : PB W5 W B8 f L v (D :: ds) :=
  ⟨h.bel, h.ob, h.fb, h.row, h.ne, h.l8, h.mks.cons (Nat.le_trans h0 hn) hD hd hn⟩
end
end Go.Proofs.Ytpfjeldpckmdoaa
