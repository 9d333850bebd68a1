import Derived.Test.YtpfjeldpckmdoaaG
set_option linter.unusedVariables false
set_option linter.unusedSimpArgs false
namespace Go.Proofs.Ytpfjeldpckmdoaa
open Go.RowKit Go.Shelf
/-! plain: pages and potentials keep their bounds -/
theorem pgsF_ok {p : PP} (h : Val p) {i : Nat} : ∀ {g j : Nat}, i < j → j + g ≤ p.n + 1 → ∀ x ∈ pgsF p i g j, okP p i x
  | 0, _, _, _, x, hx => by simp [pgsF] at hx
  | g + 1, j, hij, hg, x, hx => by
    rw [pgsF] at hx
    by_cases h22 : (pg p i j).2 = 22
    · rw [if_pos h22] at hx; simp at hx
    · rw [if_neg h22] at hx
      by_cases h0 : (pg p i j).2 = 0
      · rw [if_pos h0] at hx
        rcases List.mem_cons.1 hx with rfl | hx
        · have := pg_bd h (i := i) (j := j) (by omega) (by omega)
          exact ⟨hij, by show j ≤ p.n; omega, this.1, this.2⟩
        · exact pgsF_ok h (by omega) (by omega) x hx
      · rw [if_neg h0] at hx
        exact pgsF_ok h (by omega) (by omega) x hx
theorem pgs_ok {p : PP} (h : Val p) {i : Nat} (hi : i < p.n) : ∀ x ∈ pgs p i, okP p i x := pgsF_ok h (by omega) (by omega)
theorem best_bd {f : Nat → Int} {M : Int} (hM : 0 ≤ M) (hf : ∀ t, -1 ≤ f t ∧ f t ≤ M) : ∀ {L : List (Nat × Int)} {acc : Int}, (∀ x ∈ L, 0 ≤ x.2 ∧ x.2 ≤ 20000) → -1 ≤ acc → acc ≤ M + 20000 → -1 ≤ best f acc L ∧ best f acc L ≤ M + 20000
  | [], acc, _, h1, h2 => ⟨h1, h2⟩
  | x :: L, acc, hL, h1, h2 => by
    have hx := hL x (List.mem_cons_self ..)
    have hfx := hf x.1
    have hs : -1 ≤ stp f acc x ∧ stp f acc x ≤ M + 20000 := by
      unfold stp
      split <;> omega
    exact best_bd hM hf (L := L) (acc := stp f acc x) (fun y hy => hL y (List.mem_cons_of_mem _ hy)) hs.1 hs.2
theorem pot_bd {p : PP} (h : Val p) : ∀ {k : Nat}, k ≤ p.n → ∀ t, -1 ≤ pot p k t ∧ pot p k t ≤ 20000 * k
  | 0, _, t => by simp [pot]
  | k + 1, hk, t => by
    have ih := pot_bd h (k := k) (by omega)
    rw [pot]
    split
    · have := best_bd (f := pot p k) (M := 20000 * k) (by omega) ih (L := pgs p (p.n - (k + 1))) (acc := -1) (fun x hx => ⟨(pgs_ok h (by omega) x hx).2.2.1, (pgs_ok h (by omega) x hx).2.2.2⟩) (by omega) (by omega)
      omega
    · have := ih t; omega
theorem best_snoc (f : Nat → Int) (acc : Int) (L : List (Nat × Int)) (x : Nat × Int) : best f acc (L ++ [x]) = stp f (best f acc L) x := by simp [best]
/-! marks among the deferred calls -/
def mark (D : Nat) : Deferred := { target := .collected D, args := #[] }
def Marks (B : Nat) (ds : List Nat) (W : World) : Prop := ds.Nodup ∧ ∀ D ∈ ds, B ≤ D ∧ W.heap[D]? = some (.deferred (some []))
theorem Marks.nil (B : Nat) (W : World) : Marks B [] W := ⟨List.nodup_nil, fun D h => by simp at h⟩
theorem Marks.keep {B : Nat} {ds : List Nat} {W W' : World} (h : Marks B ds W) (hk : ∀ D ∈ ds, W'.heap[D]? = W.heap[D]?) : Marks B ds W' := ⟨h.1, fun D hD => ⟨(h.2 D hD).1, (hk D hD).trans (h.2 D hD).2⟩⟩
theorem Marks.lt {B : Nat} {ds : List Nat} {W : World} (h : Marks B ds W) {D : Nat} (hD : D ∈ ds) : D < W.heap.size := (Array.getElem?_eq_some_iff.1 (h.2 D hD).2).1
theorem Marks.cons {B : Nat} {ds : List Nat} {W : World} (h : Marks B ds W) {D n : Nat} (hB : B ≤ D) (hD : W.heap[D]? = some (.deferred (some []))) (hn : ∀ d ∈ ds, d < n) (hDn : n ≤ D) : Marks B (D :: ds) W :=
  ⟨List.nodup_cons.2 ⟨fun hm => by have := hn D hm; omega, h.1⟩, fun d hd => by
    rcases List.mem_cons.1 hd with rfl | hd
    · exact ⟨hB, hD⟩
    · exact h.2 d hd⟩
theorem leaves_marks {F : Fence} {n : Nat} {P : Program} {fn : Func} {tmps : Array Value} {R : Ending → World → Prop} {B : Nat} (T : World → Prop)
    (hT : ∀ (W : World) (D : Nat), T W → B ≤ D → W.heap[D]? = some (.deferred (some [])) → T (W.putObj D (.deferred none)))
    (hend : ∀ W, T W → LeavesIn F n P fn tmps R [] .returning W) : ∀ (ds : List Nat) (W : World), Marks B ds W → T W → LeavesInM F n P fn tmps R (ds.map mark) .returning W
  | [], W, _, hW => hend W hW
  | D :: ds, W, hm, hW => by
    have hD := hm.2 D (List.mem_cons_self ..)
    refine ⟨by simp, .inl ⟨D, _, rfl, run_takeDeferred hD.2, ?_⟩⟩
    refine leaves_marks T hT hend ds _ ⟨(List.nodup_cons.1 hm.1).2, fun d hd => ⟨(hm.2 d (List.mem_cons_of_mem _ hd)).1, ?_⟩⟩ (hT W D hW hD.1 hD.2)
    rw [World.putObj_heap_other (fun e => by subst e; exact (List.nodup_cons.1 hm.1).1 hd)]
    exact (hm.2 d (List.mem_cons_of_mem _ hd)).2
/-- a loop: an invariant that bears a number -/
theorem wpIn_loop_gk {F : Fence} {n : Nat} {P : Program} {Q : Exit → Act → World → Prop} {a : Act} {w : World} {c : Code} (I : Nat → Act → World → Prop) (n₀ : Nat) (h₀ : I n₀ a w)
    (round : ∀ k a w, I k a w → ∀ (K : Act → World → Prop), (∀ k' a' w', k' < k → I k' a' w' → K a' w') → c.wpIn F n P (Exit.then K Q) a w) : (Code.loop c).wpIn F n P Q a w :=
  wpIn_loop (fun a w => ∃ n, I n a w) (fun a w => leastOf (fun n => I n a w)) ⟨n₀, h₀⟩ fun a w hI =>
    round _ a w (leastOf_spec hI).1 _ fun k' a' w' hlt hI' => ⟨⟨k', hI'⟩, Nat.lt_of_le_of_lt ((leastOf_spec ⟨k', hI'⟩).2 k' hI') hlt⟩
theorem has_own {β : Type} {g : Nat} {t : TypeId} {n : Nat} (f : β → Nat → Value) : Own (fun (s : β) W => Has W g t n (f s)) := fun s X Y row hs hg hrow => by
  obtain ⟨c, hb, h2, h3⟩ := hs
  refine ⟨c, ?_, h2, h3⟩
  rw [hg.block g (Array.getElem?_eq_some_iff.1 hb).1 (fun e => by
    obtain ⟨o, ho, hc⟩ := hrow g e.symm
    rw [hb] at ho; cases ho; cases hc)]
  exact hb
/-- marks that lie below the loop's start are left alone -/
theorem marks_own {β : Type} {B n0 : Nat} {ds : List Nat} (hd : ∀ d ∈ ds, d < n0) : OwnFrom n0 (fun (_ : β) W => Marks B ds W) := fun s X Y row hs hg hrow =>
  hs.keep fun D hD => hg.block D (hs.lt hD) (fun e => by have := (hrow D e.symm).1; have := hd D hD; omega)
end Go.Proofs.Ytpfjeldpckmdoaa
