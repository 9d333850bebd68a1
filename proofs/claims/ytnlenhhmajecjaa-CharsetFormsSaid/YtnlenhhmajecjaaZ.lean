import Derived.Laws.OwnMore
import Derived.Laws.Concat
import Derived.Maps.AppendAt
import Derived.Test.YtnlenhhmajecjaaY
import Derived.Test.YtnlenhhmajecjaaT
set_option linter.unusedVariables false
set_option linter.unusedSimpArgs false
namespace Go.Proofs.Ytnlenhhmajecjaa
open Go.RowKit
/-- the reference's clusters, after `i` characters -/
def ClI (s : ByteArray) (i : Nat) (L : List ByteArray) : Prop :=
  (i = 0 ∧ L = []) ∨ ∃ pre f, f < i ∧ i ≤ s.size ∧ rgt s f = false ∧ (∀ t, f < t → t < i → rgt s t = true) ∧ (f + 1 < i → kd s f = 1) ∧
    clusters s = pre ++ clF s (s.size + 1 - i) f i ∧ L = pre.map (fun x => x.2) ++ [s.extract f i]
theorem rgt_joins {s : ByteArray} {f i : Nat} (hf : f < i) (h0 : rgt s f = false) (h1 : ∀ t, f < t → t < i → rgt s t = true) (h2 : f + 1 < i → kd s f = 1) (hi : i < s.size) : joins s f i = rgt s i := by
  obtain ⟨j, rfl⟩ : ∃ j, i = j + 1 := ⟨i - 1, by omega⟩
  have hd : decide (j + 1 < s.size) = true := by simpa using hi
  have hd2 : decide (f < j + 1) = true := by simpa using hf
  rw [joins, rgt, hd, hd2]
  by_cases e : f = j
  · subst e; rw [h0]; simp
  · rw [h1 j (by omega) (by omega), h2 (by omega)]; simp
theorem ext_app (s : ByteArray) {f i j : Nat} (h1 : f ≤ i) (h2 : i ≤ j) : s.extract f i ++ s.extract i j = s.extract f j := by
  refine bl_inj ?_
  have ha : ∀ a b : ByteArray, bl (a ++ b) = bl a ++ bl b := fun a b => by simp [bl, ByteArray.data_append]
  rw [ha, bl_extract, bl_extract, bl_extract]
  obtain ⟨a, rfl⟩ : ∃ a, i = f + a := ⟨i - f, by omega⟩
  obtain ⟨b, rfl⟩ : ∃ b, j = f + a + b := ⟨j - (f + a), by omega⟩
  rw [Nat.add_sub_cancel_left, Nat.add_sub_cancel_left, show f + a + b - f = a + b by omega, List.take_add, List.drop_drop]
theorem ClI.start (s : ByteArray) : ClI s 0 [] := .inl ⟨rfl, rfl⟩
theorem ClI.join {s : ByteArray} {i : Nat} {L : List ByteArray} (h : ClI s i L) (hi : i < s.size) (hr : rgt s i = true) : ∃ L0 c, L = L0 ++ [c] ∧ c.size ≤ s.size ∧ ClI s (i + 1) (L0 ++ [c ++ s.extract i (i + 1)]) := by
  rcases h with ⟨rfl, rfl⟩ | ⟨pre, f, hf, hin, h0, h1, h2, hc, rfl⟩
  · cases hr
  · refine ⟨_, _, rfl, by rw [ByteArray.size_extract]; omega, .inr ⟨pre, f, by omega, by omega, h0, fun t ht1 ht2 => ?_, fun _ => ?_, ?_, ?_⟩⟩
    · by_cases e : t = i
      · subst e; exact hr
      · exact h1 t ht1 (by omega)
    · have hj := rgt_joins hf h0 h1 h2 hi
      rw [hr] at hj
      exact (joins_iff.1 hj).2.2.1
    · rw [hc, show s.size + 1 - i = (s.size + 1 - (i + 1)) + 1 by omega, clF, if_pos (by rw [rgt_joins hf h0 h1 h2 hi, hr])]
    · rw [ext_app s (by omega) (by omega)]
theorem ClI.next {s : ByteArray} {i : Nat} {L : List ByteArray} (h : ClI s i L) (hi : i < s.size) (hr : rgt s i = false) : ClI s (i + 1) (L ++ [s.extract i (i + 1)]) := by
  rcases h with ⟨rfl, rfl⟩ | ⟨pre, f, hf, hin, h0, h1, h2, hc, rfl⟩
  · exact .inr ⟨[], 0, by omega, by omega, rfl, fun t h1 h2 => by omega, fun h => by omega, rfl, rfl⟩
  · refine .inr ⟨pre ++ [(f, s.extract f i)], i, by omega, by omega, hr, fun t h1 h2 => by omega, fun h => by omega, ?_, ?_⟩
    · rw [hc, show s.size + 1 - i = (s.size + 1 - (i + 1)) + 1 by omega, clF, if_neg (by rw [rgt_joins hf h0 h1 h2 hi, hr]; exact Bool.false_ne_true)]
      simp
    · simp
theorem ClI.done {s : ByteArray} {L : List ByteArray} (h : ClI s s.size L) : L = clR s := by
  rcases h with ⟨hz, rfl⟩ | ⟨pre, f, hf, hin, h0, h1, h2, hc, rfl⟩
  · rw [clR, clusters, hz]; rfl
  · have hj : joins s f s.size = false := by rw [joins]; simp
    rw [clR, hc, show s.size + 1 - s.size = 0 + 1 by omega, clF, if_neg (by rw [hj]; exact Bool.false_ne_true)]
    simp [clF]
/-- `append(s, x)` of elements that were just laid in a new block, onto a row of the call's own; and where the new row lies -/
theorem app_at {P : Program} {ops : Array Oper} {rest : List Oper} {o : Oper} {a : Act} {Q : Exit → Act → World → Prop} (w : World) (hgd : o.guard = none) (s x : Operand) (t e : TypeId)
    (ho : o.op = .call { callee := .builtin .append, args := #[s, x], argTypes := #[t, t] }) (z : Value) (size bytes : Nat) (ht : P.underlying t = some (.slice e))
    (hinfo : (P.info? e).map (fun i => (i.zero, i.size, i.bytes)) = some (some z, size, bytes)) (hzs : z.cells.size = size) (hsz : 0 < size)
    (base : Nat) (v : Value) (n : Nat) (xs : List Value) (hs : a.eval s = v) (hown : w.ownsRow base e size v n xs) (m c' : Nat) (c : Array Value)
    (hx : a.eval x = .slice (some ⟨w.heap.size, 0, none⟩) m c') (hc : c.size = m * size) (h1 : ∀ u ∈ c.toList, u.oneCell' = true)
    (h63 : n + m ≤ maxLen) (hbytes : (n + m) * bytes ≤ 140737488355328) (hbase : base ≤ w.heap.size)
    (h : ∀ v' w', w'.ownsRow base e size v' (n + m) (xs ++ c.toList) → (w.alloc (.cells c e)).grownBy w' v.ownBlock → (v'.ownBlock = v.ownBlock ∨ v'.ownBlock = some (w.heap.size + 1)) → wpList P ops Q rest (a.put o.dst v') w') :
    wpList P ops Q (o :: rest) a (w.alloc (.cells c e)) := by
  obtain ⟨i0, hi, hzz⟩ := Option.map_eq_some_iff.1 hinfo
  simp only [Prod.mk.injEq] at hzz
  obtain ⟨hz, hsi, hb⟩ := hzz
  exact wpList_append_own_at _ hgd s x t ho base e i0 z size bytes ht hi hz hsi hb hzs hsz v n xs hs (hown.alloc _) ⟨w.heap.size, 0, none⟩ m c' c.toList hx (by simpa using hc) (cells_new w c e) h1 h63 hbytes (by simp; omega)
    fun v' w' g1 g2 _ g3 => h v' w' g1 g2 (by simpa using g3)
/-- a row lies in block `h0` or at or behind block `h1` -/
def OutB (h0 h1 : Nat) (v : Value) : Prop := v.ownBlock = some h0 ∨ ∃ g, v.ownBlock = some g ∧ h1 ≤ g
def KeepB (h0 h1 : Nat) (W wr : World) : Prop := h1 ≤ wr.heap.size ∧ ∀ g, h0 < g → g < h1 → wr.heap[g]? = W.heap[g]?
theorem KeepB.app {h0 h1 : Nat} {W wr w2 : World} {v : Value} {o : Obj} (h : KeepB h0 h1 W wr) (ho : OutB h0 h1 v) (hg : (wr.alloc o).grownBy w2 v.ownBlock) : KeepB h0 h1 W w2 := by
  refine ⟨Nat.le_trans h.1 (Nat.le_trans (by simp) hg.size), fun g h2 h3 => ?_⟩
  have e1 := hg.block g (by have := h.1; simp; omega) (fun e => by
    rcases ho with h4 | ⟨g', h4, h5⟩
    · rw [h4] at e; injection e; omega
    · rw [h4] at e; injection e; omega)
  rw [e1, Below.heap_alloc _ _ _ (by have := h.1; omega)]
  exact h.2 g h2 h3
theorem OutB.app {h0 h1 : Nat} {wr : World} {v v' : Value} (ho : OutB h0 h1 v) (h : h1 ≤ wr.heap.size) (hat : v'.ownBlock = v.ownBlock ∨ v'.ownBlock = some (wr.heap.size + 1)) : OutB h0 h1 v' := by
  rcases hat with e | e
  · unfold OutB; rw [e]; exact ho
  · exact .inr ⟨_, e, by omega⟩
theorem KeepB.set {h0 h1 : Nat} {W wr : World} {n cap g : Nat} {i : Nat} {x : Value} (h : KeepB h0 h1 W wr) (ho : OutB h0 h1 (.slice (some ⟨g, 0, none⟩) n cap)) : KeepB h0 h1 W (wr.setCell ⟨g, i, none⟩ x) := by
  refine ⟨by have := h.1; simpa [World.setCell] using this, fun g' h2 h3 => ?_⟩
  rw [Below.heap_setCell _ _ _ _ (fun e => ?_)]
  · exact h.2 g' h2 h3
  · have e' : g' = g := e
    subst e'
    rcases ho with h4 | ⟨g'', h4, h5⟩
    · have h6 : g' = h0 := by simpa [Value.ownBlock] using h4
      omega
    · have h6 : g' = g'' := by simpa [Value.ownBlock] using h4
      omega
theorem KeepB.cell {h0 h1 : Nat} {W wr : World} {g i : Nat} (h : KeepB h0 h1 W wr) (h2 : h0 < g) (h3 : g < h1) : wr.cell? ⟨g, i, none⟩ = W.cell? ⟨g, i, none⟩ := by
  simp [World.cell?, h.2 g h2 h3]
/-- a store into an owned row of strings -/
theorem own_last {w : World} {base g cap : Nat} {L0 : List ByteArray} {c d : ByteArray} (h : w.ownsRow base 9 1 (.slice (some ⟨g, 0, none⟩) (L0.length + 1) cap) (L0.length + 1) ((L0 ++ [c]).map Value.string)) :
    (w.setCell ⟨g, L0.length, none⟩ (.string d)).ownsRow base 9 1 (.slice (some ⟨g, 0, none⟩) (L0.length + 1) cap) (L0.length + 1) ((L0 ++ [d]).map Value.string) := by
  have h2 := (World.ownsRow.stored h L0.length (.string d)).1
  have e : ((L0 ++ [c]).map Value.string).set L0.length (.string d) = (L0 ++ [d]).map Value.string := by
    rw [List.map_append, List.set_append_right _ _ (by simp)]; simp
  rwa [e] at h2
end Go.Proofs.Ytnlenhhmajecjaa
