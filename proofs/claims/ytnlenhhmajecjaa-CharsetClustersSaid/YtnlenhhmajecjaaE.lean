import Derived.Test.YtnlenhhmajecjaaD
set_option linter.unusedVariables false
set_option linter.unusedSimpArgs false
namespace Go.Proofs.Ytnlenhhmajecjaa
open Go.RowKit Go.Shelf
attribute [local go_sem] Oper.semAt_some
theorem info9 : (Try.prog.info? 9).map (fun i => (i.zero, i.size, i.bytes)) = some (some (.string ⟨#[]⟩), 1, 16) := by kernel_rfl
/-- the clusters of a string -/
def clR (s : ByteArray) : List ByteArray := (clusters s).map (fun x => x.2)
theorem clF_len (s : ByteArray) : ∀ g f i, (clF s g f i).length ≤ g
  | 0, _, _ => Nat.zero_le _
  | g + 1, f, i => by
    rw [clF]
    split
    · have := clF_len s g f (i + 1); omega
    · have := clF_len s g i (i + 1); simp only [List.length_cons]; omega
theorem clusters_len (s : ByteArray) : (clusters s).length ≤ s.size := clF_len _ _ _ _
def clP (pre : List Cl) : List Value := pre.map fun x => Value.string x.1.2
theorem ownsRow_weak {W : World} {b b' : Nat} {e : TypeId} {size n : Nat} {v : Value} {xs : List Value} (h : W.ownsRow b e size v n xs) (hb : b' ≤ b) : W.ownsRow b' e size v n xs := by
  obtain ⟨hl, h2⟩ := h
  refine ⟨hl, ?_⟩
  rcases h2 with h | ⟨g, cap, cur, hv, hg, rest⟩
  · exact .inl h
  · exact .inr ⟨g, cap, cur, hv, by omega, rest⟩
set_option maxRecDepth 100000 in
set_option maxHeartbeats 4000000 in
theorem clusters_any (s : ByteArray) (w : World) (hs : s.size ≤ 65536) :
    Calls Try.prog 27 #[.string s] w fun e W' => ∃ v, e = .returned v ∧ W'.ownsRow w.heap.size 9 1 v (clR s).length ((clR s).map Value.string) ∧ Below w.heap.size w W' := by
  have hlen := clusters_len s
  refine (callsIn_wide (n := 4)).1 ?_
  have h1 : 1 ≤ 4 := by omega
  obtain ⟨i0, hi, hz0, hz1, hz2⟩ := info_parts info9
  refine callsIn_of_wp_marks Try.func27 rfl trivial ?_ rfl
  simp only [Try.ntmps27, List.size_toArray, List.length_cons, List.length_nil, Nat.reduceAdd, Nat.reduceSub, Array.replicate_succ, Array.replicate_zero, List.push_toArray, List.append_toArray, List.nil_append, List.cons_append]
  gi_wp2
  refine ⟨trivial, ?_⟩
  refine (clusters_in _ _ _).mono ?_
  rintro e w' ⟨rfl, rfl⟩
  gi_wp2
  have bO := Boxed.new w 31 (.slice none 0 0)
  have bN := Boxed.new (w.alloc (.cells #[.slice none 0 0] 31)) 9 (.string s)
  rw [World.size_alloc] at bN
  have hB0 : Below w.heap.size w ((w.alloc (.cells #[.slice none 0 0] 31)).alloc (.cells #[.string s] 9)) := ((Below.refl _ w).alloc (Nat.le_refl _) _).alloc (by simp) _
  obtain ⟨W0, hW0⟩ : ∃ W0, (w.alloc (.cells #[.slice none 0 0] 31)).alloc (.cells #[.string s] 9) = W0 := ⟨_, rfl⟩
  have hsz : W0.heap.size = w.heap.size + 2 := by rw [← hW0]; simp
  have bO' := bO.alloc (.cells #[.string s] 9)
  rw [hW0] at bN hB0 bO' ⊢
  clear hW0
  refine wpIn_rangeFunc_ownG rfl h1 (gf := 56) (lb := #[.pointer (some ⟨w.heap.size + 1, 0, none⟩)]) rfl trivial (enters_of Try.func56 (by kernel_rfl) rfl)
    (clusters_stops (4 - 1) (by omega) (w.heap.size + 1) s (by omega) W0 (by omega) bN.cell) kpB_t (kpB_b (by omega)) (Below.refl _ _) (fun _ => rfl)
    (fun pre W => (∃ v, Boxed W w.heap.size 31 v ∧ W.ownsRow (w.heap.size + 2) 9 1 v pre.length (clP pre) ∧ True) ∧ Below w.heap.size W0 W)
    (fun _ _ _ => False)
    (OwnFrom.and (Own.from (holdsRow_own (w.heap.size + 2) w.heap.size 31 9 1 (fun pre => pre.length) clP (fun pre v => True)) _) (ownFrom_below (by omega) (by omega)))
    (fun _ _ _ _ _ hs _ _ => hs)
    ⟨⟨_, bO', World.ownsRow_nil _ _ _ _, trivial⟩, Below.refl _ _⟩
    (fun x => { tmps := #[.string s, undef, .slice none 0 0, .pointer (some ⟨w.heap.size, 0, none⟩), undef, .string x.1.2, .string s, .func (.func 56) #[] #[.pointer (some ⟨w.heap.size + 1, 0, none⟩)], .int .i64 (x.1.1 : Int), .string x.1.2, undef, undef, undef, undef, undef], defers := [] }) ?assign ?body ?done ?stop
  case assign =>
    intro l x W K hK
    unfold encC
    gi_wp2
    exact hK
  case body =>
    rintro l pre ⟨x, hx0, hx1⟩ W ⟨⟨v, hv, hrow, _⟩, hB⟩ hlt
    have hc := hv.cell
    have hBs := hB.size
    have hrow0 := ownsRow_weak hrow (show w.heap.size ≤ w.heap.size + 2 by omega)
    gi_wp2_with (gi_at_builtin; refine wpListIn_append_own _ rfl _ _ 31 rfl (w.heap.size + 2) 9 i0 (.string ⟨#[]⟩) 1 16 Try.underlying31 hi hz0 hz1 hz2 rfl (by decide) _ _ _ rfl (hrow.alloc _) ⟨W.heap.size, 0, none⟩ 1 1 [.string x.2] rfl rfl (cell_one_new _ _ _) (by simp [Value.oneCell']) (by unfold maxLen; omega) (by omega) (by simp; omega) ?_; intro v' w1 hown' hgrow _; obtain ⟨g', cap', rfl⟩ := ownsRow_succ hown'; have hown0 := ownsRow_weak hown' (show w.heap.size ≤ w.heap.size + 2 by omega); obtain ⟨hv1, hv2, hr2, hk2, hb2⟩ := hv.appended (by decide) hrow0 (by omega) (Nat.le_refl _) hown0 hgrow; have hc1 := hv1.cell; have hf1 := hv1.frozen)
    have hkp : KpB (w.heap.size + 1) W (w1.setCell ⟨w.heap.size, 0, none⟩ (.slice (some ⟨g', 0, none⟩) (pre.length + 1) cap')) := by
      show (w1.setCell _ _).heap[w.heap.size + 1]? = W.heap[w.heap.size + 1]?
      rw [Below.heap_setCell _ _ _ _ (by show w.heap.size + 1 ≠ w.heap.size; omega)]
      have h2 := hgrow.block (w.heap.size + 1) (by simp; omega) (fun e => by have := (hrow.lt _ e.symm).1; omega)
      rw [h2, Below.heap_alloc _ _ _ (by omega)]
    have hnew : (w1.setCell ⟨w.heap.size, 0, none⟩ (.slice (some ⟨g', 0, none⟩) (pre.length + 1) cap')).ownsRow (w.heap.size + 2) 9 1 (.slice (some ⟨g', 0, none⟩) (pre.length + 1) cap') (pre.length + 1) (clP pre ++ [Value.string x.2]) :=
      hown'.kept (grownBy_setCell' w1 w.heap.size _) (.inr fun e => by have := (hown'.lt _ e).1; omega)
    refine ⟨hk2.from _, hkp, ⟨_, hv2, ?_⟩, hB.trans hb2⟩
    have e1 : (pre ++ [(⟨x, hx0, hx1⟩ : Cl)]).length = pre.length + 1 := by simp
    have e2 : clP (pre ++ [(⟨x, hx0, hx1⟩ : Cl)]) = clP pre ++ [Value.string x.2] := by simp [clP]
    rw [e1, e2]
    first
      | exact ⟨hnew, trivial⟩
      | exact hnew
  case done =>
    rintro D ys W hD hys ⟨⟨v, hv, hrow, _⟩, hB⟩ hK
    have hc := hv.cell
    gi_wp2
    refine ⟨by simp, .inl ⟨_, _, rfl, run_takeDeferred hK, ?_⟩⟩
    have hr2 := ownsRow_weak (ownsRow_putObj hrow (.deferred none) hK rfl) (show w.heap.size ≤ w.heap.size + 2 by omega)
    have e1 : clP ys = (clR s).map Value.string := by rw [clR, ← hys]; simp [clP, List.map_map, Function.comp]
    have e2 : ys.length = (clR s).length := by rw [clR, ← hys]; simp
    rw [e1, e2] at hr2
    exact ⟨_, results_tmp rfl _ _ _, v, rfl, hr2, (hB0.trans hB).trans (belowK_b (w := w) (Nat.le_refl _) W D _ _ (by omega) hK rfl rfl)⟩
  case stop =>
    rintro D c pre W _ _ h _
    exact h.elim
end Go.Proofs.Ytnlenhhmajecjaa
