import Derived.Test.YtpfjeldpckmdoaaE
import Derived.Deep.AppendLies
import Derived.Deep.RegionLaw
import Derived.Deep.RegionHeld3
set_option linter.unusedVariables false
set_option linter.unusedSimpArgs false
namespace Go.Proofs.Ytpfjeldpckmdoaa
open Go.RowKit
/-- an append of one cell onto a row of the call's own: where the new row lies, and that the old cells stay where they were -/
theorem run_append_keeps {P : Program} (w : World) (t ty e : TypeId) (i : TypeInfo) (z : Value) (bytes : Nat) (ht : P.underlying t = some (.slice e)) (hi : P.info? e = some i) (hz : i.zero = some z)
    (hsize : i.size = 1) (hby : i.bytes = bytes) (hzs : z.cells.size = 1) (base g0 cap0 n : Nat) (xs : List Value) (hown : w.ownsRow base e 1 (.slice (some ⟨g0, 0, none⟩) n cap0) n xs)
    (ad : Addr) (c : Nat) (x : Value) (hx : ∀ j u, [x][j]? = some u → w.cell? (ad.add j) = some u) (h1 : x.oneCell' = true) (h63 : n + 1 ≤ maxLen) (hbytes : (n + 1) * bytes ≤ 140737488355328) (hbase : base ≤ w.heap.size) :
    ∃ g cap w', (Builtin.append_ #[t, t] ty #[.slice (some ⟨g0, 0, none⟩) n cap0, .slice (some ad) 1 c]).run P w = .ok (.slice (some ⟨g, 0, none⟩) (n + 1) cap) w' ∧
      w'.ownsRow base e 1 (.slice (some ⟨g, 0, none⟩) (n + 1) cap) (n + 1) (xs ++ [x]) ∧ w.grownBy w' (some g0) ∧ (g0 = g ∨ g = w.heap.size) ∧ g < w'.heap.size ∧ ∀ j, j < n → w'.cell? ⟨g0, j, none⟩ = w.cell? ⟨g0, j, none⟩ := by
  have h1' : ∀ u ∈ [x], u.oneCell' = true := by simpa using h1
  obtain ⟨v', w', hr, h2, h3, _, h5⟩ := run_append_own_at (P := P) w base t ty e i z 1 bytes ht hi hz hsize hby hzs (by decide) _ n xs hown ad 1 c [x] rfl hx h1' h63 hbytes hbase
  obtain ⟨g, cap, rfl, _, hlt⟩ := h2.form (by omega)
  have hat : g0 = g ∨ g = w.heap.size := by
    rcases h5 with h5 | h5
    · have e : g = g0 := by simpa [Value.ownBlock] using h5
      exact .inl e.symm
    · exact .inr (by simpa [Value.ownBlock] using h5)
  refine ⟨g, cap, w', hr, h2, h3, hat, hlt, fun j hj => ?_⟩
  have hcell := hown.cellAt j (by omega)
  rcases hown.2 with ⟨h0, _⟩ | ⟨g1, cap1, cur, hv, hbg, hg, hnc, hcm, hcs, htake⟩
  · cases h0
  · have hgg : g1 = g0 ∧ cap1 = cap0 := by
      injection hv with e1 _ e3
      injection e1 with e1
      injection e1 with e1
      exact ⟨e1.symm, e3.symm⟩
    obtain ⟨rfl, rfl⟩ := hgg
    by_cases hroom : n + 1 ≤ cap1
    · have hr2 := run_append_room (P := P) w t ty e i ht hi g1 n cap1 cur hg ad 1 c [x] (by rw [hsize]; rfl) hx h1' hroom (by rw [hsize, hcs]; simp; omega)
      rw [hr] at hr2
      injection hr2 with e1 e2
      injection e1 with e1
      injection e1 with e1
      injection e1 with e1
      subst e1
      have hc2 := h2.cellAt j (by omega)
      rw [hc2, hcell, List.getElem?_append_left (by have := hown.1; omega)]
    · have holds : ∀ j u, xs[j]? = some u → w.cell? ((⟨g1, 0, none⟩ : Addr).add j) = some u := hown.cells (g := g1) rfl
      have hr2 := run_append_grow (P := P) w t ty e i z ht hi hz ⟨g1, 0, none⟩ n cap1 xs (by rw [hsize]; exact hown.1) holds ad 1 c [x] (by rw [hsize]; rfl) hx (by omega) (by unfold maxLen at h63; omega) (growslice_fits (by omega) (by rw [hby]; exact hbytes))
      rw [hr] at hr2
      injection hr2 with e1 e2
      rw [e2]
      exact World.cell?_of_block (Below.heap_alloc w.drew _ g1 (Array.getElem?_eq_some_iff.1 hg).1)
theorem step_append_keeps {P : Program} {w : World} {ops : Array Oper} {o : Oper} {a : Act} {K : Act → World → Prop} {Q : Exit → Act → World → Prop} {E : Prop} (hgd : o.guard = none) (s x : Operand) (t : TypeId)
    (ho : o.op = .call { callee := .builtin .append, args := #[s, x], argTypes := #[t, t] })
    (base : Nat) (e : TypeId) (i : TypeInfo) (z : Value) (bytes : Nat) (ht : P.underlying t = some (.slice e)) (hi : P.info? e = some i) (hz : i.zero = some z)
    (hsize : i.size = 1) (hby : i.bytes = bytes) (hzs : z.cells.size = 1) (g0 cap0 n : Nat) (xs : List Value) (hs : a.eval s = .slice (some ⟨g0, 0, none⟩) n cap0) (hown : w.ownsRow base e 1 (.slice (some ⟨g0, 0, none⟩) n cap0) n xs)
    (ad : Addr) (c : Nat) (y : Value) (hx : a.eval x = .slice (some ad) 1 c) (hy : ∀ j u, [y][j]? = some u → w.cell? (ad.add j) = some u) (h1 : y.oneCell' = true)
    (h63 : n + 1 ≤ maxLen) (hbytes : (n + 1) * bytes ≤ 140737488355328) (hbase : base ≤ w.heap.size) (H : Nat) (hH : w.heap.size = H)
    (h : ∀ g cap w', w'.ownsRow base e 1 (.slice (some ⟨g, 0, none⟩) (n + 1) cap) (n + 1) (xs ++ [y]) → w.grownBy w' (some g0) → (g0 = g ∨ g = H) → g < w'.heap.size → (∀ j, j < n → w'.cell? ⟨g0, j, none⟩ = w.cell? ⟨g0, j, none⟩) → K (a.put o.dst (.slice (some ⟨g, 0, none⟩) (n + 1) cap)) w') :
    if Region.wanted o (yielded ops a.tmps) = true then Oper.wp P o a w K Q else E := by
  have hw : Region.wanted o (yielded ops a.tmps) = true := by simp [Region.wanted, hgd]
  rw [if_pos hw]
  subst hH
  obtain ⟨g, cap, w', hr, h2, h3, h4, h5, h6⟩ := run_append_keeps (P := P) w t o.type e i z bytes ht hi hz hsize hby hzs base g0 cap0 n xs hown ad c y hy h1 h63 hbytes hbase
  unfold Oper.wp execOp
  simp only [ho, resolve, invoke, builtin, Sem.run_bind, Sem.run_pure, Result.andThen_ok, List.map_toArray, List.map_cons, List.map_nil, hs, hx, hr]
  exact h g cap w' h2 h3 h4 h5 h6
end Go.Proofs.Ytpfjeldpckmdoaa
