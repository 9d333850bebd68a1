import Derived.Test.YtpfjeldpckmdoaaE
import Derived.ProofKit
import Derived.OpenShut
import Derived.Deep.Slices
import Derived.Deep.Matrix
import Derived.ChangeOld
set_option linter.unusedVariables false
set_option linter.unusedSimpArgs false
namespace Go.Proofs.Ytpfjeldpckmdoaa
open Go.RowKit Go.ChangeShapes Go.WideShapes Go.Deep
/-! an argument that is a page problem, opened to the words of the walks -/
theorem cells3 : Try.prog.cellsOf 3 = 1 := by kernel_rfl
theorem cells22 : Try.prog.cellsOf 22 = 1 := by kernel_rfl
theorem cells23 : Try.prog.cellsOf 23 = 1 := by kernel_rfl
theorem cells25 : Try.prog.cellsOf 25 = 5 := by kernel_rfl
theorem cell_lt {w : World} {a : Addr} {v : Value} (h : w.cell? a = some v) : a.block < w.heap.size := by
  by_cases hb : a.block < w.heap.size
  · exact hb
  · unfold World.cell? at h
    rw [Array.getElem?_eq_none (by omega)] at h
    simp at h
theorem addr_add (b o j : Nat) : (⟨b, o, none⟩ : Addr).add j = ⟨b, o + j, none⟩ := by unfold Addr.add; split <;> simp_all
section
variable {H : Type} {enc : TypeId × Value → H} {W : World} {fuel : Nat}
theorem ints_of_cells {a : Addr} {l : List Int} (h : ∀ i, i < l.length → W.cell? (a.add i) = some (.int .i64 (l.getD i 0))) : Ints W W.heap.size (some a) l := fun hn => by
  have hc0 := h 0 hn
  have hsp := World.cell?_spot hc0
  obtain ⟨b, o, sp⟩ := a
  have hsp : sp = none := by simpa [Addr.add] using hsp
  subst hsp
  refine ⟨b, o, rfl, by simpa [Addr.add] using cell_lt hc0, fun t ht => ?_⟩
  have := h t ht
  rwa [addr_add] at this
theorem open_intsL {u : Value} {x : DataW H × List MemPlace} (h : DataW.trod enc Try.prog W 0 (fun _ => true) true fuel 22 [u] = some x) :
    ∃ (l : List Int) (A : Option Addr) (c : Nat), u = .slice A l.length c ∧ Ints W W.heap.size A l ∧ l.length ≤ 9223372036854775807 := by
  rcases open_ints Try.underlying22 Try.underlying3 cells3 h with ⟨hcs, _⟩ | ⟨a, len, cap, zs, hcs, _, hl, hm, hz, _, hc, _⟩
  · simp at hcs
    exact ⟨[], none, 0, hcs, fun h => absurd h (Nat.lt_irrefl _), by simp⟩
  · simp at hcs
    have hle : len ≤ zs.length := by rw [hz]; split <;> omega
    have hlen : (zs.take len).length = len := by simp; omega
    refine ⟨zs.take len, some a, cap, by rw [hlen]; exact hcs, ints_of_cells fun i hi => ?_, by unfold maxLen at hm; omega⟩
    rw [hlen] at hi
    rw [hc i (by omega)]
    simp [List.getD_eq_getElem?_getD, List.getElem?_take, hi]
theorem open_rowsL {u : Value} {x : DataW H × List MemPlace} (h : DataW.trod enc Try.prog W 0 (fun _ => true) true fuel 23 [u] = some x) :
    ∃ (L : List (List Int)) (A : Option Addr) (c : Nat), u = .slice A L.length c ∧ Rows2 W W.heap.size A L ∧ L.length ≤ 9223372036854775807 ∧ ∀ i, i < L.length → (L.getD i []).length ≤ 9223372036854775807 := by
  rcases open_int_rows Try.underlying23 Try.underlying22 Try.underlying3 cells22 cells3 h with ⟨hcs, _⟩ | ⟨a, len, cap, A, Ln, C, Z, hcs, _, hl, hm, _, hr⟩
  · simp at hcs
    exact ⟨[], none, 0, hcs, fun h => absurd h (Nat.lt_irrefl _), by simp, fun i hi => absurd hi (Nat.not_lt_zero _)⟩
  · simp at hcs
    have hz : ∀ r, r < len → ((Z r).take (Ln r)).length = Ln r := fun r hr' => by
      obtain ⟨_, h1, h2, h3, _⟩ := hr r (by omega)
      rw [List.length_take]; omega
    have hg : ∀ r, r < len → ((List.range len).map fun r => (Z r).take (Ln r)).getD r [] = (Z r).take (Ln r) := fun r hr' => by simp [List.getD_eq_getElem?_getD, hr']
    refine ⟨(List.range len).map fun r => (Z r).take (Ln r), some a, cap, by simpa using hcs, fun hn => ?_, by unfold maxLen at hm; simp; omega, fun i hi => ?_⟩
    · simp at hn
      have hc0 := (hr 0 (by omega)).1
      have hsp := World.cell?_spot hc0
      obtain ⟨b, o, sp⟩ := a
      have hsp : sp = none := by simpa [Addr.add] using hsp
      subst hsp
      refine ⟨b, o, rfl, by simpa [Addr.add] using cell_lt hc0, fun t ht => ?_⟩
      simp at ht
      obtain ⟨e1, h1, h2, h3, _, h5, h6⟩ := hr t (by omega)
      rw [addr_add] at e1
      refine ⟨_, e1, A t, C t, by rw [hg t ht, hz t ht], ?_⟩
      rw [hg t ht]
      cases hA : A t with
      | none => exact fun h0 => absurd h0 (by rw [hz t ht]; have := h5 hA; omega)
      | some a' =>
        refine ints_of_cells fun i hi => ?_
        rw [hz t ht] at hi
        rw [(h6 a' hA).2 i (by omega)]
        simp [List.getD_eq_getElem?_getD, List.getElem?_take, hi]
    · simp at hi
      obtain ⟨_, h1, h2, h3, _⟩ := hr i (by omega)
      rw [hg i hi, hz i hi]
      unfold maxLen at h2; omega
/-- the sizes of an argument -/
structure Fits (p : PP) : Prop where
  f1 : p.lines.length ≤ 9223372036854775807
  f2 : p.notes.length ≤ 9223372036854775807
  f3 : p.pens.length ≤ 9223372036854775807
  f4 : ∀ i, i < p.notes.length → (p.notes.getD i []).length ≤ 9223372036854775807
theorem open_pp {r : Reach} {b0 : Nat} {v : Value} {d : DataW H} {q : List MemPlace} (hv : Value.okWide Try.prog W r b0 25 v) (h : DataW.Trod enc Try.prog W 0 (fun _ => true) true 25 v d q) :
    ∃ (p : PP) (A1 A2 A3 : Option Addr) (c1 c2 c3 : Nat), v = .agg #[.slice A1 p.lines.length c1, .slice A2 p.notes.length c2, .slice A3 p.pens.length c3, .int .i64 p.hh, .int .i64 p.gap] ∧ PIn W W.heap.size A1 A2 A3 p ∧ Fits p := by
  obtain ⟨cs, rfl, hsz⟩ := okWide_struct Try.underlying25 hv
  rw [cells25] at hsz
  obtain ⟨fuel, hf⟩ := h
  obtain ⟨xs, n, _, _, _, hlen, hg⟩ := DataW.trod_struct Try.underlying25 hf
  obtain ⟨l⟩ := cs
  have hl : l.length = 5 := hsz
  match l, hl with
  | [u0, u1, u2, u3, u4], _ =>
    match xs, hlen with
    | [y0, y1, y2, y3, y4], _ =>
      have t0 : DataW.trod enc Try.prog W 0 (fun _ => true) true n 22 [u0] = some y0 := by simpa [Value.cells, cells22] using hg 0 _ rfl
      have t1 : DataW.trod enc Try.prog W 0 (fun _ => true) true n 23 [u1] = some y1 := by simpa [Value.cells, cells23] using hg 1 _ rfl
      have t2 : DataW.trod enc Try.prog W 0 (fun _ => true) true n 22 [u2] = some y2 := by simpa [Value.cells, cells22] using hg 2 _ rfl
      have t3 : DataW.trod enc Try.prog W 0 (fun _ => true) true n 3 [u3] = some y3 := by simpa [Value.cells, cells3] using hg 3 _ rfl
      have t4 : DataW.trod enc Try.prog W 0 (fun _ => true) true n 3 [u4] = some y4 := by simpa [Value.cells, cells3] using hg 4 _ rfl
      obtain ⟨l1, A1, c1, rfl, i1, f1⟩ := open_intsL t0
      obtain ⟨l2, A2, c2, rfl, i2, f2, f4⟩ := open_rowsL t1
      obtain ⟨l3, A3, c3, rfl, i3, f3⟩ := open_intsL t2
      obtain ⟨k3, e3, _, _⟩ := DataW.trod_int Try.underlying3 t3
      obtain ⟨k4, e4, _, _⟩ := DataW.trod_int Try.underlying3 t4
      simp at e3 e4
      subst e3 e4
      exact ⟨⟨l1, l2, l3, k3, k4⟩, A1, A2, A3, c1, c2, c3, rfl, ⟨i1, i2, i3⟩, ⟨f1, f2, f3, f4⟩⟩
end
end Go.Proofs.Ytpfjeldpckmdoaa
