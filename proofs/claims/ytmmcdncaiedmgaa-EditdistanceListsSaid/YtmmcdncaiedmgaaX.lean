import Derived.Test.YtmmcdncaiedmgaaI
import Derived.ProofKit
import Derived.OpenShut
import Derived.Deep.Slices
import Derived.Deep.Strs
import Derived.SliceStrings
import Derived.ChangeOld
set_option linter.unusedVariables false
set_option linter.unusedSimpArgs false
namespace Go.Proofs.Ytmmcdncaiedmgaa
open Go.RowKit Go.ChangeShapes Go.WideShapes Go.Deep
/-! arguments of the types []string and []api.Edit, opened to the words of the walks -/
theorem cells43 : Try.prog.cellsOf 43 = 3 := by kernel_rfl
theorem cells9 : Try.prog.cellsOf 9 = 1 := by kernel_rfl
theorem cells3 : Try.prog.cellsOf 3 = 1 := by kernel_rfl
theorem cell_lt {w : World} {a : Addr} {v : Value} (h : w.cell? a = some v) : a.block < w.heap.size := by
  by_cases hb : a.block < w.heap.size
  · exact hb
  · unfold World.cell? at h
    rw [Array.getElem?_eq_none (by omega)] at h
    simp at h
theorem addr_add (b o j : Nat) : (⟨b, o, none⟩ : Addr).add j = ⟨b, o + j, none⟩ := by unfold Addr.add; split <;> simp_all
instance : Inhabited Ed := ⟨ed0⟩
theorem open_eds {H : Type} {enc : TypeId × Value → H} {W : World} {fuel : Nat} {A : Option Addr} {len cap : Nat} {x : DataW H × List MemPlace}
    (h : DataW.trod enc Try.prog W 0 (fun _ => true) true fuel 32 [.slice A len cap] = some x) :
    ∃ l : List Ed, l.length = len ∧ Eds W W.heap.size A l ∧ (∀ x ∈ l, x.tx.size ≤ 9223372036854775807) ∧ len ≤ 9223372036854775807 ∧
      ∀ x ∈ l, -9223372036854775808 ≤ x.at_ ∧ x.at_ ≤ 9223372036854775807 ∧ -9223372036854775808 ≤ x.len ∧ x.len ≤ 9223372036854775807 := by
  rcases open_slice Try.underlying32 h with ⟨hcs, _⟩ | ⟨a, l, c, m, n, D, Pl, hcs, _, hl, hm, hmm, _, hi⟩
  · simp at hcs
    obtain ⟨rfl, rfl, rfl⟩ := hcs
    exact ⟨[], rfl, fun h => absurd h (Nat.lt_irrefl _), fun x hx => by simp at hx, by omega, fun x hx => by simp at hx⟩
  · simp at hcs
    obtain ⟨rfl, rfl, rfl⟩ := hcs
    rw [cells43] at hi
    have hlm : len ≤ m := by rw [hmm]; split <;> omega
    have each : ∀ i, i < len → ∃ e : Ed, W.cell? (a.add (i * 3)) = some (.int .i64 e.at_) ∧ W.cell? ((a.add (i * 3)).add 1) = some (.int .i64 e.len) ∧ W.cell? ((a.add (i * 3)).add 2) = some (.string e.tx) ∧
        e.tx.size ≤ maxLen ∧ (Lit.int .i64 e.at_).wf = true ∧ (Lit.int .i64 e.len).wf = true := fun i hil => by
      obtain ⟨cs', h1, h2⟩ := hi i (by omega)
      obtain ⟨_, hlen, hat⟩ := World.cells?_some h1
      obtain ⟨y0, y1, y2, n', _, _, t0, t1, t2⟩ := trod_struct3 Try.underlying43 h2
      match cs', hlen with
      | [u0, u1, u2], _ =>
        simp only [cells3, cells9] at t0 t1 t2
        obtain ⟨k0, e0, _, w0⟩ := DataW.trod_int Try.underlying3 t0
        obtain ⟨k1, e1, _, w1⟩ := DataW.trod_int Try.underlying3 t1
        obtain ⟨k2, e2, _, w2⟩ := DataW.trod_string Try.underlying9 t2
        simp at e0 e1 e2
        subst e0 e1 e2
        have c0 := hat 0 (by omega)
        have c1 := hat 1 (by omega)
        have c2 := hat 2 (by omega)
        refine ⟨⟨k0, k1, k2⟩, ?_, c1, c2, w2, w0, w1⟩
        rw [add_add, Nat.add_zero] at c0
        exact c0
    obtain ⟨f, hf⟩ := choose_lt each
    refine ⟨(List.range len).map f, by simp, fun hn => ?_, fun x hx => ?_, by unfold maxLen at hm; omega, fun x hx => ?_⟩
    · simp at hn
      have hc0 := (hf 0 hn).1
      have hsp := World.cell?_spot hc0
      obtain ⟨b, o, sp⟩ := a
      have hsp : sp = none := by simpa [Addr.add] using hsp
      subst hsp
      refine ⟨b, o, rfl, by simpa [Addr.add] using cell_lt hc0, fun t ht => ?_⟩
      simp at ht
      obtain ⟨c0, c1, c2, _⟩ := hf t ht
      have he : edAt ((List.range len).map f) t = f t := by simp [edAt, List.getD_eq_getElem?_getD, ht]
      rw [he]
      rw [addr_add] at c0
      rw [addr_add, addr_add] at c1 c2
      exact ⟨c0, c1, c2⟩
    · obtain ⟨j, hj, rfl⟩ := List.mem_map.1 hx
      have := (hf j (by simpa using hj)).2.2.2.1
      unfold maxLen at this; omega
    · obtain ⟨j, hj, rfl⟩ := List.mem_map.1 hx
      have h1 := (hf j (by simpa using hj)).2.2.2.2
      have b1 := bounds_i64 h1.1
      have b2 := bounds_i64 h1.2
      omega
end Go.Proofs.Ytmmcdncaiedmgaa
