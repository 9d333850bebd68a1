import Derived.Test.YtmmcdncaiedmgaaX
set_option linter.unusedVariables false
set_option linter.unusedSimpArgs false
namespace Go.Proofs.Ytmmcdncaiedmgaa
open Go.RowKit Go.ChangeShapes Go.WideShapes Go.Deep
theorem open_strsL {H : Type} {enc : TypeId × Value → H} {W : World} {fuel : Nat} {A : Option Addr} {len cap : Nat} {x : DataW H × List MemPlace}
    (h : DataW.trod enc Try.prog W 0 (fun _ => true) true fuel 27 [.slice A len cap] = some x) :
    ∃ l : List ByteArray, l.length = len ∧ len ≤ cap ∧ Strs W W.heap.size A l ∧ (∀ s ∈ l, s.size ≤ 9223372036854775807) ∧ len ≤ 9223372036854775807 := by
  rcases open_strings Try.underlying27 Try.underlying9 cells9 h with ⟨hcs, _⟩ | ⟨a, l, c, ss, hcs, _, hl, hm, hss, _, hc, hz⟩
  · simp at hcs
    obtain ⟨rfl, rfl, rfl⟩ := hcs
    exact ⟨[], rfl, Nat.le_refl _, fun h => absurd h (Nat.lt_irrefl _), fun x hx => by simp at hx, by omega⟩
  · simp at hcs
    obtain ⟨rfl, rfl, rfl⟩ := hcs
    have hle : len ≤ ss.length := by rw [hss]; split <;> omega
    have hlen : (ss.take len).length = len := by simp; omega
    refine ⟨ss.take len, hlen, hl, fun hn => ?_, fun x hx => ?_, by unfold maxLen at hm; omega⟩
    · rw [hlen] at hn ⊢
      have hc0 := hc 0 (by omega)
      have hsp := World.cell?_spot hc0
      obtain ⟨b, o, sp⟩ := a
      have hsp : sp = none := by simpa [Addr.add] using hsp
      subst hsp
      refine ⟨b, o, rfl, by simpa [Addr.add] using cell_lt hc0, fun t ht => ?_⟩
      have := hc t (by omega)
      rw [addr_add] at this
      rw [this]
      simp [List.getD_eq_getElem?_getD, List.getElem?_take, ht]
    · have := hz x (List.mem_of_mem_take hx)
      unfold maxLen at this
      omega
end Go.Proofs.Ytmmcdncaiedmgaa
