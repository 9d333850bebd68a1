import Derived.Test.YtmmcdncaiedmgaaA
set_option linter.unusedVariables false
set_option linter.unusedSimpArgs false
namespace Go.Proofs.Ytmmcdncaiedmgaa
open Go.RowKit

def peq (a b : ByteArray) (i k : Nat) : Bool := bat a i == bat b k
def levS (a b : ByteArray) : Nat := lev (peq a b) a.size b.size

set_option maxRecDepth 100000 in
theorem of_any (a b : ByteArray) (w : World) (ha : a.size ≤ 256) (hb : b.size ≤ 256) :
    Calls Try.prog 42 #[.string a, .string b] w fun e w' => e = .returned (.int .i64 (levS a b)) ∧ Below w.heap.size w w' := by
  have hc1 := fun W => Lib.run_convert_string_bytes (P := Try.prog) W 9 64 5 a Try.underlying9 Try.underlying64 Try.underlying5
  have hc2 := fun W => Lib.run_convert_string_bytes (P := Try.prog) W 9 64 5 b Try.underlying9 Try.underlying64 Try.underlying5
  go_enter Try.func42, Try.ntmps42
  go_wp2_with fail
  obtain ⟨W, hW⟩ : ∃ W, Lib.bytesWorld (Lib.bytesWorld w 5 a) 5 b = W := ⟨_, rfl⟩
  have hB : Below w.heap.size w W := by rw [← hW]; exact (bytesWorld_below w 5 a).trans ((bytesWorld_below _ 5 b).mono (by rw [Lib.bytesWorld_size]; omega))
  have hs : W.heap.size = w.heap.size + 2 := by rw [← hW, Lib.bytesWorld_size, Lib.bytesWorld_size]
  have hca : ∀ j, j < a.size → W.cell? ⟨w.heap.size, j, none⟩ = some (.int .u8 (bat a j).toNat) := fun j hj => by
    rw [← hW, Lib.bytesWorld_old _ _ _ _ (by rw [Lib.bytesWorld_size]; show w.heap.size < _; omega)]; exact Lib.bytesWorld_cell w 5 a j hj
  have hcb : ∀ j, j < b.size → W.cell? ⟨w.heap.size + 1, j, none⟩ = some (.int .u8 (bat b j).toNat) := fun j hj => by
    rw [← hW, ← Lib.bytesWorld_size w 5 a]; exact Lib.bytesWorld_cell _ 5 b j hj
  rw [hW, Lib.bytesWorld_size]
  clear hW hc1 hc2
  refine (equalb_any _ _ _ _ _ _ _).mono ?_
  rintro e w' ⟨rfl, rfl⟩
  have H1 := Lib.hid hca
  have H2 := Lib.hid hcb
  clear hca hcb
  have hs' := Lib.hid hs
  clear hs
  go_wp2_with fail
  refine (dist_any 58 _ _ _ _ (peq a b) _ ha hb (fun args w => by simp [go_sem]) ?_).mono ?_
  · intro i k w' hi hk hB'
    have h0 := H1.out i hi
    have h1 := H2.out k hk
    rw [show peq a b i k = _ from (u8_beq _ _).symm]
    have hsz := hs'.out
    have q1 := hB'.cell (p := ⟨W.heap.size, 0, none⟩) (by simp; omega)
    have q2 := hB'.cell (p := ⟨W.heap.size + 1, 0, none⟩) (by simp)
    have q3 := hB'.cell (p := ⟨w.heap.size, i, none⟩) (by simp; omega)
    have q4 := hB'.cell (p := ⟨w.heap.size + 1, k, none⟩) (by simp; omega)
    rw [World.cell?_alloc_lt _ _ _ (by simp), World.cell?_alloc_new] at q1
    rw [World.cell?_alloc2_new] at q2
    rw [World.cell?_alloc_lt _ _ _ (by simp; omega), World.cell?_alloc_lt _ _ _ (by show w.heap.size < _; omega), h0] at q3
    rw [World.cell?_alloc_lt _ _ _ (by simp; omega), World.cell?_alloc_lt _ _ _ (by show w.heap.size + 1 < _; omega), h1] at q4
    exact eqb_any _ _ _ _ _ _ _ _ i k _ _ w' q1 q2 hi hk (by omega) (by omega) q3 q4
  · rintro e w' ⟨rfl, hB2⟩
    have hB3 : Below w.heap.size w w' := ((hB.alloc (hB.size) _).alloc (by have := hB.size; simp; omega) _).trans (hB2.mono (by have := hB.size; simp; omega))
    clear hB2 hB
    go_wp2_with fail
    go_ret
    exact ⟨rfl, hB3⟩

set_option maxRecDepth 100000 in
/-- `Distance`, both strings of at most 256 bytes. -/
theorem distance_ok (a b : ByteArray) (w : World) (ha : a.size ≤ 256) (hb : b.size ≤ 256) :
    Calls Try.prog 13 #[.string a, .string b] w fun e w' => e = .returned (.tuple #[.int .i64 (levS a b), .int .i64 0]) ∧ Below w.heap.size w w' := by
  have hd : decide (256 < max (a.size : Int) (b.size : Int)) = false := by simp; omega
  go_enter Try.func13, Try.ntmps13
  go_wp2_with (first | (go_at_call 41; refine (long_any _ _ _).mono ?_; rintro e w' ⟨rfl, rfl⟩) | (go_at_call 42; refine (of_any _ _ _ ha hb).mono ?_; rintro e w' ⟨rfl, hB⟩))
  go_ret2
  exact ⟨rfl, hB⟩

end Go.Proofs.Ytmmcdncaiedmgaa
