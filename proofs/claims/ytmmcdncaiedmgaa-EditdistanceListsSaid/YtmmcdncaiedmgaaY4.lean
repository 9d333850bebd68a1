import Derived.Test.YtmmcdncaiedmgaaY3
set_option linter.unusedVariables false
set_option linter.unusedSimpArgs false
namespace Go.Proofs.Ytmmcdncaiedmgaa
open Go.RowKit
set_option maxHeartbeats 4000000 in
set_option maxRecDepth 1000000 in
theorem rlists_ok (la lb : List ByteArray) (A A' : Option Addr) (c c' : Nat) (w : World) (SA : Strs w w.heap.size A la) (SB : Strs w w.heap.size A' lb) (ha : la.length ≤ 256) (hb : lb.length ≤ 256) :
    Calls Try.prog 30 #[.slice A la.length c, .slice A' lb.length c'] w fun e w' => e = .returned (.tuple #[.int .i64 (levL la lb), .int .i64 0]) ∧ Below w.heap.size w w' := by
  have hd1 : decide ((256 : Int) < (la.length : Int)) = false := by simp; omega
  have hd2 : decide ((256 : Int) < (lb.length : Int)) = false := by simp; omega
  have ht := table_any la lb A A' c c' w SA SB ha hb
  replace ht := Lib.hid ht
  clear SA SB
  obtain ⟨x, hx⟩ : ∃ x, levL la lb = x := ⟨_, rfl⟩
  rw [hx]
  replace hx := Lib.hid hx
  go_enter Try.func30, Try.ntmps30
  go_wp2_with fail
  refine ht.out.mono ?_
  rintro e w' ⟨v, rs, rfl, hT, hB⟩
  obtain ⟨g0, cap, rfl, _, _, hcap, hrow⟩ := hT.form (by omega)
  have t0 := hrow la.length (by omega)
  have e0 := hT.cell (i := la.length) (k := lb.length) (by omega) (by omega)
  obtain ⟨r0, hr0⟩ : ∃ r, rs.getD la.length 0 = r := ⟨_, rfl⟩
  simp only [hr0] at t0 e0
  have HR := Lib.hid hB
  rw [show lev (peqL la lb) la.length lb.length = x from hx.out] at e0
  clear hT hrow hr0 hB ht
  have hz1 : (la.length : Int) < (la.length : Int) + 1 := by omega
  have hz2 : (lb.length : Int) < (lb.length : Int) + 1 := by omega
  go_wp2_with fail
  go_ret2
  exact ⟨rfl, HR.out⟩
set_option maxRecDepth 100000 in
theorem rlists_long (n n' : Nat) (A A' : Option Addr) (c c' : Nat) (w : World) (h : 256 < n ∨ 256 < n') :
    Calls Try.prog 30 #[.slice A n c, .slice A' n' c'] w fun e w' => e = .returned (.tuple #[.int .i64 0, .int .i64 4]) ∧ w' = w := by
  by_cases h1 : 256 < n
  · have hd1 : decide ((256 : Int) < (n : Int)) = true := by simp; omega
    go_enter Try.func30, Try.ntmps30
    go_wp2_with fail
    go_ret2
    exact ⟨rfl, rfl⟩
  · have hd1 : decide ((256 : Int) < (n : Int)) = false := by simp; omega
    have hd2 : decide ((256 : Int) < (n' : Int)) = true := by simp; omega
    go_enter Try.func30, Try.ntmps30
    go_wp2_with fail
    go_ret2
    exact ⟨rfl, rfl⟩

/-- the reference's answer for two strings -/
def dR (a b : ByteArray) : Nat × Nat := if 256 < a.size ∨ 256 < b.size then (0, 4) else (levS a b, 0)
theorem rlists_v (a b : ByteArray) (v v' : Value) (w : World) (h : StrV w w.heap.size v (singles a)) (h' : StrV w w.heap.size v' (singles b)) :
    Calls Try.prog 30 #[v, v'] w fun e w' => e = .returned (.tuple #[.int .i64 (dR a b).1, .int .i64 (dR a b).2]) ∧ Below w.heap.size w w' := by
  obtain ⟨A, c, rfl, SA⟩ := h
  obtain ⟨A', c', rfl, SB⟩ := h'
  by_cases hl : 256 < a.size ∨ 256 < b.size
  · rw [dR, if_pos hl]
    refine (rlists_long _ _ _ _ _ _ _ (by rw [singles_len, singles_len]; exact hl)).mono ?_
    rintro e w' ⟨rfl, rfl⟩
    exact ⟨rfl, Below.refl _ _⟩
  · rw [dR, if_neg hl, ← levL_singles]
    exact rlists_ok _ _ _ _ _ _ _ SA SB (by rw [singles_len]; omega) (by rw [singles_len]; omega)
set_option maxRecDepth 100000 in
theorem rdistance_any (a b : ByteArray) (w : World) (ha : a.size ≤ 258) (hb : b.size ≤ 258) :
    Calls Try.prog 17 #[.string a, .string b] w fun e w' => e = .returned (.tuple #[.int .i64 (dR a b).1, .int .i64 (dR a b).2]) ∧ Below w.heap.size w w' := by
  go_enter Try.func17, Try.ntmps17
  go_wp2_with fail
  refine (rbytes_any _ _ ha).mono ?_
  rintro e w1 ⟨v1, rfl, hv1, hB1⟩
  go_wp2_with fail
  refine (rbytes_any _ _ hb).mono ?_
  rintro e w2 ⟨v2, rfl, hv2, hB2⟩
  go_wp2_with fail
  refine (rlists_v a b _ _ _ (hv1.strV.below hB2) hv2.strV).mono ?_
  rintro e w3 ⟨rfl, hB3⟩
  have hB := bst (bst hB1 hB2) hB3
  clear hB1 hB2 hB3 hv1 hv2
  go_wp2_with fail
  go_ret2
  exact ⟨rfl, hB⟩
end Go.Proofs.Ytmmcdncaiedmgaa
