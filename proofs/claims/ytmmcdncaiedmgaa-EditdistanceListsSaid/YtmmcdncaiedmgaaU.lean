import Derived.Test.YtmmcdncaiedmgaaI
set_option linter.unusedVariables false
set_option linter.unusedSimpArgs false
namespace Go.Proofs.Ytmmcdncaiedmgaa
open Go.RowKit
def agE (x : Ed) : Value := .agg #[.int .i64 x.at_, .int .i64 x.len, .string x.tx]
theorem great27 (x : Ed) (w : World) (h : x.tx.size ≤ 9223372036854775807) : Calls Try.prog 27 #[agE x] w fun e w' => e = .returned (.bool (decide (8 < x.tx.size))) ∧ Below w.heap.size w w' := by
  have hd : decide ((8 : Int) < (x.tx.size : Int)) = decide (8 < x.tx.size) := by
    rw [Bool.eq_iff_iff]; simp only [decide_eq_true_eq]; omega
  unfold agE
  go_enter Try.func27, Try.ntmps27
  go_wp2_with fail
  go_ret
  exact ⟨by simp, (Below.refl _ _).alloc (Nat.le_refl _) _⟩
theorem great29 (x : Ed) (w : World) (h : x.tx.size ≤ 9223372036854775807) : Calls Try.prog 29 #[agE x] w fun e w' => e = .returned (.bool (decide (8 < x.tx.size))) ∧ Below w.heap.size w w' := by
  have hd : decide ((8 : Int) < (x.tx.size : Int)) = decide (8 < x.tx.size) := by
    rw [Bool.eq_iff_iff]; simp only [decide_eq_true_eq]; omega
  unfold agE
  go_enter Try.func29, Try.ntmps29
  go_wp2_with fail
  go_ret
  exact ⟨by simp, (Below.refl _ _).alloc (Nat.le_refl _) _⟩

set_option maxHeartbeats 4000000 in
set_option maxRecDepth 100000 in
theorem indexF_any (fn : Nat) (q : Ed → Bool) (l : List Ed) (A : Option Addr) (c : Nat) (w : World) (h : Eds w w.heap.size A l) (hl : l.length ≤ 9223372036854775807) (hcf : ∀ args w, (callFunc fn args).run Try.prog w = .ok (.enter fn args) w)
    (hq : ∀ x ∈ l, ∀ w, Calls Try.prog fn #[agE x] w fun e w' => e = .returned (.bool (q x)) ∧ Below w.heap.size w w') :
    Calls Try.prog 48 #[.slice A l.length c, .func (.func fn) #[] #[]] w fun e w' => ∃ r : Int, e = .returned (.int .i64 r) ∧ (0 ≤ r ↔ l.any q = true) ∧ Below w.heap.size w w' := by
  replace hq := Lib.hid hq
  go_enter Try.func48, Try.ntmps48
  go_wp2_with fail
  go_loopg [8] l.length (fun g s wr => ∃ i : Nat, i ≤ l.length ∧ g = l.length - i ∧ s = .int .i64 i ∧ Below w.heap.size w wr ∧ (∀ j, j < i → q (edAt l j) = false))
  case atStart => exact ⟨0, by omega, by omega, rfl, Below.refl _ _, fun j hj => absurd hj (Nat.not_lt_zero _)⟩
  case round =>
    obtain ⟨i, hi, hg, rfl, hbl, hno⟩ := hrel
    have HN := Lib.hid (And.intro hbl hno)
    by_cases hlt : i < l.length
    · have hltz : (i : Int) < (l.length : Int) := by omega
      obtain ⟨b, o, rfl, hb, hc⟩ := (h.below hbl) (by omega)
      obtain ⟨c0, c1, c2⟩ := hc i hlt
      have hmem : edAt l i ∈ l := by rw [← edAt_get hlt]; exact List.getElem_mem hlt
      have hcall := hq.out _ hmem wr
      have hyes := Lib.hid (fun h : q (edAt l i) = true => List.any_eq_true.2 ⟨_, hmem, h⟩)
      have hqi := Lib.hid (show q (edAt l i) = q (edAt l i) from rfl)
      obtain ⟨z, hz⟩ : ∃ z, q (edAt l i) = z := ⟨_, rfl⟩
      have hz' := Lib.hid hz
      obtain ⟨x, hx⟩ : ∃ y, edAt l i = y := ⟨_, rfl⟩
      rw [hz] at hcall
      rw [hx] at c0 c1 c2 hcall
      obtain ⟨xa, xl, xt⟩ := x
      unfold agE at hcall
      simp only at c0 c1 c2 hcall
      replace hcall := Lib.hid hcall
      clear hc hbl hno hx hz hmem hqi h
      go_wp2_with fail
      refine hcall.out.mono ?_
      rintro e w2 ⟨rfl, hB2⟩
      have hB := Lib.hid (HN.out.1.trans (hB2.mono HN.out.1.size))
      clear hB2
      cases z
      · go_wp2_with fail
        go_roundg (l.length - (i + 1))
        case measure => go_light; omega
        case rel =>
          go_light
          refine ⟨i + 1, by omega, by omega, by go_num, hB.out, fun j hj => ?_⟩
          by_cases e : j = i
          · subst e; exact hz'.out
          · exact HN.out.2 j (by omega)
      · go_wp2_with fail
        go_ret
        go_light
        exact ⟨_, rfl, ⟨fun _ => hyes.out hz'.out, fun _ => by omega⟩, hB.out⟩
    · clear hbl hno h
      go_wp2_with fail
      go_ret
      go_light
      refine ⟨_, rfl, ⟨fun h => absurd h (by decide), fun h => ?_⟩, HN.out.1⟩
      obtain ⟨x, hx, hqx⟩ := List.any_eq_true.1 h
      obtain ⟨j, hj, rfl⟩ := List.getElem_of_mem hx
      rw [edAt_get hj, HN.out.2 j (by omega)] at hqx
      exact absurd hqx (by decide)
theorem containsF_any (fn : Nat) (q : Ed → Bool) (l : List Ed) (A : Option Addr) (c : Nat) (w : World) (h : Eds w w.heap.size A l) (hl : l.length ≤ 9223372036854775807) (hcf : ∀ args w, (callFunc fn args).run Try.prog w = .ok (.enter fn args) w)
    (hq : ∀ x ∈ l, ∀ w, Calls Try.prog fn #[agE x] w fun e w' => e = .returned (.bool (q x)) ∧ Below w.heap.size w w') :
    Calls Try.prog 26 #[.slice A l.length c, .func (.func fn) #[] #[]] w fun e w' => e = .returned (.bool (l.any q)) ∧ Below w.heap.size w w' := by
  have hi := Lib.hid (indexF_any fn q l A c w h hl hcf hq)
  clear h hq
  go_enter Try.func26, Try.ntmps26
  go_wp2_with fail
  refine hi.out.mono ?_
  rintro e w2 ⟨r, rfl, hr, hB2⟩
  have hd := Lib.hid (show decide (0 ≤ r) = l.any q from by rw [Bool.eq_iff_iff]; simpa using hr)
  clear hr
  go_wp2_with fail
  go_ret
  exact ⟨ret_bool hd.out, hB2⟩
end Go.Proofs.Ytmmcdncaiedmgaa
