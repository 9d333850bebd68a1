import Derived.Test.YtmmcdncaiedmgaaP
import Derived.Test.YtmmcdncaiedmgaaN2
set_option linter.unusedVariables false
set_option linter.unusedSimpArgs false
namespace Go.Proofs.Ytmmcdncaiedmgaa
open Go.RowKit
theorem bl_app' (a b : ByteArray) : bl (a ++ b) = bl a ++ bl b := by simp [bl]
set_option maxHeartbeats 16000000 in
set_option maxRecDepth 1000000 in
theorem rapply_any (a : ByteArray) (l : List Ed) (A : Option Addr) (c : Nat) (w : World) (h : Eds w w.heap.size A l) (hl : l.length ≤ 6) (ha : a.size ≤ 20 ∨ 65536 < a.size) (ha2 : a.size ≤ 9223372036854775807) (htx : ∀ x ∈ l, x.tx.size ≤ 8)
    (hr : ∀ x ∈ l, -9223372036854775808 ≤ x.at_ ∧ x.at_ ≤ 9223372036854775807 ∧ -9223372036854775808 ≤ x.len ∧ x.len ≤ 9223372036854775807) :
    Calls Try.prog 33 #[.string a, .slice A l.length c] w (ApplyPost a l w) := by
  by_cases hbig : 65536 < a.size
  · have hz : decide ((65536 : Int) < (a.size : Int)) = true := by simp; omega
    have hR : applyR a l = (ByteArray.empty, 4) := by unfold applyR; rw [if_pos hbig]
    unfold ApplyPost
    rw [hR]
    go_enter Try.func33, Try.ntmps33
    go_wp2_with fail
    go_ret2
    exact ⟨rfl, Below.refl _ _⟩
  · have hz : decide ((65536 : Int) < (a.size : Int)) = false := by simp; omega
    have hab : a.size ≤ 20 := by omega
    clear ha ha2
    go_enter Try.func33, Try.ntmps33
    go_wp2_with fail
    go_loopg [9, 6, 7, 8] l.length (fun g s9 s6 s7 s8 wr => ∃ (i t : Nat) (m : Int) (out : ByteArray), i ≤ l.length ∧ g = l.length - i ∧ s9 = .int .i64 i ∧ s6 = .string out ∧ s7 = .int .i64 t ∧ s8 = .int .i64 m ∧ Below w.heap.size w wr ∧
        chk a.size (l.drop i) t m = chk a.size l 0 a.size ∧ t ≤ a.size ∧ a.size - t ≤ m ∧ m ≤ a.size + 8 * i ∧ bl out ++ applyL (bl a) (l.drop i) t = applyL (bl a) l 0 ∧ out.size ≤ t + 8 * i)
    case atStart => exact ⟨0, 0, a.size, ByteArray.empty, by omega, by omega, rfl, rfl, rfl, rfl, Below.refl _ _, rfl, by omega, by omega, by omega, rfl, by simp⟩
    case round =>
      obtain ⟨i, t, m, out, hi, hg, rfl, rfl, rfl, rfl, hbl, hck, ht1, hm0, hm1, hap, hout⟩ := hrel
      by_cases hlt : i < l.length
      · have hltz : (i : Int) < (l.length : Int) := by omega
        obtain ⟨b, o, rfl, hb, hc⟩ := (h.below hbl) (by omega)
        obtain ⟨c0, c1, c2⟩ := hc i hlt
        have hmem : edAt l i ∈ l := by rw [← edAt_get hlt]; exact List.getElem_mem hlt
        have ht := htx _ hmem
        have hrr := hr _ hmem
        have k1 := fun h => chk_bad (n := a.size) (e := t) (m := m) hlt h
        have k2 := fun h h' => chk_order (n := a.size) (e := t) (m := m) hlt h h'
        have k3 := fun h h' => chk_go (n := a.size) (e := t) (m := m) hlt h h'
        have k4 := applyL_go (A := bl a) (t := t) hlt
        obtain ⟨x, hx⟩ : ∃ y, edAt l i = y := ⟨_, rfl⟩
        rw [hx] at c0 c1 c2 ht hrr k1 k2 k3 k4
        obtain ⟨xa, xl, xt⟩ := x
        simp only at c0 c1 c2 ht hrr k1 k2 k3 k4
        rw [hck] at k1 k2 k3
        rw [k4] at hap
        clear hc h hx hck hmem k4
        obtain ⟨r1, r2, r3, r4⟩ := hrr
        have HB := Lib.hid hbl
        clear hbl
        by_cases hbad : badE a.size ⟨xa, xl, xt⟩
        · have hR := Lib.hid (apply_code hbig (k1 hbad) (by decide))
          clear k1 k2 k3 hap
          have hcase : xa < 0 ∨ (0 ≤ xa ∧ xl < 0) ∨ (0 ≤ xa ∧ 0 ≤ xl ∧ (a.size : Int) < xa) ∨ (0 ≤ xa ∧ 0 ≤ xl ∧ xa ≤ (a.size : Int) ∧ (a.size : Int) - xa < xl) := by
            unfold badE at hbad; simp only at hbad; omega
          clear hbad
          rcases hcase with b1 | ⟨b1, b2⟩ | ⟨b1, b2, b3⟩ | ⟨b1, b2, b3, b4⟩
          all_goals
            go_wp2_with fail
            go_ret2
            unfold ApplyPost
            rw [hR.out]
            exact ⟨rfl, (HB.out.alloc HB.out.size _)⟩
        · have hgood : 0 ≤ xa ∧ 0 ≤ xl ∧ xa ≤ (a.size : Int) ∧ xl ≤ (a.size : Int) - xa := by
            unfold badE at hbad; simp only at hbad; omega
          obtain ⟨b1, b2, b3, b4⟩ := hgood
          by_cases ho : xa < t
          · have hR := Lib.hid (apply_code hbig (k2 hbad ho) (by decide))
            clear k1 k2 k3 hbad hap
            go_wp2_with fail
            go_ret2
            unfold ApplyPost
            rw [hR.out]
            exact ⟨rfl, (HB.out.alloc HB.out.size _)⟩
          · have hk := Lib.hid (k3 hbad ho)
            have HA := Lib.hid hap
            clear k1 k2 k3 hbad hap
            obtain ⟨xn, rfl⟩ : ∃ n : Nat, xa = (n : Int) := ⟨xa.toNat, by omega⟩
            obtain ⟨xm, rfl⟩ : ∃ n : Nat, xl = (n : Int) := ⟨xl.toNat, by omega⟩
            have hsl0 := fun W => run_slice_string (P := Try.prog) W 9 a .i64 .i64 (t : Int) (xn : Int) Try.underlying9 (by omega) (by omega) (by omega)
            have ho1 : decide ((out.size : Int) ≤ 65536) = true := by simp; omega
            have ho2 : out.size ≤ 65536 := by omega
            go_wp2_with fail
            go_quiet (fail)
            go_wp2_with fail
            go_roundg (l.length - (i + 1))
            case measure => go_light; omega
            case rel =>
              go_light
              refine ⟨i + 1, xn + xm, m + ((xt.size : Int) - xm), out ++ a.extract t xn ++ xt, by omega, by omega, by go_num, rfl, by go_num, by congr 1; omega, drewN_below (HB.out.alloc HB.out.size _) _, ?_, by omega, by omega, by omega, ?_, ?_⟩
              · rw [show ((xn + xm : Nat) : Int) = (xn : Int) + (xm : Int) from by omega]
                exact hk.out.symm
              · rw [← HA.out, bl_app', bl_app', bl_extract]
                have e1 : ((xn : Int) + (xm : Int)).toNat = xn + xm := by omega
                simp only [List.append_assoc, Int.toNat_natCast, e1]
              · simp only [ByteArray.size_append, ByteArray.size_extract]
                omega
      · have hi' : i = l.length := by omega
        subst hi'
        rw [List.drop_length, chk] at hck
        rw [List.drop_length, applyL] at hap
        obtain ⟨mn, rfl⟩ : ∃ mn : Nat, m = (mn : Int) := ⟨m.toNat, by omega⟩
        have hR := Lib.hid (applied_eq hbig hck.symm (by omega))
        have hmb : ¬ (65536 : Int) < (mn : Int) := by omega
        have HB := Lib.hid (And.intro hbl hap)
        clear hck hbl hap
        go_wp2_with fail
        go_ret2
        unfold ApplyPost
        rw [hR.out]
        have hs : out ++ a.extract t a.size = applied a l := by
          apply bl_inj
          rw [bl_app', bl_extract, List.take_of_length_le (by rw [List.length_drop, size_bl]; omega), HB.out.2]
          simp [applied, bl]
        exact ⟨by rw [← hs]; rfl, HB.out.1⟩
end Go.Proofs.Ytmmcdncaiedmgaa
