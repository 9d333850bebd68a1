import Derived.Test.YtmmcdncaiedmgaaJ4
import Derived.Test.YtmmcdncaiedmgaaN2
import Derived.Test.YtmmcdncaiedmgaaN1
set_option linter.unusedVariables false
set_option linter.unusedSimpArgs false
namespace Go.Proofs.Ytmmcdncaiedmgaa
open Go.RowKit
theorem within_v (v v' : Value) (s l : List ByteArray) (w : World) (h : StrV w w.heap.size v s) (h' : StrV w w.heap.size v' l) (hs : s.length ≤ 1000000) (hl : l.length ≤ 1000000) (r : Bool) (hr : sub? s l = r) :
    Calls Try.prog 35 #[v, v'] w fun e w' => e = .returned (.bool r) ∧ Below w.heap.size w w' := by
  obtain ⟨A, c, rfl, SA⟩ := h
  obtain ⟨A', c', rfl, SB⟩ := h'
  refine (within_any s l A A' c c' w _ SA SB hs hl).mono ?_
  rintro e w' ⟨rfl, n, rfl⟩
  exact ⟨by rw [hr], drewN_below (Below.refl _ _) n⟩
theorem compare_v (v v' : Value) (s l : List ByteArray) (w : World) (h : StrV w w.heap.size v s) (h' : StrV w w.heap.size v' l) (hs : s.length ≤ 1000000) (hl : l.length ≤ 1000000) (z : Int) (hz : cmpL s l = z) :
    Calls Try.prog 36 #[v, v'] w fun e w' => e = .returned (.int .i64 z) ∧ w' = w := by
  obtain ⟨A, c, rfl, SA⟩ := h
  obtain ⟨A', c', rfl, SB⟩ := h'
  refine (compare_any s l A A' c c' w _ SA SB hs hl).mono ?_
  rintro e w' ⟨rfl, rfl⟩
  exact ⟨by rw [hz], rfl⟩
theorem Strs.strV {w : World} {A : Option Addr} {l : List ByteArray} (h : Strs w w.heap.size A l) (c : Nat) : StrV w w.heap.size (.slice A l.length c) l := ⟨A, c, rfl, h⟩

set_option maxHeartbeats 8000000 in
set_option maxRecDepth 100000 in
theorem common_main (haw : Awake) (la lb lo : List ByteArray) (Aa Ab Ao : Option Addr) (ca cb co : Nat) (w : World) (SA : Strs w w.heap.size Aa la) (SB : Strs w w.heap.size Ab lb) (SO : Strs w w.heap.size Ao lo)
    (hca : la.length ≤ ca) (hcb : lb.length ≤ cb) (ha : la.length ≤ 8) (hb : lb.length ≤ 8) (ho : lo.length ≤ 8) (hga : greatW la 8 = false) (hgb : greatW lb 8 = false) :
    Calls Try.prog 10 #[.slice Aa la.length ca, .slice Ab lb.length cb, .slice Ao lo.length co] w fun e w' => e = .returned (.bool true) ∧ Below w.heap.size w w' := by
  have e1 := fun W (S : Strs W W.heap.size Aa la) => greatw_any la Aa ca 8 W S (by omega) (by omega)
  have e2 := fun W (S : Strs W W.heap.size Ab lb) => greatw_any lb Ab cb 8 W S (by omega) (by omega)
  rw [hga] at e1
  rw [hgb] at e2
  have g1 : decide ((8 : Int) < (la.length : Int)) = false := by simp; omega
  have g2 : decide ((8 : Int) < (lb.length : Int)) = false := by simp; omega
  have g3 : decide ((8 : Int) < (lo.length : Int)) = false := by simp; omega
  have hC := common_any la lb Aa Ab ca cb w (by omega) (by omega) SA SB hca hcb
  unfold CommonPost at hC
  have hS := common_s la lb
  obtain ⟨cc, hcc⟩ : ∃ c, common ltb la lb = c := ⟨_, rfl⟩
  rw [hcc] at hC hS
  clear hcc
  obtain ⟨hd1, hd2⟩ := hS.dist
  have w1 : sub? cc la = true := (sub?_iff _ _).2 hS.left
  have w2 : sub? cc lb = true := (sub?_iff _ _).2 hS.right
  have hcl : cc.length ≤ la.length := hS.left.length_le
  have hl := fun W (S : StrV W W.heap.size (.slice Aa la.length ca) la) (S' : StrV W W.heap.size (.slice Ab lb.length cb) lb) d hd => lists_v la lb _ _ W S S' (by omega) (by omega) d hd
  obtain ⟨d, hd⟩ : ∃ d, levL la lb = d := ⟨_, rfl⟩
  rw [hd] at hd1 hd2
  replace hd := Lib.hid hd
  replace hl := Lib.hid hl
  replace hC := Lib.hid hC
  replace e1 := Lib.hid e1
  replace e2 := Lib.hid e2
  replace haw := Lib.hid haw
  replace hS := Lib.hid hS
  have VA := Lib.hid (SA.strV ca)
  have VB := Lib.hid (SB.strV cb)
  have VO := Lib.hid (SO.strV co)
  replace SA := Lib.hid SA
  replace SB := Lib.hid SB
  have q1 : decide ((la.length : Int) + (lb.length : Int) - 2 * (cc.length : Int) < (d : Int)) = false := by simp; omega
  have hmx : ((la.length : Int) < (lb.length : Int) ∧ decide ((d : Int) < (lb.length : Int) - (cc.length : Int)) = false) ∨ (¬ (la.length : Int) < (lb.length : Int) ∧ decide ((d : Int) < (la.length : Int) - (cc.length : Int)) = false) := by
    by_cases h : (la.length : Int) < (lb.length : Int)
    · exact .inl ⟨h, by simp; omega⟩
    · exact .inr ⟨h, by simp; omega⟩
  have hdle : d ≤ 16 := by omega
  clear hd1 hd2 hga hgb
  rcases hmx with ⟨m1, m2⟩ | ⟨m1, m2⟩
  all_goals
    go_enter Try.func10, Try.ntmps10
    go_wp2_with fail
    refine (e1.out _ SA.out).mono ?_
    rintro e w' ⟨rfl, rfl⟩
    go_wp2_with fail
    refine (e2.out _ SB.out).mono ?_
    rintro e w' ⟨rfl, rfl⟩
    go_wp2_with fail
    refine hC.out.mono ?_
    rintro e x1 ⟨v, rfl, hv, hB1⟩
    have VA1 := VA.out.below hB1
    have VB1 := VB.out.below hB1
    have VO1 := VO.out.below hB1
    have VC1 := hv.strV
    obtain ⟨Ac, cap, hvc, _⟩ := hv.strV
    subst hvc
    clear hv
    go_wp2_with fail
    refine (hl.out _ VA1 VB1 d hd.out).mono ?_
    rintro e x2 ⟨rfl, hB2⟩
    have VA2 := VA1.below hB2
    have VB2 := VB1.below hB2
    have VO2 := VO1.below hB2
    have VC2 := VC1.below hB2
    have hB := bst hB1 hB2
    clear hB1 hB2 VA1 VB1 VO1 VC1
    go_wp2_with fail
    refine (within_v _ _ cc la _ VC2 VA2 (by omega) (by omega) _ w1).mono ?_
    rintro e x3 ⟨rfl, hB3⟩
    have VA3 := VA2.below hB3
    have VB3 := VB2.below hB3
    have VO3 := VO2.below hB3
    have VC3 := VC2.below hB3
    replace hB := bst hB hB3
    clear hB3 VA2 VB2 VO2 VC2
    go_wp2_with fail
    refine (within_v _ _ cc lb _ VC3 VB3 (by omega) (by omega) _ w2).mono ?_
    rintro e x4 ⟨rfl, hB3⟩
    have VA4 := VA3.below hB3
    have VB4 := VB3.below hB3
    have VO4 := VO3.below hB3
    have VC4 := VC3.below hB3
    replace hB := bst hB hB3
    clear hB3 VA3 VB3 VO3 VC3
    go_wp2_with fail
    obtain ⟨o1, ho1⟩ : ∃ r, sub? lo la = r := ⟨_, rfl⟩
    refine (within_v _ _ lo la _ VO4 VA4 (by omega) (by omega) _ ho1).mono ?_
    rintro e x5 ⟨rfl, hB3⟩
    have VB5 := VB4.below hB3
    have VO5 := VO4.below hB3
    have VC5 := VC4.below hB3
    replace hB := bst hB hB3
    replace ho1 := Lib.hid ho1
    clear hB3 VA4 VB4 VO4 VC4
    cases o1
    · go_wp2_with fail
      refine (haw.out _).mono ?_
      rintro e x9 ⟨rfl, hB9⟩
      go_wp2_with fail
      go_ret
      exact ⟨rfl, bst hB hB9⟩
    · go_wp2_with fail
      obtain ⟨o2, ho2⟩ : ∃ r, sub? lo lb = r := ⟨_, rfl⟩
      refine (within_v _ _ lo lb _ VO5 VB5 (by omega) (by omega) _ ho2).mono ?_
      rintro e x6 ⟨rfl, hB3⟩
      have VO6 := VO5.below hB3
      have VC6 := VC5.below hB3
      replace hB := bst hB hB3
      replace ho2 := Lib.hid ho2
      clear hB3 VB5 VO5 VC5
      cases o2
      · go_wp2_with fail
        refine (haw.out _).mono ?_
        rintro e x9 ⟨rfl, hB9⟩
        go_wp2_with fail
        go_ret
        exact ⟨rfl, bst hB hB9⟩
      · have hsa : List.Sublist lo la := (sub?_iff _ _).1 ho1.out
        have hsb : List.Sublist lo lb := (sub?_iff _ _).1 ho2.out
        have hle : lo.length ≤ cc.length := by rw [hS.out.len]; exact lcs_max _ _ _ hsa hsb
        have q2 : decide ((cc.length : Int) < (lo.length : Int)) = false := by simp; omega
        have q2' : ¬ cc.length < lo.length := by omega
        by_cases hle2 : lo.length = cc.length
        · have q3 : ((lo.length : Int) == (cc.length : Int)) = true := by simp; omega
          have hz := hS.out.least lo hsa hsb hle2
          obtain ⟨z, hzz⟩ : ∃ z, cmpL lo cc = z := ⟨_, rfl⟩
          rw [hzz] at hz
          have q4 : decide (z < 0) = false := by simp; omega
          have q4' : ¬ z < 0 := by omega
          replace hzz := Lib.hid hzz
          clear hsa hsb hle hle2
          go_wp2_with fail
          refine (compare_v _ _ lo cc _ VO6 VC6 (by omega) (by omega) z hzz.out).mono ?_
          rintro e x7 ⟨rfl, rfl⟩
          go_wp2_with fail
          refine (haw.out _).mono ?_
          rintro e x9 ⟨rfl, hB9⟩
          go_wp2_with fail
          go_ret
          exact ⟨rfl, bst hB hB9⟩
        · have q3 : ((lo.length : Int) == (cc.length : Int)) = false := by simp; omega
          clear hsa hsb hle hle2
          go_wp2_with fail
          refine (haw.out _).mono ?_
          rintro e x9 ⟨rfl, hB9⟩
          go_wp2_with fail
          go_ret
          exact ⟨rfl, bst hB hB9⟩
end Go.Proofs.Ytmmcdncaiedmgaa
