import Derived.Test.YtmmcdncaiedmgaaL5
import Derived.Test.YtmmcdncaiedmgaaL1
import Derived.Test.YtmmcdncaiedmgaaY4
import Derived.Test.YtmmcdncaiedmgaaN5
import Derived.Test.YtmmcdncaiedmgaaN1
set_option linter.unusedVariables false
set_option linter.unusedSimpArgs false
namespace Go.Proofs.Ytmmcdncaiedmgaa
open Go.RowKit
theorem rcommon_long (A A' : Option Addr) (n n' c c' : Nat) (w : World) (h : 256 < n ∨ 256 < n') :
    Calls Try.prog 32 #[.slice A n c, .slice A' n' c'] w fun e w' => e = .returned (.tuple #[.slice none 0 0, .int .i64 4]) ∧ w' = w := by
  by_cases h1 : 256 < n
  · have hd1 : decide ((256 : Int) < (n : Int)) = true := by simp; omega
    go_enter Try.func32, Try.ntmps32
    go_wp2_with fail
    go_ret2
    exact ⟨rfl, rfl⟩
  · have hd1 : decide ((256 : Int) < (n : Int)) = false := by simp; omega
    have hd2 : decide ((256 : Int) < (n' : Int)) = true := by simp; omega
    go_enter Try.func32, Try.ntmps32
    go_wp2_with fail
    go_ret2
    exact ⟨rfl, rfl⟩
def lsR (la lb : List ByteArray) : Nat × Nat := if 256 < la.length ∨ 256 < lb.length then (0, 4) else (levL la lb, 0)
def cmR (la lb : List ByteArray) : List ByteArray × Nat := if 256 < la.length ∨ 256 < lb.length then ([], 4) else (common ltb la lb, 0)
section
variable (la lb : List ByteArray) (A A' : Option Addr) (c c' : Nat) (w : World)
theorem lists_all (SA : Strs w w.heap.size A la) (SB : Strs w w.heap.size A' lb) :
    Calls Try.prog 15 #[.slice A la.length c, .slice A' lb.length c'] w fun e w' => e = .returned (.tuple #[.int .i64 (lsR la lb).1, .int .i64 (lsR la lb).2]) ∧ Below w.heap.size w w' := by
  by_cases hl : 256 < la.length ∨ 256 < lb.length
  · rw [lsR, if_pos hl]
    refine (lists_long A A' _ _ c c' w (by omega)).mono ?_
    rintro e w' ⟨rfl, rfl⟩
    exact ⟨rfl, Below.refl _ _⟩
  · rw [lsR, if_neg hl]
    exact lists_ok la lb A A' c c' w SA SB (by omega) (by omega)
theorem rlists_all (SA : Strs w w.heap.size A la) (SB : Strs w w.heap.size A' lb) :
    Calls Try.prog 30 #[.slice A la.length c, .slice A' lb.length c'] w fun e w' => e = .returned (.tuple #[.int .i64 (lsR la lb).1, .int .i64 (lsR la lb).2]) ∧ Below w.heap.size w w' := by
  by_cases hl : 256 < la.length ∨ 256 < lb.length
  · rw [lsR, if_pos hl]
    refine (rlists_long _ _ A A' c c' w hl).mono ?_
    rintro e w' ⟨rfl, rfl⟩
    exact ⟨rfl, Below.refl _ _⟩
  · rw [lsR, if_neg hl]
    exact rlists_ok la lb A A' c c' w SA SB (by omega) (by omega)
theorem common_all (SA : Strs w w.heap.size A la) (SB : Strs w w.heap.size A' lb) (hc : la.length ≤ c) (hc' : lb.length ≤ c') :
    Calls Try.prog 31 #[.slice A la.length c, .slice A' lb.length c'] w fun e w' => ∃ v, e = .returned (.tuple #[v, .int .i64 (cmR la lb).2]) ∧ StrR w' w.heap.size v (cmR la lb).1 ∧ Below w.heap.size w w' := by
  by_cases hl : 256 < la.length ∨ 256 < lb.length
  · rw [cmR, if_pos hl]
    refine (common_long A A' _ _ c c' w (by omega)).mono ?_
    rintro e w' ⟨rfl, rfl⟩
    exact ⟨_, rfl, .inl ⟨rfl, rfl⟩, Below.refl _ _⟩
  · rw [cmR, if_neg hl]
    exact common_any la lb A A' c c' w (by omega) (by omega) SA SB hc hc'
theorem rcommon_all (SA : Strs w w.heap.size A la) (SB : Strs w w.heap.size A' lb) :
    Calls Try.prog 32 #[.slice A la.length c, .slice A' lb.length c'] w fun e w' => ∃ v, e = .returned (.tuple #[v, .int .i64 (cmR la lb).2]) ∧ StrR w' w.heap.size v (cmR la lb).1 ∧ Below w.heap.size w w' := by
  by_cases hl : 256 < la.length ∨ 256 < lb.length
  · rw [cmR, if_pos hl]
    refine (rcommon_long A A' _ _ c c' w hl).mono ?_
    rintro e w' ⟨rfl, rfl⟩
    exact ⟨_, rfl, .inl ⟨rfl, rfl⟩, Below.refl _ _⟩
  · rw [cmR, if_neg hl]
    exact rcommon_any la lb A A' c c' w (by omega) (by omega) SA SB
end
theorem cmR_len (la lb : List ByteArray) : (cmR la lb).1.length ≤ 256 := by
  unfold cmR
  split
  · exact Nat.zero_le _
  · have h := (common_s la lb).left.length_le
    simp only
    omega
theorem same_wv (v v' : Value) (l : List ByteArray) (w : World) (h : StrV w w.heap.size v l) (h' : StrV w w.heap.size v' l) (hl : l.length ≤ 1000000) :
    Calls Try.prog 34 #[v, v'] w fun e w' => e = .returned (.bool true) ∧ Below w.heap.size w w' := by
  obtain ⟨A, c, rfl, hs⟩ := h
  obtain ⟨A', c', rfl, hs'⟩ := h'
  refine (same_words A A' c c' l l w _ hs hs' hl hl).mono ?_
  rintro e w' ⟨rfl, n, rfl⟩
  exact ⟨by simp, drewN_below (Below.refl _ _) n⟩

set_option maxHeartbeats 8000000 in
set_option maxRecDepth 100000 in
theorem lists_walk (haw : Awake) (la lb : List ByteArray) (s : ByteArray) (l : List Ed) (Aa Ab Al : Option Addr) (ca cb cl : Nat) (w : World) (SA : Strs w w.heap.size Aa la) (SB : Strs w w.heap.size Ab lb) (SL : Eds w w.heap.size Al l)
    (hca : la.length ≤ ca) (hcb : lb.length ≤ cb) (ha : la.length ≤ 9223372036854775807) (hb : lb.length ≤ 9223372036854775807) (hs : s.size ≤ 9223372036854775807) (hl : l.length ≤ 9223372036854775807) (hts : ∀ x ∈ l, x.tx.size ≤ 9223372036854775807)
    (hr : ∀ x ∈ l, -9223372036854775808 ≤ x.at_ ∧ x.at_ ≤ 9223372036854775807 ∧ -9223372036854775808 ≤ x.len ∧ x.len ≤ 9223372036854775807) :
    Calls Try.prog 9 #[.slice Aa la.length ca, .slice Ab lb.length cb, .string s, .slice Al l.length cl] w fun e w' => e = .returned (.bool true) ∧ Below w.heap.size w w' := by
  have e1 := greatw_any la Aa ca 8 w SA (by omega) (by omega)
  have e2 := greatw_any lb Ab cb 8 w SB (by omega) (by omega)
  obtain ⟨ga, hga⟩ : ∃ x, greatW la 8 = x := ⟨_, rfl⟩
  obtain ⟨gb, hgb⟩ : ∃ x, greatW lb 8 = x := ⟨_, rfl⟩
  rw [hga] at e1
  rw [hgb] at e2
  replace haw := Lib.hid haw
  replace e1 := Lib.hid e1
  replace e2 := Lib.hid e2
  have hcf := containsF_any 29 (fun x => decide (8 < x.tx.size)) l Al cl w SL hl (fun args w => by simp [go_sem]) (fun x hx w => great29 x w (hts x hx))
  have hany := Lib.hid (any_false (l := l))
  obtain ⟨g, hg⟩ : ∃ g, l.any (fun x => decide (8 < x.tx.size)) = g := ⟨_, rfl⟩
  rw [hg] at hcf hany
  replace hcf := Lib.hid hcf
  have c1 := fun W SA SB => lists_all la lb Aa Ab ca cb W SA SB
  have c2 := fun W SA SB => rlists_all la lb Aa Ab ca cb W SA SB
  have c3 := fun W SA SB => common_all la lb Aa Ab ca cb W SA SB hca hcb
  have c4 := fun W SA SB => rcommon_all la lb Aa Ab ca cb W SA SB
  have hln := cmR_len la lb
  obtain ⟨y1, hy1⟩ : ∃ x, (lsR la lb).1 = x := ⟨_, rfl⟩
  obtain ⟨y2, hy2⟩ : ∃ x, (lsR la lb).2 = x := ⟨_, rfl⟩
  obtain ⟨cc, hcc⟩ : ∃ x, (cmR la lb).1 = x := ⟨_, rfl⟩
  obtain ⟨y3, hy3⟩ : ∃ x, (cmR la lb).2 = x := ⟨_, rfl⟩
  simp only [hy1, hy2, hcc, hy3] at c1 c2 c3 c4 hln
  replace c1 := Lib.hid c1
  replace c2 := Lib.hid c2
  replace c3 := Lib.hid c3
  replace c4 := Lib.hid c4
  replace hr := Lib.hid hr
  replace SA := Lib.hid SA
  replace SB := Lib.hid SB
  replace SL := Lib.hid SL
  clear hga hgb hg hts hy1 hy2 hcc hy3
  cases ga
  · cases gb
    · have hsz : (20 < s.size ∧ s.size ≤ 65536) ∨ (65538 < s.size) ∨ (s.size ≤ 20) ∨ (65536 < s.size ∧ s.size ≤ 65538) := by omega
      rcases hsz with ⟨h1, h2⟩ | h1 | h1 | ⟨h1, h2⟩
      · have g1 : decide ((20 : Int) < (s.size : Int)) = true := by simp; omega
        have g2 : decide ((s.size : Int) ≤ 65536) = true := by simp; omega
        go_enter Try.func9, Try.ntmps9
        go_wp2_with fail
        refine e1.out.mono ?_
        rintro e w' ⟨rfl, rfl⟩
        go_wp2_with fail
        refine e2.out.mono ?_
        rintro e w' ⟨rfl, rfl⟩
        go_wp2_with fail
        refine (haw.out _).mono ?_
        rintro e w9 ⟨rfl, hB9⟩
        go_wp2_with fail
        go_ret
        exact ⟨rfl, hB9⟩
      · have g1 : decide ((20 : Int) < (s.size : Int)) = true := by simp; omega
        have g2 : decide ((s.size : Int) ≤ 65536) = false := by simp; omega
        have g2' : ¬ s.size ≤ 65536 := by omega
        have g3 : decide ((65538 : Int) < (s.size : Int)) = true := by simp; omega
        go_enter Try.func9, Try.ntmps9
        go_wp2_with fail
        refine e1.out.mono ?_
        rintro e w' ⟨rfl, rfl⟩
        go_wp2_with fail
        refine e2.out.mono ?_
        rintro e w' ⟨rfl, rfl⟩
        go_wp2_with fail
        refine (haw.out _).mono ?_
        rintro e w9 ⟨rfl, hB9⟩
        go_wp2_with fail
        go_ret
        exact ⟨rfl, hB9⟩
      · have g1 : decide ((20 : Int) < (s.size : Int)) = false := by simp; omega
        have g1' : ¬ 20 < s.size := by omega
        have g3 : decide ((65538 : Int) < (s.size : Int)) = false := by simp; omega
        have g3' : ¬ 65538 < s.size := by omega
        by_cases hl6 : 6 < l.length
        · have g4 : decide ((6 : Int) < (l.length : Int)) = true := by simp; omega
          go_enter Try.func9, Try.ntmps9
          go_wp2_with fail
          refine e1.out.mono ?_
          rintro e w' ⟨rfl, rfl⟩
          go_wp2_with fail
          refine e2.out.mono ?_
          rintro e w' ⟨rfl, rfl⟩
          go_wp2_with fail
          refine (haw.out _).mono ?_
          rintro e w9 ⟨rfl, hB9⟩
          go_wp2_with fail
          go_ret
          exact ⟨rfl, hB9⟩
        · have g4 : decide ((6 : Int) < (l.length : Int)) = false := by simp; omega
          cases g
          · have ht := Lib.hid (hany.out rfl)
            have d1 := fun W S => apply_any s l Al cl W S (by omega) (by omega) (fun x hx => by have := ht.out x hx; omega) hr.out
            have d2 := fun W S => rapply_any s l Al cl W S (by omega) (by omega) (by omega) ht.out hr.out
            unfold ApplyPost at d1 d2
            obtain ⟨r1, hr1⟩ : ∃ x, (applyR s l).1 = x := ⟨_, rfl⟩
            obtain ⟨r2, hr2⟩ : ∃ x, (applyR s l).2 = x := ⟨_, rfl⟩
            simp only [hr1, hr2] at d1 d2
            replace d1 := Lib.hid d1
            replace d2 := Lib.hid d2
            clear hr1 hr2 hany
            go_enter Try.func9, Try.ntmps9
            go_wp2_with fail
            refine e1.out.mono ?_
            rintro e w' ⟨rfl, rfl⟩
            go_wp2_with fail
            refine e2.out.mono ?_
            rintro e w' ⟨rfl, rfl⟩
            go_wp2_with fail
            refine hcf.out.mono ?_
            rintro e w0 ⟨rfl, hB0⟩
            have A0 := Lib.hid ((SA.out.below hB0).more hB0.size)
            have B0 := Lib.hid ((SB.out.below hB0).more hB0.size)
            have L0 := Lib.hid ((SL.out.below hB0).more hB0.size)
            go_wp2_with fail
            refine (c1.out _ A0.out B0.out).mono ?_
            rintro e w1 ⟨rfl, hC⟩
            have A1 := Lib.hid ((A0.out.below hC).more hC.size)
            have B1 := Lib.hid ((B0.out.below hC).more hC.size)
            have L1 := Lib.hid ((L0.out.below hC).more hC.size)
            have hB1 := bst hB0 hC
            clear hC hB0 A0 B0 L0
            go_wp2_with fail
            refine (c2.out _ A1.out B1.out).mono ?_
            rintro e w2 ⟨rfl, hC⟩
            have A2 := Lib.hid ((A1.out.below hC).more hC.size)
            have B2 := Lib.hid ((B1.out.below hC).more hC.size)
            have L2 := Lib.hid ((L1.out.below hC).more hC.size)
            have hB2 := bst hB1 hC
            clear hC hB1 A1 B1 L1
            go_wp2_with fail
            refine (c3.out _ A2.out B2.out).mono ?_
            rintro e w3 ⟨v3, rfl, hv3, hC⟩
            have A3 := Lib.hid ((A2.out.below hC).more hC.size)
            have B3 := Lib.hid ((B2.out.below hC).more hC.size)
            have L3 := Lib.hid ((L2.out.below hC).more hC.size)
            have V3 := hv3.strV
            clear hv3
            have hB3 := bst hB2 hC
            clear hC hB2 A2 B2 L2
            go_wp2_with fail
            refine (c4.out _ A3.out B3.out).mono ?_
            rintro e w4 ⟨v4, rfl, hv4, hC⟩
            have A4 := Lib.hid ((A3.out.below hC).more hC.size)
            have B4 := Lib.hid ((B3.out.below hC).more hC.size)
            have L4 := Lib.hid ((L3.out.below hC).more hC.size)
            replace V3 := V3.below hC
            have V4 := hv4.strV
            clear hv4
            have hB4 := bst hB3 hC
            clear hC hB3 A3 B3 L3
            go_wp2_with fail
            refine (d1.out _ L4.out).mono ?_
            rintro e w5 ⟨rfl, hC⟩
            have L5 := Lib.hid ((L4.out.below hC).more hC.size)
            replace V3 := V3.below hC
            replace V4 := V4.below hC
            have hB5 := bst hB4 hC
            clear hC hB4 L4
            go_wp2_with fail
            refine (d2.out _ L5.out).mono ?_
            rintro e w6 ⟨rfl, hC⟩
            have L6 := Lib.hid ((L5.out.below hC).more hC.size)
            replace V3 := V3.below hC
            replace V4 := V4.below hC
            have hB6 := bst hB5 hC
            clear hC hB5 L5
            go_wp2_with fail
            refine (same_wv _ _ cc _ V3 V4 (by omega)).mono ?_
            rintro e w7 ⟨rfl, hC⟩
            have hB7 := bst hB6 hC
            clear hC hB6 V3 V4
            go_wp2_with fail
            refine (haw.out _).mono ?_
            rintro e w9 ⟨rfl, hB9⟩
            go_wp2_with fail
            go_ret
            exact ⟨rfl, bst hB7 hB9⟩
          · go_enter Try.func9, Try.ntmps9
            go_wp2_with fail
            refine e1.out.mono ?_
            rintro e w' ⟨rfl, rfl⟩
            go_wp2_with fail
            refine e2.out.mono ?_
            rintro e w' ⟨rfl, rfl⟩
            go_wp2_with fail
            refine hcf.out.mono ?_
            rintro e w0 ⟨rfl, hB0⟩
            go_wp2_with fail
            refine (haw.out _).mono ?_
            rintro e w9 ⟨rfl, hB9⟩
            go_wp2_with fail
            go_ret
            exact ⟨rfl, bst hB0 hB9⟩
      · have g1 : decide ((20 : Int) < (s.size : Int)) = true := by simp; omega
        have g1' : 20 < s.size := by omega
        have g2 : decide ((s.size : Int) ≤ 65536) = false := by simp; omega
        have g2' : ¬ s.size ≤ 65536 := by omega
        have g3 : decide ((65538 : Int) < (s.size : Int)) = false := by simp; omega
        have g3' : ¬ 65538 < s.size := by omega
        by_cases hl6 : 6 < l.length
        · have g4 : decide ((6 : Int) < (l.length : Int)) = true := by simp; omega
          go_enter Try.func9, Try.ntmps9
          go_wp2_with fail
          refine e1.out.mono ?_
          rintro e w' ⟨rfl, rfl⟩
          go_wp2_with fail
          refine e2.out.mono ?_
          rintro e w' ⟨rfl, rfl⟩
          go_wp2_with fail
          refine (haw.out _).mono ?_
          rintro e w9 ⟨rfl, hB9⟩
          go_wp2_with fail
          go_ret
          exact ⟨rfl, hB9⟩
        · have g4 : decide ((6 : Int) < (l.length : Int)) = false := by simp; omega
          cases g
          · have ht := Lib.hid (hany.out rfl)
            have d1 := fun W S => apply_any s l Al cl W S (by omega) (by omega) (fun x hx => by have := ht.out x hx; omega) hr.out
            have d2 := fun W S => rapply_any s l Al cl W S (by omega) (by omega) (by omega) ht.out hr.out
            unfold ApplyPost at d1 d2
            obtain ⟨r1, hr1⟩ : ∃ x, (applyR s l).1 = x := ⟨_, rfl⟩
            obtain ⟨r2, hr2⟩ : ∃ x, (applyR s l).2 = x := ⟨_, rfl⟩
            simp only [hr1, hr2] at d1 d2
            replace d1 := Lib.hid d1
            replace d2 := Lib.hid d2
            clear hr1 hr2 hany
            go_enter Try.func9, Try.ntmps9
            go_wp2_with fail
            refine e1.out.mono ?_
            rintro e w' ⟨rfl, rfl⟩
            go_wp2_with fail
            refine e2.out.mono ?_
            rintro e w' ⟨rfl, rfl⟩
            go_wp2_with fail
            refine hcf.out.mono ?_
            rintro e w0 ⟨rfl, hB0⟩
            have A0 := Lib.hid ((SA.out.below hB0).more hB0.size)
            have B0 := Lib.hid ((SB.out.below hB0).more hB0.size)
            have L0 := Lib.hid ((SL.out.below hB0).more hB0.size)
            go_wp2_with fail
            refine (c1.out _ A0.out B0.out).mono ?_
            rintro e w1 ⟨rfl, hC⟩
            have A1 := Lib.hid ((A0.out.below hC).more hC.size)
            have B1 := Lib.hid ((B0.out.below hC).more hC.size)
            have L1 := Lib.hid ((L0.out.below hC).more hC.size)
            have hB1 := bst hB0 hC
            clear hC hB0 A0 B0 L0
            go_wp2_with fail
            refine (c2.out _ A1.out B1.out).mono ?_
            rintro e w2 ⟨rfl, hC⟩
            have A2 := Lib.hid ((A1.out.below hC).more hC.size)
            have B2 := Lib.hid ((B1.out.below hC).more hC.size)
            have L2 := Lib.hid ((L1.out.below hC).more hC.size)
            have hB2 := bst hB1 hC
            clear hC hB1 A1 B1 L1
            go_wp2_with fail
            refine (c3.out _ A2.out B2.out).mono ?_
            rintro e w3 ⟨v3, rfl, hv3, hC⟩
            have A3 := Lib.hid ((A2.out.below hC).more hC.size)
            have B3 := Lib.hid ((B2.out.below hC).more hC.size)
            have L3 := Lib.hid ((L2.out.below hC).more hC.size)
            have V3 := hv3.strV
            clear hv3
            have hB3 := bst hB2 hC
            clear hC hB2 A2 B2 L2
            go_wp2_with fail
            refine (c4.out _ A3.out B3.out).mono ?_
            rintro e w4 ⟨v4, rfl, hv4, hC⟩
            have A4 := Lib.hid ((A3.out.below hC).more hC.size)
            have B4 := Lib.hid ((B3.out.below hC).more hC.size)
            have L4 := Lib.hid ((L3.out.below hC).more hC.size)
            replace V3 := V3.below hC
            have V4 := hv4.strV
            clear hv4
            have hB4 := bst hB3 hC
            clear hC hB3 A3 B3 L3
            go_wp2_with fail
            refine (d1.out _ L4.out).mono ?_
            rintro e w5 ⟨rfl, hC⟩
            have L5 := Lib.hid ((L4.out.below hC).more hC.size)
            replace V3 := V3.below hC
            replace V4 := V4.below hC
            have hB5 := bst hB4 hC
            clear hC hB4 L4
            go_wp2_with fail
            refine (d2.out _ L5.out).mono ?_
            rintro e w6 ⟨rfl, hC⟩
            have L6 := Lib.hid ((L5.out.below hC).more hC.size)
            replace V3 := V3.below hC
            replace V4 := V4.below hC
            have hB6 := bst hB5 hC
            clear hC hB5 L5
            go_wp2_with fail
            refine (same_wv _ _ cc _ V3 V4 (by omega)).mono ?_
            rintro e w7 ⟨rfl, hC⟩
            have hB7 := bst hB6 hC
            clear hC hB6 V3 V4
            go_wp2_with fail
            refine (haw.out _).mono ?_
            rintro e w9 ⟨rfl, hB9⟩
            go_wp2_with fail
            go_ret
            exact ⟨rfl, bst hB7 hB9⟩
          · go_enter Try.func9, Try.ntmps9
            go_wp2_with fail
            refine e1.out.mono ?_
            rintro e w' ⟨rfl, rfl⟩
            go_wp2_with fail
            refine e2.out.mono ?_
            rintro e w' ⟨rfl, rfl⟩
            go_wp2_with fail
            refine hcf.out.mono ?_
            rintro e w0 ⟨rfl, hB0⟩
            go_wp2_with fail
            refine (haw.out _).mono ?_
            rintro e w9 ⟨rfl, hB9⟩
            go_wp2_with fail
            go_ret
            exact ⟨rfl, bst hB0 hB9⟩
    · go_enter Try.func9, Try.ntmps9
      go_wp2_with fail
      refine e1.out.mono ?_
      rintro e w' ⟨rfl, rfl⟩
      go_wp2_with fail
      refine e2.out.mono ?_
      rintro e w' ⟨rfl, rfl⟩
      go_wp2_with fail
      refine (haw.out _).mono ?_
      rintro e w9 ⟨rfl, hB9⟩
      go_wp2_with fail
      go_ret
      exact ⟨rfl, hB9⟩
  · go_enter Try.func9, Try.ntmps9
    go_wp2_with fail
    refine e1.out.mono ?_
    rintro e w' ⟨rfl, rfl⟩
    go_wp2_with fail
    refine (haw.out _).mono ?_
    rintro e w9 ⟨rfl, hB9⟩
    go_wp2_with fail
    go_ret
    exact ⟨rfl, hB9⟩
end Go.Proofs.Ytmmcdncaiedmgaa
