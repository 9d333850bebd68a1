import Derived.Test.YtmmcdncaiedmgaaK3
import Derived.Test.YtmmcdncaiedmgaaK4
set_option linter.unusedVariables false
set_option linter.unusedSimpArgs false
namespace Go.Proofs.Ytmmcdncaiedmgaa
open Go.RowKit

/-- what holds at the head of the loop that collects the common subsequence -/
def CmRel (la lb : List ByteArray) (wc : World) (g : Nat) (s10 s11 s12 : Value) (wr : World) : Prop :=
  ∃ (i k : Nat) (L : List ByteArray), i ≤ la.length ∧ k ≤ lb.length ∧ la.length + 1 ≤ g + i ∧ g + L.length ≤ la.length + 1 ∧ s11 = .int .i64 i ∧ s12 = .int .i64 k ∧
    L ++ commonF ltb la lb g i k = common ltb la lb ∧ wr.ownsRow wc.heap.size 9 1 s10 L.length (L.map Value.string) ∧ Below wc.heap.size wc wr
/-- the slice value `v` reads as the strings `L`; its memory lies at or behind block `B` -/
def StrR (w : World) (B : Nat) (v : Value) (L : List ByteArray) : Prop :=
  (v = .slice none 0 0 ∧ L = []) ∨ ∃ g cap, v = .slice (some ⟨g, 0, none⟩) L.length cap ∧ B ≤ g ∧ L.length ≤ cap ∧ Has w g 9 L.length (fun j => .string (L.getD j ByteArray.empty))
def CommonPost (la lb : List ByteArray) (w : World) (e : Ending) (w' : World) : Prop :=
  ∃ v, e = .returned (.tuple #[v, .int .i64 0]) ∧ StrR w' w.heap.size v (common ltb la lb) ∧ Below w.heap.size w w'
theorem strR_of_own {w : World} {base : Nat} {v : Value} {L : List ByteArray} (h : w.ownsRow base 9 1 v L.length (L.map Value.string)) : StrR w base v L := by
  rcases own_forms h with ⟨rfl, h0, _⟩ | ⟨g, cap, rfl, hg1, hg2, hcap⟩
  · exact .inl ⟨rfl, List.eq_nil_of_length_eq_zero h0⟩
  · refine .inr ⟨g, cap, rfl, hg1, hcap, ?_⟩
    have := own_has h
    rw [Nat.mul_one] at this
    refine this.congr fun j hj => ?_
    simp [List.getD_eq_getElem?_getD, List.getElem?_eq_getElem hj]
theorem info9 : (Try.prog.info? 9).map (fun i => (i.zero, i.size, i.bytes)) = some (some (.string ⟨#[]⟩), 1, 16) := by kernel_rfl

set_option maxHeartbeats 16000000 in
set_option maxRecDepth 1000000 in
theorem common_any (la lb : List ByteArray) (Aa Ab : Option Addr) (ca cb : Nat) (w : World) (hla : la.length ≤ 256) (hlb : lb.length ≤ 256) (SAa : Strs w w.heap.size Aa la) (SBb : Strs w w.heap.size Ab lb) (hca : la.length ≤ ca) (hcb : lb.length ≤ cb) :
    Calls Try.prog 31 #[.slice Aa la.length ca, .slice Ab lb.length cb] w (CommonPost la lb w) := by
  have hd : decide (256 < max (la.length : Int) (lb.length : Int)) = false := by simp; omega
  have hmk1 := run_make_row' (P := Try.prog) 60 61 (.slice none 0 0) 24 Try.underlying60 info61 rfl .i64 .i64 (la.length + 1) (by omega) (by omega)
  rw [show ((la.length + 1 : Nat) : Int) = (la.length : Int) + 1 from by omega] at hmk1
  go_enter Try.func31, Try.ntmps31
  go_upto_block 0 with (go_at_call 41; refine (long_any _ _ _).mono ?_; rintro e w' ⟨rfl, rfl⟩)
  clear hmk1
  refine common_init la lb Aa Ab ca cb w hla hlb SAa SBb ?_
  intro _ _ _ _ _ _ _ _ _ _ _ _ w1 HF1
  dsimp only
  replace HF1 := Lib.hid HF1
  go_upto_block 2 with fail
  refine common_fill la lb Aa Ab ca cb w hla hlb SAa SBb _ HF1.out ?_
  clear HF1
  intro _ _ _ _ _ _ _ _ _ _ _ _ _ _ _ _ _ _ _ _ _ _ _ _ _ _ _ _ _ _ _ _ _ _ _ _ _ _ _ _ _ _ _ _ _ _ _ _ _ _ _ _ _ _ _ _ _ _ _ _ _ _ _ _ _ _ _ _ _ wc HF2
  dsimp only
  have H0 : Hid (Below w.heap.size w wc ∧ Tab 61 wc w.heap.size w.heap.size (la.length + 1) (lb.length + 1) (fun i => w.heap.size + 1 + i) (fun i k => R la lb i k)) :=
    Lib.hid ⟨HF2.below, HF2.tab.congr fun i k hi hk => by unfold partR; rw [if_pos (by omega)]⟩
  have hB0 : w.heap.size ≤ wc.heap.size := HF2.below.size
  clear HF2
  go_wp2_with fail
  go_loopg [10, 11, 12] (la.length + 1) (fun g s10 s11 s12 wr => CmRel la lb wc g s10 s11 s12 wr)
  case atStart =>
    go_light
    exact ⟨0, 0, [], by omega, by omega, by omega, by simp, rfl, rfl, rfl, World.ownsRow_nil _ _ _ _, Below.refl _ _⟩
  case round =>
    obtain ⟨i, k, L, hi, hk, hg, hL, rfl, rfl, hcm, hown, hbl⟩ := hrel
    have HT := H0.out.2.below hbl (Nat.le_refl _)
    have e0 := HT.cell (i := i) (k := k) (by omega) (by omega)
    have t0 := HT.topc (i := i) (by omega)
    obtain ⟨r, hr⟩ : ∃ r, R la lb i k = r := ⟨_, rfl⟩
    simp only [hr] at e0
    have HO := Lib.hid (And.intro hcm (And.intro hown (And.intro hbl HT)))
    replace hr := Lib.hid hr
    clear hcm hown hbl HT
    by_cases h0 : 0 < r
    · have h0z : (0 : Int) < (r : Int) := by omega
      go_upto_block 8 with fail
      have hbw : Below w.heap.size w wr := H0.out.1.trans (HO.out.2.2.1.mono hB0)
      refine common_scan la lb Aa Ab ca cb w hla hlb SAa SBb hca hcb i k hi hk wr hbw HO.out.2.2.2 ?_
      intro _ _ _ _ _ _ _ _ _ _ _ _ _ _ _ _ _ _ _ _ _ _ _ _ _ _ _ _ _ _ _ _ _ _ _ _ _ _ _ _ _ _ _ _ _ _ _ _ _ _ _ _ _ _ _ _ _ _ _ _ _ _ _ _ _ _ _ _ _ _ _ _ _ _ wx hx
      dsimp only
      obtain ⟨hin, q, rfl⟩ := hx
      obtain ⟨x, y, hxy⟩ := scan_some ltb la lb i k (by rw [hr.out]; exact h0)
      obtain ⟨hix, hxn, hym⟩ := hin (x, y) hxy
      simp only at hix hxn hym
      rw [hxy]
      simp only [accX, accY]
      obtain ⟨ba, oa, rfl, hba, hcl⟩ := SAa (by omega)
      have c1 := (hbw.cell (p := ⟨ba, oa + x, none⟩) hba).trans (hcl x hxn)
      obtain ⟨xe, hxe⟩ : ∃ z, la.getD x ByteArray.empty = z := ⟨_, rfl⟩
      rw [hxe] at c1
      have HE := Lib.hid (And.intro hxe hxy)
      have hxz : (x : Int) < (la.length : Int) := by omega
      clear hxe hxy hcl hin hbw e0 t0
      go_wp2_with (at_builtin; refine app_new _ rfl _ _ 27 9 rfl _ 1 16 Try.underlying27 info9 rfl (by decide) wc.heap.size _ L.length (L.map Value.string) rfl (ownsRow_drewN HO.out.2.1 _) 1 1 _ rfl rfl (by simp [Value.oneCell']) (by unfold maxLen; omega) (by omega) (by exact HO.out.2.2.1.size) ?_; intro v' w1 hown' hgrow)
      go_roundg (gk - 1)
      case measure => go_light; omega
      case rel =>
        go_light
        obtain ⟨z1, z2, z3, z4⟩ := HO.out
        obtain ⟨y1, y2⟩ := HE.out
        have hst := commonF_step ltb la lb gk i k x y (by omega) (by rw [hr.out]; exact h0) y2 hxn
        have hxx : la[x] = xe := by rw [← y1]; simp [List.getD_eq_getElem?_getD, List.getElem?_eq_getElem hxn]
        rw [hxx] at hst
        refine ⟨x + 1, y + 1, L ++ [xe], by omega, by omega, by omega, by simp; omega, by go_num, by go_num, ?_, ?_, app_below (drewN_below z3 _) z3.size (ownsRow_drewN z2 _) hgrow⟩
        · rw [← z1, hst]; simp
        · rw [List.length_append, List.map_append]; exact hown'
    · have h0z : ¬ ((0 : Int) < (r : Int)) := by omega
      go_wp2_with fail
      go_ret2
      go_light
      obtain ⟨z1, z2, z3, z4⟩ := HO.out
      rw [commonF_zero ltb la lb gk i k (by rw [hr.out]; omega), List.append_nil] at z1
      have hS := strR_of_own z2
      rw [z1] at hS
      refine ⟨_, rfl, ?_, H0.out.1.trans (z3.mono hB0)⟩
      rcases hS with h | ⟨g, cap, h1, h2, h3, h4⟩
      · exact .inl h
      · exact .inr ⟨g, cap, h1, by omega, h3, h4⟩
end Go.Proofs.Ytmmcdncaiedmgaa
