import Derived.Test.YtmmcdncaiedmgaaN8
set_option linter.unusedVariables false
set_option linter.unusedSimpArgs false
namespace Go.Proofs.Ytmmcdncaiedmgaa
open Go.RowKit
set_option maxHeartbeats 8000000 in
set_option maxRecDepth 100000 in
theorem common_walk (haw : Awake) (la lb lo : List ByteArray) (Aa Ab Ao : Option Addr) (ca cb co : Nat) (w : World) (SA : Strs w w.heap.size Aa la) (SB : Strs w w.heap.size Ab lb) (SO : Strs w w.heap.size Ao lo)
    (hca : la.length ≤ ca) (hcb : lb.length ≤ cb) (ha : la.length ≤ 9223372036854775807) (hb : lb.length ≤ 9223372036854775807) (ho : lo.length ≤ 9223372036854775807) :
    Calls Try.prog 10 #[.slice Aa la.length ca, .slice Ab lb.length cb, .slice Ao lo.length co] w fun e w' => e = .returned (.bool true) ∧ Below w.heap.size w w' := by
  have e1 := fun W (S : Strs W W.heap.size Aa la) => greatw_any la Aa ca 8 W S (by omega) (by omega)
  have e2 := fun W (S : Strs W W.heap.size Ab lb) => greatw_any lb Ab cb 8 W S (by omega) (by omega)
  obtain ⟨ga, hga⟩ : ∃ x, greatW la 8 = x := ⟨_, rfl⟩
  obtain ⟨gb, hgb⟩ : ∃ x, greatW lb 8 = x := ⟨_, rfl⟩
  by_cases hmain : ga = false ∧ gb = false ∧ la.length ≤ 8 ∧ lb.length ≤ 8 ∧ lo.length ≤ 8
  · obtain ⟨rfl, rfl, h1, h2, h3⟩ := hmain
    exact common_main haw la lb lo Aa Ab Ao ca cb co w SA SB SO hca hcb h1 h2 h3 hga hgb
  · rw [hga] at e1
    rw [hgb] at e2
    replace e1 := Lib.hid e1
    replace e2 := Lib.hid e2
    replace haw := Lib.hid haw
    replace SA := Lib.hid SA
    replace SB := Lib.hid SB
    clear SO hga hgb
    cases ga
    · cases gb
      · have hm : (8 < la.length) ∨ (la.length ≤ 8 ∧ 8 < lb.length) ∨ (la.length ≤ 8 ∧ lb.length ≤ 8 ∧ 8 < lo.length) := by simp at hmain; omega
        clear hmain
        have hm' : (decide ((8 : Int) < (la.length : Int)) = true) ∨ (decide ((8 : Int) < (la.length : Int)) = false ∧ decide ((8 : Int) < (lb.length : Int)) = true) ∨
            (decide ((8 : Int) < (la.length : Int)) = false ∧ decide ((8 : Int) < (lb.length : Int)) = false ∧ decide ((8 : Int) < (lo.length : Int)) = true) := by
          rcases hm with h | ⟨h, h'⟩ | ⟨h, h', h''⟩
          · exact .inl (by simp; omega)
          · exact .inr (.inl ⟨by simp; omega, by simp; omega⟩)
          · exact .inr (.inr ⟨by simp; omega, by simp; omega, by simp; omega⟩)
        clear hm
        rcases hm' with g1 | ⟨g1, g2⟩ | ⟨g1, g2, g3⟩
        all_goals
          go_enter Try.func10, Try.ntmps10
          go_wp2_with fail
          refine (e1.out _ SA.out).mono ?_
          rintro e w' ⟨rfl, rfl⟩
          go_wp2_with fail
          refine (e2.out _ SB.out).mono ?_
          rintro e w' ⟨rfl, rfl⟩
          go_wp2_with fail
          refine (haw.out _).mono ?_
          rintro e x9 ⟨rfl, hB9⟩
          go_wp2_with fail
          go_ret
          exact ⟨rfl, hB9⟩
      · go_enter Try.func10, Try.ntmps10
        go_wp2_with fail
        refine (e1.out _ SA.out).mono ?_
        rintro e w' ⟨rfl, rfl⟩
        go_wp2_with fail
        refine (e2.out _ SB.out).mono ?_
        rintro e w' ⟨rfl, rfl⟩
        go_wp2_with fail
        refine (haw.out _).mono ?_
        rintro e x9 ⟨rfl, hB9⟩
        go_wp2_with fail
        go_ret
        exact ⟨rfl, hB9⟩
    · go_enter Try.func10, Try.ntmps10
      go_wp2_with fail
      refine (e1.out _ SA.out).mono ?_
      rintro e w' ⟨rfl, rfl⟩
      go_wp2_with fail
      refine (haw.out _).mono ?_
      rintro e x9 ⟨rfl, hB9⟩
      go_wp2_with fail
      go_ret
      exact ⟨rfl, hB9⟩
end Go.Proofs.Ytmmcdncaiedmgaa
