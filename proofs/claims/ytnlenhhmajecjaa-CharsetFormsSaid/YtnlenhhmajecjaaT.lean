import Derived.Test.YtnlenhhmajecjaaS
set_option linter.unusedVariables false
set_option linter.unusedSimpArgs false
namespace Go.Proofs.Ytnlenhhmajecjaa
open Go.RowKit
theorem chkR_cases {s : ByteArray} (h : s.size ≤ 65536) : chkR s = 0 ∨ chkR s = 11 := by
  rw [chkR, if_neg (by omega)]
  split
  · exact .inr rfl
  · exact .inl rfl
def okR (s : ByteArray) (j : Nat) : Prop := kd s j ≠ 0 ∧ (kd s j = 2 → rgt s j = true)
theorem chk_ok {s : ByteArray} (h : s.size ≤ 65536) (ho : ∀ j, j < s.size → okR s j) : chkR s = 0 := (chk_zero s h).2 (rgt_good.1 ho)
theorem chk_bad {s : ByteArray} (h : s.size ≤ 65536) {j : Nat} (hj : j < s.size) (ho : ¬ okR s j) : chkR s = 11 := by
  rcases chkR_cases h with h0 | h0
  · exact absurd (rgt_good.2 ((chk_zero s h).1 h0) j hj) ho
  · exact h0
set_option maxHeartbeats 8000000 in
set_option maxRecDepth 100000 in
theorem rcheck_any (s : ByteArray) (w : World) (hs : s.size ≤ 9223372036854775807) :
    Calls Try.prog 15 #[.string s] w fun e w' => e = .returned (.int .i64 (chkR s)) ∧ Below w.heap.size w w' := by
  by_cases hlong : 65536 < s.size
  · have hd : decide ((65536 : Int) < (s.size : Int)) = true := by simp; omega
    have hr : chkR s = 4 := by rw [chkR, if_pos hlong]
    rw [hr]
    clear hr
    go_enter Try.func15, Try.ntmps15
    go_wp2_with fail
    go_ret
    exact ⟨rfl, Below.refl _ _⟩
  · have hd : decide ((65536 : Int) < (s.size : Int)) = false := by simp; omega
    have hle : s.size ≤ 65536 := by omega
    have hr := right39_any s w hle
    have hok := fun h => chk_ok (s := s) hle h
    have hbad := fun j hj h => chk_bad (s := s) hle (j := j) hj h
    obtain ⟨c, hc⟩ : ∃ c, chkR s = c := ⟨_, rfl⟩
    rw [hc] at hok hbad ⊢
    replace hr := Lib.hid hr
    have HK := Lib.hid (And.intro hok hbad)
    clear hok hbad hc hlong
    go_enter Try.func15, Try.ntmps15
    go_wp2_with fail
    refine hr.out.mono ?_
    rintro e w1 ⟨v, rfl, hrow, hB1⟩
    have HW := Lib.hid (And.intro hrow hB1)
    clear hrow hB1 hr
    go_wp2_with fail
    go_loopg [4] s.size (fun g s4 wr => ∃ i : Nat, i ≤ s.size ∧ g = s.size - i ∧ s4 = .int .i64 i ∧ wr = w1 ∧ ∀ j, j < i → okR s j)
    case atStart => exact ⟨0, by omega, by omega, rfl, rfl, fun j hj => absurd hj (Nat.not_lt_zero _)⟩
    case round =>
      obtain ⟨i, hi, hg, rfl, rfl, hno⟩ := hrel
      by_cases hlt : i < s.size
      · have hltz : (i : Int) < (s.size : Int) := by omega
        have hx := fun W => run_index_str (P := Try.prog) 9 s (i : Int) i rfl hlt (by omega) Try.underlying9 W
        have hk := fun W => rkind_any _ (bat_lt s i) W
        have hkd : kindN (bat s i).toNat = kd s i := rfl
        have hiff : okR s i ↔ kd s i ≠ 0 ∧ (kd s i = 2 → rgt s i = true) := Iff.rfl
        rw [hkd] at hk
        obtain ⟨k, hkk⟩ : ∃ k, kd s i = k := ⟨_, rfl⟩
        rw [hkk] at hk hiff
        have hcase : ∃ g3 cap3, v = .slice (some ⟨g3, 0, none⟩) s.size cap3 ∧ wr.cell? ⟨g3, i, none⟩ = some (.bool (rgt s i)) := by
          rcases own_forms HW.out.1 with ⟨_, hz, _⟩ | ⟨g3, cap3, rfl, _, _, _⟩
          · omega
          · refine ⟨g3, cap3, rfl, ?_⟩
            have := (own_has HW.out.1).cell (i := i) (by omega)
            rw [this]
            simp [rowB, List.getD_eq_getElem?_getD, hlt]
        obtain ⟨g3, cap3, rfl, cz⟩ := hcase
        obtain ⟨z, hz⟩ : ∃ z, rgt s i = z := ⟨_, rfl⟩
        rw [hz] at cz hiff
        replace hk := Lib.hid hk
        have HN := Lib.hid (And.intro hno hiff)
        clear hkd hkk hz hno hiff
        have hnext : okR s i → ∀ j, j < i + 1 → okR s j := fun h j hj => by
          by_cases e : j = i
          · subst e; exact h
          · exact HN.out.1 j (by omega)
        replace hnext := Lib.hid hnext
        by_cases h0 : k = 0
        · have hcb := Lib.hid (HK.out.2 i hlt (fun h => (HN.out.2.1 h).1 h0))
          subst h0
          go_wp2_with fail
          refine (hk.out _).mono ?_
          rintro e w' ⟨rfl, rfl⟩
          go_wp2_with fail
          go_ret
          go_light
          exact ⟨by rw [hcb.out]; rfl, HW.out.2⟩
        · have g0 : ((k : Int) == 0) = false := by simp; omega
          by_cases h2 : k = 2
          · cases z
            · have hcb := Lib.hid (HK.out.2 i hlt (fun h => by have := (HN.out.2.1 h).2 h2; cases this))
              subst h2
              go_wp2_with fail
              refine (hk.out _).mono ?_
              rintro e w' ⟨rfl, rfl⟩
              go_wp2_with fail
              go_ret
              go_light
              exact ⟨by rw [hcb.out]; rfl, HW.out.2⟩
            · have hg := Lib.hid (hnext.out (HN.out.2.2 ⟨h0, fun _ => rfl⟩))
              subst h2
              go_wp2_with fail
              refine (hk.out _).mono ?_
              rintro e w' ⟨rfl, rfl⟩
              go_wp2_with fail
              go_roundg (s.size - (i + 1))
              case measure => go_light; omega
              case rel =>
                go_light
                exact ⟨i + 1, by omega, by omega, by go_num, rfl, hg.out⟩
          · have g2 : ((k : Int) == 2) = false := by simp; omega
            have hg := Lib.hid (hnext.out (HN.out.2.2 ⟨h0, fun h => absurd h h2⟩))
            go_wp2_with fail
            refine (hk.out _).mono ?_
            rintro e w' ⟨rfl, rfl⟩
            go_wp2_with fail
            go_roundg (s.size - (i + 1))
            case measure => go_light; omega
            case rel =>
              go_light
              exact ⟨i + 1, by omega, by omega, by go_num, rfl, hg.out⟩
      · have hi' : i = s.size := by omega
        have hc0 := Lib.hid (HK.out.1 (fun j hj => hno j (by omega)))
        clear hno
        go_wp2_with fail
        go_ret
        go_light
        exact ⟨by rw [hc0.out]; rfl, HW.out.2⟩
end Go.Proofs.Ytnlenhhmajecjaa
