import Derived.Test.YtnlenhhmajecjaaW
set_option linter.unusedVariables false
set_option linter.unusedSimpArgs false
namespace Go.Proofs.Ytnlenhhmajecjaa
open Go.RowKit
def pk (c : UInt8) : Bool := !decide (kindN c.toNat = 2)
set_option maxHeartbeats 8000000 in
set_option maxRecDepth 100000 in
theorem rplain_any (s : ByteArray) (w : World) (hs : s.size ≤ 1000000) :
    Calls Try.prog 23 #[.string s] w fun e w' => e = .returned (.string (plainS s)) ∧ Below w.heap.size w w' := by
  have h0 := Lib.hid (OwnB.start w)
  go_enter Try.func23, Try.ntmps23
  go_wp2_with fail
  go_loopg [4, 3] s.size (fun g s4 s3 wr => ∃ i : Nat, i ≤ s.size ∧ g = s.size - i ∧ s4 = .int .i64 i ∧ OwnB wr w.heap.size s3 (((bl s).take i).filter pk) ∧ Below w.heap.size w wr)
  case atStart =>
    go_light
    exact ⟨0, by omega, by omega, rfl, by simpa using h0.out, (Below.refl _ _).alloc (Nat.le_refl _) _⟩
  case round =>
    obtain ⟨i, hi, hg, rfl, hown, hbl⟩ := hrel
    by_cases hlt : i < s.size
    · have hltz : (i : Int) < (s.size : Int) := by omega
      have hx := fun W => run_index_str (P := Try.prog) 9 s (i : Int) i rfl hlt (by omega) Try.underlying9 W
      have hcl := bat_lt s i
      have hk := fun W => rkind_any _ (bat_lt s i) W
      have hl : (((bl s).take i).filter pk).length ≤ i := Nat.le_trans (List.length_filter_le _ _) (by rw [List.length_take]; omega)
      have hnx : ((bl s).take (i + 1)).filter pk = ((bl s).take i).filter pk ++ if kindN (bat s i).toNat = 2 then [] else [bat s i] := by
        have h1 : i < (bl s).length := by rw [size_bl]; exact hlt
        rw [List.take_succ_eq_append_getElem h1, List.filter_append, bat_get s i h1]
        by_cases e : kindN ((bl s)[i]).toNat = 2
        · simp [pk, e]
        · simp [pk, e]
      obtain ⟨X, hX⟩ : ∃ X, ((bl s).take i).filter pk = X := ⟨_, rfl⟩
      rw [hX] at hown hl hnx
      obtain ⟨b, hb⟩ : ∃ b, bat s i = b := ⟨_, rfl⟩
      rw [hb] at hcl hnx
      simp only [hb] at hx hk
      obtain ⟨k, hkk⟩ : ∃ k, kindN b.toNat = k := ⟨_, rfl⟩
      simp only [hkk] at hk hnx
      replace hk := Lib.hid hk
      clear hX hb hkk
      by_cases hk2 : k = 2
      · subst hk2
        rw [if_pos rfl, List.append_nil] at hnx
        have HO := Lib.hid (And.intro hown (And.intro hbl hnx))
        clear hown hbl hnx
        go_wp2_with (refine (hk.out _).mono ?_; rintro e w' ⟨rfl, rfl⟩)
        go_roundg (s.size - (i + 1))
        case measure => go_light; omega
        case rel =>
          go_light
          exact ⟨i + 1, by omega, by omega, by go_num, by rw [HO.out.2.2]; exact HO.out.1, HO.out.2.1⟩
      · have hk2b : ((k : Int) == 2) = false := by simp; omega
        rw [if_neg hk2] at hnx
        have HO := Lib.hid (And.intro hown (And.intro hbl hnx))
        clear hown hbl hnx
        go_wp2_with (first | (at_builtin; refine app_new _ rfl _ _ 46 5 rfl _ 1 1 Try.underlying46 info5 rfl (by decide) w.heap.size _ X.length (vb X) rfl (HO.out.1.1) 1 1 _ rfl rfl (by simp [Value.oneCell']) (by unfold maxLen; omega) (by omega) (by exact HO.out.2.1.size) ?_; intro v' w1 hown' hgrow) | (refine (hk.out _).mono ?_; rintro e w' ⟨rfl, rfl⟩))
        go_roundg (s.size - (i + 1))
        case measure => go_light; omega
        case rel =>
          go_light
          exact ⟨i + 1, by omega, by omega, by go_num, by rw [HO.out.2.2]; exact OwnB.push hown', app_below HO.out.2.1 HO.out.2.1.size HO.out.1.1 hgrow⟩
    · have hi' : i = s.size := by omega
      subst hi'
      rw [show (bl s).take s.size = bl s by rw [← size_bl, List.take_length]] at hown
      have hfs : plainS s = mkS ((bl s).filter pk) := rfl
      obtain ⟨X, hX⟩ : ∃ X, (bl s).filter pk = X := ⟨_, rfl⟩
      rw [hX] at hown hfs
      have hcv := hown.string
      obtain ⟨_, g4, cap4, rfl⟩ := hown
      have HB := Lib.hid (And.intro hbl hfs)
      clear hbl hfs hX
      obtain ⟨n, hn⟩ : ∃ n, X.length = n := ⟨_, rfl⟩
      rw [hn] at hcv
      simp only [hn]
      clear hn
      go_wp2_with fail
      rw [HB.out.2]
      go_ret
      exact ⟨rfl, HB.out.1⟩
end Go.Proofs.Ytnlenhhmajecjaa
