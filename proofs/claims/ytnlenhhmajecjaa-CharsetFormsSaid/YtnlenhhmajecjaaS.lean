import Derived.Test.YtnlenhhmajecjaaL
set_option linter.unusedVariables false
set_option linter.unusedSimpArgs false
namespace Go.Proofs.Ytnlenhhmajecjaa
open Go.RowKit
/-- the reference: whether the character at a place is a mark that stands right -/
def rgt (s : ByteArray) : Nat → Bool
  | 0 => false
  | i + 1 => decide (kd s (i + 1) = 2) && (decide (kd s i = 1) || rgt s i)
theorem rgt_mark {s : ByteArray} : ∀ {i : Nat}, rgt s i = true → kd s i = 2
  | 0, h => by cases h
  | i + 1, h => by
    rw [rgt, Bool.and_eq_true, decide_eq_true_iff] at h
    exact h.1
theorem rgt_good {s : ByteArray} {n : Nat} : (∀ j, j < n → kd s j ≠ 0 ∧ (kd s j = 2 → rgt s j = true)) ↔ ∀ j, j < n → good s j := by
  constructor
  · intro h j hj
    refine ⟨(h j hj).1, fun e => ?_⟩
    have hr := (h j hj).2 e
    cases j with
    | zero => cases hr
    | succ j =>
      rw [rgt, Bool.and_eq_true, Bool.or_eq_true, decide_eq_true_iff] at hr
      refine ⟨by omega, ?_⟩
      rw [Nat.add_sub_cancel]
      rcases hr.2 with h1 | h1
      · exact .inl (by simpa using h1)
      · exact .inr (rgt_mark h1)
  · intro h
    have key : ∀ j, j < n → kd s j = 2 → rgt s j = true := by
      intro j
      induction j with
      | zero => intro hj e; have := ((h 0 hj).2 e).1; omega
      | succ j ih =>
        intro hj e
        have := ((h (j + 1) hj).2 e).2
        rw [Nat.add_sub_cancel] at this
        rw [rgt, e]
        rcases this with h1 | h1
        · simp [h1]
        · simp [ih (by omega) h1]
    exact fun j hj => ⟨(h j hj).1, key j hj⟩
def rowB (s : ByteArray) (i : Nat) : List Value := (List.range i).map fun j => .bool (rgt s j)
theorem rowB_succ (s : ByteArray) (i : Nat) : rowB s (i + 1) = rowB s i ++ [.bool (rgt s i)] := by simp [rowB, List.range_succ]
theorem info4 : (Try.prog.info? 4).map (fun i => (i.zero, i.size, i.bytes)) = some (some (.bool false), 1, 1) := by kernel_rfl
set_option maxHeartbeats 8000000 in
set_option maxRecDepth 100000 in
theorem right39_any (s : ByteArray) (w : World) (hs : s.size ≤ 65536) :
    Calls Try.prog 39 #[.string s] w fun e w' => ∃ v, e = .returned v ∧ w'.ownsRow w.heap.size 4 1 v s.size (rowB s s.size) ∧ Below w.heap.size w w' := by
  have h0 : (w.alloc (.cells #[] 4)).ownsRow w.heap.size 4 1 (.slice (some ⟨w.heap.size, 0, none⟩) 0 0) 0 [] :=
    ⟨rfl, .inr ⟨_, 0, _, rfl, Nat.le_refl _, heap_alloc_new _ _, Nat.le_refl _, by decide, rfl, rfl⟩⟩
  replace h0 := Lib.hid h0
  go_enter Try.func39, Try.ntmps39
  go_wp2_with fail
  go_loopg [4, 3] s.size (fun g s4 s3 wr => ∃ i : Nat, i ≤ s.size ∧ g = s.size - i ∧ s4 = .int .i64 i ∧ wr.ownsRow w.heap.size 4 1 s3 i (rowB s i) ∧ Below w.heap.size w wr)
  case atStart =>
    go_light
    exact ⟨0, by omega, by omega, rfl, h0.out, (Below.refl _ _).alloc (Nat.le_refl _) _⟩
  case round =>
    obtain ⟨i, hi, hg, rfl, hown, hbl⟩ := hrel
    by_cases hlt : i < s.size
    · have hltz : (i : Int) < (s.size : Int) := by omega
      have hx := fun W => run_index_str (P := Try.prog) 9 s (i : Int) i rfl hlt (by omega) Try.underlying9 W
      have hk := fun W => rkind_any _ (bat_lt s i) W
      have hkd : kindN (bat s i).toNat = kd s i := rfl
      have hk1 := fun W => rkind_any _ (bat_lt s (i - 1)) W
      have hkd1 : kindN (bat s (i - 1)).toNat = kd s (i - 1) := rfl
      have hx1 : 0 < i → ∀ W, (Instr.index 9 (.string s) (.int .i64 ((i : Int) - 1))).run Try.prog W = .ok (.int .u8 (bat s (i - 1)).toNat) W := fun h0 W => run_index_str (P := Try.prog) 9 s ((i : Int) - 1) (i - 1) (by omega) (by omega) (by omega) Try.underlying9 W
      have hrg0 : kd s i ≠ 2 → rgt s i = false := fun h => by cases i with | zero => rfl | succ i => rw [rgt, decide_eq_false h]; rfl
      have hrg1 : i = 0 → rgt s i = false := fun h => by subst h; rfl
      have hrg2 : 0 < i → kd s i = 2 → kd s (i - 1) = 1 → rgt s i = true := fun h h2 h1 => by
        obtain ⟨j, rfl⟩ : ∃ j, i = j + 1 := ⟨i - 1, by omega⟩
        rw [Nat.add_sub_cancel] at h1
        rw [rgt, h2, h1]; rfl
      have hrg3 : 0 < i → kd s i = 2 → kd s (i - 1) ≠ 1 → rgt s i = rgt s (i - 1) := fun h h2 h1 => by
        obtain ⟨j, rfl⟩ : ∃ j, i = j + 1 := ⟨i - 1, by omega⟩
        rw [Nat.add_sub_cancel] at h1 ⊢
        rw [rgt, h2, decide_eq_false h1]; simp
      rw [hkd] at hk
      rw [hkd1] at hk1
      obtain ⟨k, hkk⟩ : ∃ k, kd s i = k := ⟨_, rfl⟩
      obtain ⟨k', hkk'⟩ : ∃ k, kd s (i - 1) = k := ⟨_, rfl⟩
      rw [hkk] at hk hrg0 hrg2 hrg3
      rw [hkk'] at hk1 hrg2 hrg3
      replace hk := Lib.hid hk
      replace hk1 := Lib.hid hk1
      replace hx1 := Lib.hid hx1
      have HR := Lib.hid (And.intro hrg0 (And.intro hrg1 (And.intro hrg2 hrg3)))
      have HO := Lib.hid (And.intro hown hbl)
      clear hkd hkd1 hkk hkk' hrg0 hrg1 hrg2 hrg3
      have hfin : ∀ (v' : Value) (w2 : World) (bb : Bool), rgt s i = bb → w2.ownsRow w.heap.size 4 1 v' (i + 1) (rowB s i ++ #[Value.bool bb].toList) → w2.ownsRow w.heap.size 4 1 v' (i + 1) (rowB s (i + 1)) := fun v' w2 bb e h => by
        rw [rowB_succ, e]; exact h
      have HF := Lib.hid hfin
      clear hfin
      by_cases h2 : k = 2
      · by_cases hi0 : i = 0
        · have hbb := Lib.hid (HR.out.2.1 hi0)
          have gi : decide ((0 : Int) < (i : Int)) = false := by simp; omega
          have gi' : ¬ 0 < i := by omega
          subst h2
          clear hi0 hown hbl
          go_wp2_with fail
          refine (hk.out _).mono ?_
          rintro e w' ⟨rfl, rfl⟩
          go_wp2_with (at_builtin; refine app_new _ rfl _ _ 43 4 rfl _ 1 1 Try.underlying43 info4 rfl (by decide) w.heap.size _ i (rowB s i) rfl (HO.out.1) 1 1 _ rfl rfl (by simp [Value.oneCell']) (by unfold maxLen; omega) (by omega) (by exact HO.out.2.size) ?_; intro v' w1 hown' hgrow)
          go_roundg (s.size - (i + 1))
          case measure => go_light; omega
          case rel =>
            go_light
            exact ⟨i + 1, by omega, by omega, by go_num, HF.out _ _ _ hbb.out hown', app_below HO.out.2 HO.out.2.size (HO.out.1) hgrow⟩
        · have gi : decide ((0 : Int) < (i : Int)) = true := by simp; omega
          have gi' : 0 < i := by omega
          have hx1' := hx1.out gi'
          by_cases h1 : k' = 1
          · have hbb := Lib.hid (HR.out.2.2.1 gi' h2 h1)
            subst h2 h1
            clear hown hbl
            go_wp2_with fail
            refine (hk.out _).mono ?_
            rintro e w' ⟨rfl, rfl⟩
            go_wp2_with fail
            refine (hk1.out _).mono ?_
            rintro e w' ⟨rfl, rfl⟩
            go_wp2_with (at_builtin; refine app_new _ rfl _ _ 43 4 rfl _ 1 1 Try.underlying43 info4 rfl (by decide) w.heap.size _ i (rowB s i) rfl (HO.out.1) 1 1 _ rfl rfl (by simp [Value.oneCell']) (by unfold maxLen; omega) (by omega) (by exact HO.out.2.size) ?_; intro v' w1 hown' hgrow)
            go_roundg (s.size - (i + 1))
            case measure => go_light; omega
            case rel =>
              go_light
              exact ⟨i + 1, by omega, by omega, by go_num, HF.out _ _ _ hbb.out hown', app_below HO.out.2 HO.out.2.size (HO.out.1) hgrow⟩
          · have hbb0 := HR.out.2.2.2 gi' h2 h1
            have g1 : ((k' : Int) == 1) = false := by simp; omega
            obtain ⟨z, hz⟩ : ∃ z, rgt s (i - 1) = z := ⟨_, rfl⟩
            rw [hz] at hbb0
            have hbb := Lib.hid hbb0
            clear hbb0
            subst h2
            rcases own_forms hown with ⟨_, hbad, _⟩ | ⟨g3, cap3, rfl, hg31, hg32, hcap3⟩
            · omega
            · have cz := (own_has hown).cell (i := i - 1) (by omega)
              have hgz : (rowB s i).getD (i - 1) undef = .bool z := by
                rw [← hz]
                simp [rowB, List.getD_eq_getElem?_getD, show i - 1 < i by omega]
              rw [hgz] at cz
              clear hown hbl hgz hz
              go_wp2_with fail
              refine (hk.out _).mono ?_
              rintro e w' ⟨rfl, rfl⟩
              go_wp2_with fail
              refine (hk1.out _).mono ?_
              rintro e w' ⟨rfl, rfl⟩
              go_wp2_with (at_builtin; refine app_new _ rfl _ _ 43 4 rfl _ 1 1 Try.underlying43 info4 rfl (by decide) w.heap.size _ i (rowB s i) rfl (HO.out.1) 1 1 _ rfl rfl (by simp [Value.oneCell']) (by unfold maxLen; omega) (by omega) (by exact HO.out.2.size) ?_; intro v' w1 hown' hgrow)
              go_roundg (s.size - (i + 1))
              case measure => go_light; omega
              case rel =>
                go_light
                exact ⟨i + 1, by omega, by omega, by go_num, HF.out _ _ _ hbb.out hown', app_below HO.out.2 HO.out.2.size (HO.out.1) hgrow⟩
      · have hbb := Lib.hid (HR.out.1 h2)
        have g2 : ((k : Int) == 2) = false := by simp; omega
        clear hown hbl
        go_wp2_with fail
        refine (hk.out _).mono ?_
        rintro e w' ⟨rfl, rfl⟩
        go_wp2_with (at_builtin; refine app_new _ rfl _ _ 43 4 rfl _ 1 1 Try.underlying43 info4 rfl (by decide) w.heap.size _ i (rowB s i) rfl (HO.out.1) 1 1 _ rfl rfl (by simp [Value.oneCell']) (by unfold maxLen; omega) (by omega) (by exact HO.out.2.size) ?_; intro v' w1 hown' hgrow)
        go_roundg (s.size - (i + 1))
        case measure => go_light; omega
        case rel =>
          go_light
          exact ⟨i + 1, by omega, by omega, by go_num, HF.out _ _ _ hbb.out hown', app_below HO.out.2 HO.out.2.size (HO.out.1) hgrow⟩
    · have hi' : i = s.size := by omega
      subst hi'
      have HO := Lib.hid (And.intro hown hbl)
      clear hown hbl
      go_wp2_with fail
      go_ret
      go_light
      exact ⟨_, rfl, HO.out.1, HO.out.2⟩
end Go.Proofs.Ytnlenhhmajecjaa
