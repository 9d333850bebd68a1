import Derived.Test.YtmmcdncaiedmgaaG
import Derived.Test.YtmmcdncaiedmgaaN1
set_option linter.unusedVariables false
set_option linter.unusedSimpArgs false
namespace Go.Proofs.Ytmmcdncaiedmgaa
open Go.RowKit

theorem bl_extract (s : ByteArray) (i j : Nat) : bl (s.extract i j) = ((bl s).drop i).take (j - i) := by
  simp [bl, ByteArray.data_extract, List.extract_eq_take_drop]
theorem bl_one (s : ByteArray) (i : Nat) (h : i < (bl s).length) : bl (one s i) = [(bl s)[i]] := by
  rw [one, bl_extract, Nat.add_sub_cancel_left, List.drop_eq_getElem_cons h, List.take_succ_cons, List.take_zero]
theorem singles_get (s : ByteArray) (i : Nat) (h : i < s.size) : (singles s).getD i ByteArray.empty = one s i := by
  simp [singles, List.getD_eq_getElem?_getD, h]
theorem singles_len (s : ByteArray) : (singles s).length = s.size := by simp [singles]
theorem levL_singles (a b : ByteArray) : levL (singles a) (singles b) = levS a b := by
  unfold levL
  rw [levS_ed, singles_len, singles_len, lev_ed (bl a) (bl b) (peqL (singles a) (singles b)) (fun i k hi hk => by
    unfold peqL
    rw [singles_get a i (by rwa [size_bl] at hi), singles_get b k (by rwa [size_bl] at hk), str_beq]
    rw [Bool.eq_iff_iff]; simp only [decide_eq_true_eq]
    constructor
    · intro h
      have := congrArg bl h
      rw [bl_one a i hi, bl_one b k hk] at this
      exact (List.cons.inj this).1
    · intro h
      apply bl_inj
      rw [bl_one a i hi, bl_one b k hk, h]) _ _ (by rw [size_bl]; exact Nat.le_refl _) (by rw [size_bl]; exact Nat.le_refl _)]
  rw [← size_bl a, ← size_bl b, List.take_length, List.take_length, ed_rev]

/-- the value that reads as the list -/
def StrV (w : World) (B : Nat) (v : Value) (l : List ByteArray) : Prop := ∃ A c, v = .slice A l.length c ∧ Strs w B A l
theorem StrR.strV {w : World} {B : Nat} {v : Value} {l : List ByteArray} (h : StrR w B v l) : StrV w w.heap.size v l := by
  rcases h with ⟨rfl, rfl⟩ | ⟨g, cap, rfl, hg, hc, hH⟩
  · exact ⟨none, 0, rfl, fun h => absurd h (Nat.lt_irrefl _)⟩
  · exact ⟨_, cap, rfl, Strs.of_has hH⟩
theorem StrV.below {w w' : World} {v : Value} {l : List ByteArray} (h : StrV w w.heap.size v l) (hb : Below w.heap.size w w') : StrV w' w'.heap.size v l := by
  obtain ⟨A, c, rfl, hs⟩ := h
  exact ⟨A, c, rfl, (hs.below hb).more hb.size⟩
theorem lists_v (la lb : List ByteArray) (v v' : Value) (w : World) (h : StrV w w.heap.size v la) (h' : StrV w w.heap.size v' lb) (ha : la.length ≤ 256) (hb : lb.length ≤ 256) (d : Nat) (hd : levL la lb = d) :
    Calls Try.prog 15 #[v, v'] w fun e w' => e = .returned (.tuple #[.int .i64 d, .int .i64 0]) ∧ Below w.heap.size w w' := by
  obtain ⟨A, c, rfl, hs⟩ := h
  obtain ⟨A', c', rfl, hs'⟩ := h'
  rw [← hd]
  exact lists_ok la lb A A' c c' w hs hs' ha hb

set_option maxHeartbeats 4000000 in
set_option maxRecDepth 100000 in
theorem bytes_walk (haw : Awake) (a b : ByteArray) (w : World) (ha : a.size ≤ 9223372036854775807) (hb : b.size ≤ 9223372036854775807) :
    Calls Try.prog 4 #[.string a, .string b] w fun e w' => e = .returned (.bool true) ∧ Below w.heap.size w w' := by
  by_cases h12 : a.size ≤ 12 ∧ b.size ≤ 12
  · obtain ⟨ha12, hb12⟩ := h12
    clear ha hb
    have g1 : decide ((12 : Int) < (a.size : Int)) = false := by simp; omega
    have g2 : decide ((12 : Int) < (b.size : Int)) = false := by simp; omega
    have d1 := distance_ok a b
    have hlv := levL_singles a b
    obtain ⟨x, hx⟩ : ∃ x, levS a b = x := ⟨_, rfl⟩
    simp only [hx] at d1 hlv
    replace d1 := Lib.hid d1
    replace haw := Lib.hid haw
    replace hlv := Lib.hid hlv
    clear hx
    go_enter Try.func4, Try.ntmps4
    go_wp2_with fail
    refine (d1.out _ (by omega) (by omega)).mono ?_
    rintro e w1 ⟨rfl, hB1⟩
    go_wp2_with fail
    refine (singles_any _ _ (by omega)).mono ?_
    rintro e w2 ⟨v2, rfl, hv2, hB2⟩
    go_wp2_with fail
    refine (singles_any _ _ (by omega)).mono ?_
    rintro e w3 ⟨v3, rfl, hv3, hB3⟩
    go_wp2_with fail
    refine (lists_v (singles a) (singles b) _ _ _ (hv2.strV.below hB3) hv3.strV (by rw [singles_len]; omega) (by rw [singles_len]; omega) x hlv.out).mono ?_
    rintro e w4 ⟨rfl, hB4⟩
    go_wp2_with fail
    refine (haw.out _).mono ?_
    rintro e w5 ⟨rfl, hB5⟩
    go_wp2_with fail
    go_ret
    exact ⟨rfl, (bst (bst (bst (bst hB1 hB2) hB3) hB4) hB5)⟩
  · have hcase : (decide ((12 : Int) < (a.size : Int)) = true) ∨ (decide ((12 : Int) < (a.size : Int)) = false ∧ decide ((12 : Int) < (b.size : Int)) = true) := by
      simp only [decide_eq_true_eq, decide_eq_false_iff_not]; omega
    clear h12
    replace haw := Lib.hid haw
    rcases hcase with h1 | ⟨h1, h2⟩
    all_goals
      go_enter Try.func4, Try.ntmps4
      go_wp2_with fail
      refine (haw.out _).mono ?_
      rintro e w5 ⟨rfl, hB5⟩
      go_wp2_with fail
      go_ret
      exact ⟨rfl, hB5⟩
end Go.Proofs.Ytmmcdncaiedmgaa
