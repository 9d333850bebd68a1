import Derived.Test.YtpfjeldpckmdoaaR
import Derived.Test.YtpfjeldpckmdoaaS2
set_option linter.unusedVariables false
set_option linter.unusedSimpArgs false
namespace Go.Proofs.Ytpfjeldpckmdoaa
open Go.RowKit Go.Shelf
theorem info4 : (Try.prog.info? 4).map (fun i => (i.zero, i.size, i.bytes)) = some (some (.bool false), 1, 1) := by kernel_rfl
/-- the bit of a line -/
def bitB (m : Nat) (i : Nat) : Bool := bits .and .u32 ((m : Int) / 2 ^ i) 1 == 1
/-- the first lines whose bits are set -/
def lst (b : Nat → Bool) (i : Nat) : List Nat := (List.range i).filter b
theorem lst_t {b : Nat → Bool} {i : Nat} (h : b i = true) : lst b (i + 1) = lst b i ++ [i] := by simp [lst, List.range_succ, h]
theorem lst_f {b : Nat → Bool} {i : Nat} (h : b i = false) : lst b (i + 1) = lst b i := by simp [lst, List.range_succ, h]
theorem lst_len (b : Nat → Bool) (i : Nat) : (lst b i).length ≤ i := flt_len b i
theorem beg_t {b : Nat → Bool} {n i : Nat} (h : b i = true) (x : Nat) : (if x = i then true else begI b n i x) = begI b n (i + 1) x := by
  unfold begI
  by_cases e : x = i
  · subst e; rw [if_pos rfl, h]; simp
  · rw [if_neg e]
    have : decide (x < i + 1) = decide (x < i) := by rw [decide_eq_decide]; omega
    rw [this]
theorem beg_f {b : Nat → Bool} {n i : Nat} (h : b i = false) (x : Nat) : begI b n i x = begI b n (i + 1) x := by
  unfold begI
  by_cases e : x = i
  · subst e; rw [h]; simp
  · have : decide (x < i + 1) = decide (x < i) := by rw [decide_eq_decide]; omega
    rw [this]
set_option maxHeartbeats 8000000 in
set_option maxRecDepth 100000 in
theorem penalties_walk (haw : Awake) (m1 m2 m3 m4 : Nat) (hb1 : m1 ≤ 255) (hb3 : m3 ≤ 65535) (hb4 : m4 ≤ 65535) (w : World) :
    Calls Try.prog 5 #[.int .u8 m1, .int .u32 m2, .int .u16 m3, .int .u16 m4] w fun e w' => e = .returned (.bool true) ∧ Below w.heap.size w w' := by
  obtain ⟨n, hn⟩ : ∃ n, m1 % 21 = n := ⟨_, rfl⟩
  obtain ⟨wi, hw⟩ : ∃ n : Int, (m3 : Int) % 10000 = n := ⟨_, rfl⟩
  obtain ⟨o, ho⟩ : ∃ n : Int, (m4 : Int) % 10000 = n := ⟨_, rfl⟩
  have hnz : (m1 : Int) % 21 = (n : Int) := by omega
  have htn : (m1 : Int).tmod 21 = (n : Int) := by rw [Int.tmod_eq_emod_of_nonneg (by omega)]; exact hnz
  have htw : (m3 : Int).tmod 10000 = wi := by rw [Int.tmod_eq_emod_of_nonneg (by omega)]; exact hw
  have hto : (m4 : Int).tmod 10000 = o := by rw [Int.tmod_eq_emod_of_nonneg (by omega)]; exact ho
  have hnl : n ≤ 20 := by omega
  have hwl : 0 ≤ wi ∧ wi ≤ 9999 := by omega
  have hol : 0 ≤ o ∧ o ≤ 9999 := by omega
  have hmk := run_make_row' (P := Try.prog) 37 4 (.bool false) 1 Try.underlying37 info4 rfl .i64 .i64 (n + 2) (by omega) (by omega) w
  have ec : ((n + 2 : Nat) : Int) = (n : Int) + 2 := by omega
  rw [ec] at hmk
  have hm0 := Has.made w (.bool false) (n + 2) 4
  have hB0 : Below w.heap.size w (w.alloc (.cells (madeCells #[.bool false] (n + 2)) 4)) := (Below.refl _ w).alloc (Nat.le_refl _) _
  have hz0 : (w.alloc (.cells (madeCells #[.bool false] (n + 2)) 4)).heap.size = w.heap.size + 1 := by simp
  obtain ⟨W0, hW0⟩ : ∃ W, w.alloc (.cells (madeCells #[.bool false] (n + 2)) 4) = W := ⟨_, rfl⟩
  rw [hW0] at hmk hm0 hB0 hz0
  have hm1 := hm0.set 0 (.bool true)
  have hm2 := hm1.set n (.bool true)
  have k0 := hm0.cell (i := 0) (by omega)
  have f0 := hm0.frozen 0
  have k1 := hm1.cell (i := n) (by omega)
  have f1 := hm1.frozen n
  have hb2 := (hB0.setCell (p := ⟨w.heap.size, 0, none⟩) (Nat.le_refl _) (.bool true)).setCell (p := ⟨w.heap.size, n, none⟩) (Nat.le_refl _) (.bool true)
  have hz2 : w.heap.size + 1 ≤ ((W0.setCell ⟨w.heap.size, 0, none⟩ (.bool true)).setCell ⟨w.heap.size, n, none⟩ (.bool true)).heap.size := by simp [World.setCell]; omega
  have hm3 : Has ((W0.setCell ⟨w.heap.size, 0, none⟩ (.bool true)).setCell ⟨w.heap.size, n, none⟩ (.bool true)) w.heap.size 4 (n + 2) (fun x => .bool (begI (bitB m2) n 0 x)) := hm2.congr fun x hx => by
    unfold begI
    by_cases e1 : x = n
    · simp [e1]
    · by_cases e2 : x = 0
      · subst e2; rw [if_neg e1]; simp
      · rw [if_neg e1, if_neg e2]; simp [e1, e2]
  have H := Lib.hid (And.intro hm3 (And.intro hb2 hz2))
  have hnz0 : (0 : Int) ≤ (n : Int) := by omega
  replace haw := Lib.hid haw
  clear hW0 hm0 hm1 hm2 hm3 hb2 hz2 hB0 hz0 hn ec
  go_enter Try.func5, Try.ntmps5
  go_wp2_with fail
  go_loopg [38, 12] n (fun gg s38 s12 wr => ∃ i : Nat, i ≤ n ∧ gg = n - i ∧ s38 = .int .i64 i ∧ wr.ownsRow (w.heap.size + 1) 3 1 s12 (lst (bitB m2) i).length (nums (lst (bitB m2) i)) ∧ Has wr w.heap.size 4 (n + 2) (fun x => .bool (begI (bitB m2) n i x)) ∧ Below w.heap.size w wr ∧ w.heap.size + 1 ≤ wr.heap.size)
  case atStart => exact ⟨0, by omega, by omega, rfl, World.ownsRow_nil _ _ _ _, H.out.1, H.out.2.1, H.out.2.2⟩
  case round =>
    obtain ⟨i, hi, hgg, rfl, hown, hbeg, hbel, hsz⟩ := hrel
    clear H k0 f0 k1 f1 hmk
    have hll := lst_len (bitB m2) i
    by_cases hlt : i < n
    · have hiz : (i : Int) < (n : Int) := by omega
      have hiz0 : (0 : Int) ≤ (i : Int) := by omega
      have hiz2 : (i : Int) < (n : Int) + 2 := by omega
      obtain ⟨b, hb⟩ : ∃ b, (bits .and .u32 ((m2 : Int) / 2 ^ i) 1 == 1) = b := ⟨_, rfl⟩
      have hbit : bitB m2 i = b := hb
      cases b
      · have hbeg2 : Has wr w.heap.size 4 (n + 2) (fun x => .bool (begI (bitB m2) n (i + 1) x)) := hbeg.congr fun x _ => by rw [beg_f hbit]
        have hown2 := hown
        rw [← lst_f hbit] at hown2
        have HF := Lib.hid (And.intro hown2 (And.intro hbeg2 (And.intro hbel hsz)))
        clear hown hown2 hbeg hbeg2 hbel hsz hbit
        go_wp2_with fail
        go_roundg (n - (i + 1))
        case measure => go_light; omega
        case rel =>
          go_light
          exact ⟨i + 1, by omega, by omega, by go_num, HF.out.1, HF.out.2.1, HF.out.2.2.1, HF.out.2.2.2⟩
      · have HO := Lib.hid (And.intro hown (And.intro hbeg (And.intro hbel (And.intro hsz hbit))))
        clear hown hbeg hbel hsz hbit
        go_wp2_with (at_builtin; refine app_new _ rfl _ _ 22 3 rfl _ 1 8 Try.underlying22 info3 rfl (by decide) (w.heap.size + 1) _ (lst (bitB m2) i).length (nums (lst (bitB m2) i)) rfl (HO.out.1) 1 1 _ rfl rfl (by simp [Value.oneCell']) (by unfold maxLen; omega) (by omega) (by exact HO.out.2.2.2.1) ?_; intro v2 w2 hown2 hgrow; have hbg := (HO.out.2.1.alloc (.cells #[.int .i64 (i : Int)] 3)).grown hgrow (fun e => by have := (HO.out.1.lt _ e.symm).1; omega); have kx := hbg.cell (i := i) (by omega); have fx := hbg.frozen i)
        have hset : Has (w2.setCell ⟨w.heap.size, i, none⟩ (.bool true)) w.heap.size 4 (n + 2) (fun x => .bool (begI (bitB m2) n (i + 1) x)) := (hbg.set i (.bool true)).congr fun x hx => by
          rw [← beg_t HO.out.2.2.2.2 x]
          by_cases e : x = i
          · rw [if_pos e, if_pos e]
          · rw [if_neg e, if_neg e]
        have hown3 : (w2.setCell ⟨w.heap.size, i, none⟩ (.bool true)).ownsRow (w.heap.size + 1) 3 1 v2 (lst (bitB m2) (i + 1)).length (nums (lst (bitB m2) (i + 1))) := by
          rw [lst_t HO.out.2.2.2.2, nums_snoc, List.length_append]
          exact ownsRow_setCell_below hown2 (by show w.heap.size < w.heap.size + 1; omega) _
        have hbel3 : Below w.heap.size w (w2.setCell ⟨w.heap.size, i, none⟩ (.bool true)) := ((HO.out.2.2.1.alloc (by have := HO.out.2.2.2.1; omega) _).grown hgrow (by have := HO.out.2.2.2.1; simp; omega) fun k hk => by have := (HO.out.1.lt k hk).1; omega).setCell (p := ⟨w.heap.size, i, none⟩) (Nat.le_refl _) _
        have hsz3 : w.heap.size + 1 ≤ (w2.setCell ⟨w.heap.size, i, none⟩ (.bool true)).heap.size := by
          have h1 := hgrow.size
          have h2 := HO.out.2.2.2.1
          simp [World.setCell] at h1 ⊢
          omega
        go_roundg (n - (i + 1))
        case measure => go_light; omega
        case rel =>
          go_light
          exact ⟨i + 1, by omega, by omega, by go_num, hown3, hset, hbel3, hsz3⟩
    · have hin : i = n := by omega
      subst hin
      obtain ⟨A, c, rfl, hA⟩ := rowA_own hown
      have hbl := Lib.hid hbel
      have hbg := Lib.hid hbeg
      have hpc := Lib.hid (penalties_any (begB (bitB m2) i) i hnl A (lst (bitB m2) i) c wi o wr hA hwl hol hll (flt_get (bitB m2) i) (by simp [begB, begI]) (nxt_all (bitB m2) i))
      replace hsz := Lib.hid hsz
      clear hown hbeg hbel hA
      go_wp2_with fail
      refine hpc.out.mono ?_
      rintro e w5 ⟨ga, rfl, hpen, hB5⟩
      have hbg5 : Has w5 w.heap.size 4 (i + 2) (fun x => .bool (begB (bitB m2) i x)) := hbg.out.below hB5 (by have := hsz.out; omega)
      have hbl5 := Lib.hid (hbl.out.trans (hB5.mono (by have := hsz.out; omega)))
      have H5 := Lib.hid (And.intro hpen hbg5)
      clear hbg hbl hpc hpen hbg5 hB5
      go_wp2_with fail
      go_loopg [72] i (fun gg s72 wz => ∃ x : Nat, x ≤ i ∧ gg = i - x ∧ s72 = .int .i64 x ∧ wz = w5)
      case atStart => exact ⟨0, by omega, by omega, rfl, rfl⟩
      case round =>
        obtain ⟨x, hx, hgg2, rfl, hwz⟩ := hrel
        rw [hwz]
        clear hwz
        by_cases hlt2 : x < i
        · have hxz : (x : Int) < (i : Int) := by omega
          have hxz0 : (0 : Int) ≤ (x : Int) := by omega
          have hxz2 : (x : Int) < (i : Int) + 2 := by omega
          have hxz3 : (x : Int) + 1 < (i : Int) + 2 := by omega
          have hxz4 : (x : Int) + 2 < (i : Int) + 2 := by omega
          have hxz5 : (0 : Int) ≤ (x : Int) + 1 := by omega
          have hxz6 : (0 : Int) ≤ (x : Int) + 2 := by omega
          have ht1 : ((x : Int) + 1).toNat = x + 1 := by omega
          have ht2 : ((x : Int) + 2).toNat = x + 2 := by omega
          have hw1 : IntKind.i64.wrap ((x : Int) + 1) = (x : Int) + 1 := by rw [IntKind.wrap_i64]; omega
          have hw2 : IntKind.i64.wrap ((x : Int) + 2) = (x : Int) + 2 := by rw [IntKind.wrap_i64]; omega
          have p0 := H5.out.1.cell (i := x) hlt2
          have q0 := H5.out.2.cell (i := x) (by omega)
          have q1 := H5.out.2.cell (i := x + 1) (by omega)
          have q2 := H5.out.2.cell (i := x + 2) (by omega)
          have hwant : wantP (begB (bitB m2) i) i wi o x = (if begB (bitB m2) i x = true ∧ begB (bitB m2) i (x + 1) = false then o else 0) + (if x + 1 < i ∧ begB (bitB m2) i (x + 1) = false ∧ begB (bitB m2) i (x + 2) = true then wi else 0) := rfl
          obtain ⟨b0, hb0⟩ : ∃ b, begB (bitB m2) i x = b := ⟨_, rfl⟩
          obtain ⟨b1, hb1'⟩ : ∃ b, begB (bitB m2) i (x + 1) = b := ⟨_, rfl⟩
          obtain ⟨b2, hb2⟩ : ∃ b, begB (bitB m2) i (x + 2) = b := ⟨_, rfl⟩
          rw [hwant] at p0
          rw [hb0, hb1', hb2] at p0
          rw [hb0] at q0
          rw [hb1'] at q1
          rw [hb2] at q2
          obtain ⟨ho1, ho2⟩ := hol
          obtain ⟨hwi1, hwi2⟩ := hwl
          have hwo : IntKind.i64.wrap (0 + o) = o := by rw [IntKind.wrap_i64]; omega
          have hwo' : IntKind.i64.wrap o = o := by rw [IntKind.wrap_i64]; omega
          have hww : IntKind.i64.wrap (0 + wi) = wi := by rw [IntKind.wrap_i64]; omega
          have hww' : IntKind.i64.wrap wi = wi := by rw [IntKind.wrap_i64]; omega
          have how : IntKind.i64.wrap (o + wi) = o + wi := by rw [IntKind.wrap_i64]; omega
          clear hwant hb0 hb1' hb2
          have hq : (x + 1 < i ∧ decide ((x : Int) + 1 < (i : Int)) = true) ∨ (¬ x + 1 < i ∧ decide ((x : Int) + 1 < (i : Int)) = false) := by
            by_cases e : x + 1 < i
            · exact .inl ⟨e, by rw [decide_eq_true_iff]; omega⟩
            · exact .inr ⟨e, by rw [decide_eq_false_iff_not]; omega⟩
          cases b1
          · rcases hq with ⟨hq, hqd⟩ | ⟨hq, hqd⟩
            · cases b0 <;> cases b2
              all_goals
                simp only [hq, true_and, and_true, and_false, and_self, if_true, if_false, Bool.false_eq_true, reduceCtorEq, Int.add_zero, Int.zero_add] at p0
                go_wp2_with fail
              all_goals
                go_roundg (i - (x + 1))
                case measure => go_light; omega
                case rel =>
                  go_light
                  exact ⟨x + 1, by omega, by omega, by go_num, rfl⟩
            · cases b0
              all_goals
                simp only [hq, true_and, false_and, and_true, and_false, and_self, if_true, if_false, Bool.false_eq_true, reduceCtorEq, Int.add_zero, Int.zero_add] at p0
                go_wp2_with fail
              all_goals
                go_roundg (i - (x + 1))
                case measure => go_light; omega
                case rel =>
                  go_light
                  exact ⟨x + 1, by omega, by omega, by go_num, rfl⟩
          · simp only [Bool.true_eq_false, and_false, false_and, if_false, Int.add_zero, reduceCtorEq] at p0
            rcases hq with ⟨hq, hqd⟩ | ⟨hq, hqd⟩ <;> cases b0
            all_goals
              go_wp2_with fail
            all_goals
              go_roundg (i - (x + 1))
              case measure => go_light; omega
              case rel =>
                go_light
                exact ⟨x + 1, by omega, by omega, by go_num, rfl⟩
        · have hxi : x = i := by omega
          subst hxi
          go_wp2_with fail
          refine (haw.out _).mono ?_
          rintro e w9 ⟨rfl, hB9⟩
          go_wp2_with fail
          go_ret
          go_light
          exact ⟨rfl, bst hbl5.out hB9⟩
end Go.Proofs.Ytpfjeldpckmdoaa
