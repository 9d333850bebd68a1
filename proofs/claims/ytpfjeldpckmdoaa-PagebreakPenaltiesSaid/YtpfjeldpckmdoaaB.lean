import Derived.Test.YtpfjeldpckmdoaaM
import Derived.Test.YtpfjeldpckmdoaaProg
import Derived.Shelf.Bits.Mul64
import Derived.Deep.RegionHeld3
import Derived.Deep.RegionWith
import Derived.Laws.StructEq
set_option linter.unusedVariables false
set_option linter.unusedSimpArgs false
namespace Go.Proofs.Ytpfjeldpckmdoaa
open Go.RowKit Go.Shelf
def lays264_ren : Go.Shelf.Ren := ⟨fun | 264 => 39 | n => n, fun | 53 => 67 | 46 => 74 | n => n, fun | n => n⟩
theorem lays264 : Go.Proofs.Lays.n264 Try.prog lays264_ren := {
  mixed := by kernel_rfl
  f264 := Try.func39.trans (congrArg some (by kernel_rfl))
  t46 := Try.underlying74
  a46 := Try.isAgg74
  z46 := Try.sizeOf74
  v46 := Try.zeroValue74
  t53 := Try.underlying67
  a53 := Try.isAgg67
  z53 := Try.sizeOf67
  v53 := Try.zeroValue67 }
/-- two to the power of 64 -/
def W64 : Nat := 18446744073709551616
theorem mul64_any (x y a b : Nat) (hx : x < W64) (hy : y < W64) (ha : x * y / W64 = a) (hb : x * y % W64 = b) (w : World) :
    Calls Try.prog 39 #[.int .u64 x, .int .u64 y] w fun e w' => e = .returned (.tuple #[.int .u64 a, .int .u64 b]) ∧ w' = w := by
  subst ha hb
  exact Any.bits_Mul64 lays264 x y hx hy w
theorem ret_int {k : IntKind} {a b : Int} (h : a = b) : Ending.returned (.int k a) = .returned (.int k b) := by rw [h]
theorem ret_bool {a b : Bool} (h : a = b) : Ending.returned (.bool a) = .returned (.bool b) := by rw [h]
theorem bst {a b c : World} (h : Below a.heap.size a b) (k : Below b.heap.size b c) : Below a.heap.size a c := h.trans (k.mono h.size)
theorem u64_in (n : Nat) (h : n < W64) : IntKind.u64.wrap (n : Int) = n := by
  have : (W64 : Int) = 18446744073709551616 := rfl
  rw [IntKind.wrap_u64]; omega
set_option maxHeartbeats 4000000 in
set_option maxRecDepth 100000 in
theorem times_hl (hi lo n a b r : Nat) (hn : n < W64) (hlo : lo < W64) (ha : lo * n / W64 = a) (hb : lo * n % W64 = b) (hr : a + hi * n = r) (hs : r < W64) (w : World) :
    Calls Try.prog 37 #[.agg #[.int .u64 hi, .int .u64 lo], .int .u64 n] w fun e w' => e = .returned (.agg #[.int .u64 r, .int .u64 b]) ∧ Below w.heap.size w w' := by
  have hm := fun W => mul64_any lo n a b hlo hn ha hb W
  replace hm := Lib.hid hm
  have e1 : IntKind.u64.wrap ((hi : Int) * (n : Int)) = (hi : Int) * (n : Int) := by
    have := u64_in (hi * n) (by omega)
    rw [Int.natCast_mul] at this; exact this
  have e2 : IntKind.u64.wrap ((a : Int) + (hi : Int) * (n : Int)) = (r : Int) := by
    have := u64_in r hs
    rw [← hr, Int.natCast_add, Int.natCast_mul] at this; rw [this, ← hr, Int.natCast_add, Int.natCast_mul]
  clear ha hb hlo hn hs hr
  go_enter Try.func37, Try.ntmps37
  go_wp2_with (refine (hm.out _).mono ?_; rintro e w' ⟨rfl, rfl⟩)
  refine bodyPost_ret (v := .agg #[.int .u64 r, .int .u64 b]) (by simp [results, Try.f37, go_sem]) rfl ?_
  exact ⟨rfl, ((Below.refl _ w).alloc (Nat.le_refl _) _).alloc (by simp) _⟩
/-- a number of two machine words -/
def wide (v : Nat) : Value := .agg #[.int .u64 (v / W64 : Nat), .int .u64 (v % W64 : Nat)]
theorem times_any (v n : Nat) (hn : n < W64) (hv : v * n < W64 * W64) (w : World) :
    Calls Try.prog 37 #[wide v, .int .u64 n] w fun e w' => e = .returned (wide (v * n)) ∧ Below w.heap.size w w' := by
  have hW : 0 < W64 := by decide
  have hlo : v % W64 < W64 := Nat.mod_lt _ hW
  have hvv : v * n = (v % W64) * n + W64 * (v / W64 * n) := by
    conv => lhs; rw [← Nat.mod_add_div v W64]
    rw [Nat.add_mul, Nat.mul_assoc]
  have hr : (v % W64) * n / W64 + v / W64 * n = v * n / W64 := by
    rw [hvv, Nat.add_mul_div_left _ _ hW]
  have hb : (v % W64) * n % W64 = v * n % W64 := by
    rw [hvv, Nat.add_mul_mod_self_left]
  have hs : v * n / W64 < W64 := Nat.div_lt_of_lt_mul hv
  unfold wide
  exact times_hl (v / W64) (v % W64) n _ _ _ hn hlo rfl hb hr hs w
set_option maxHeartbeats 4000000 in
set_option maxRecDepth 100000 in
theorem above_hl (h1 l1 h2 l2 : Nat) (r : Bool) (hr : decide (h2 < h1 ∨ h1 = h2 ∧ l2 < l1) = r) (w : World) :
    Calls Try.prog 38 #[.agg #[.int .u64 h1, .int .u64 l1], .agg #[.int .u64 h2, .int .u64 l2]] w fun e w' => e = .returned (.bool r) ∧ Below w.heap.size w w' := by
  have hB : Below w.heap.size w ((w.alloc (.cells #[.int .u64 h1, .int .u64 l1] 69)).alloc (.cells #[.int .u64 h2, .int .u64 l2] 69)) := ((Below.refl _ w).alloc (Nat.le_refl _) _).alloc (by simp) _
  replace hB := Lib.hid hB
  by_cases e : h1 = h2
  · subst e
    by_cases k : l1 = l2
    · subst k
      obtain rfl : r = false := by rw [← hr]; simp
      clear hr
      go_enter Try.func38, Try.ntmps38
      go_wp2_with fail
      go_ret
      exact ⟨rfl, hB.out⟩
    · have hk : ((l1 : Int) == (l2 : Int)) = false := by simp; omega
      have hd : decide (l2 < l1) = r := by rw [← hr]; simp
      clear hr k
      replace hd := Lib.hid hd
      go_enter Try.func38, Try.ntmps38
      go_wp2_with fail
      go_ret
      exact ⟨ret_bool hd.out, hB.out⟩
  · have hk : ((h1 : Int) != (h2 : Int)) = true := by simp; omega
    have hd : decide (h2 < h1) = r := by rw [← hr]; simp [e]
    clear hr e
    replace hd := Lib.hid hd
    go_enter Try.func38, Try.ntmps38
    go_wp2_with fail
    go_ret
    exact ⟨ret_bool hd.out, hB.out⟩
theorem above_any (v1 v2 : Nat) (r : Bool) (hr : decide (v2 < v1) = r) (w : World) :
    Calls Try.prog 38 #[wide v1, wide v2] w fun e w' => e = .returned (.bool r) ∧ Below w.heap.size w w' := by
  refine above_hl _ _ _ _ r ?_ w
  rw [← hr, Bool.eq_iff_iff, decide_eq_true_iff, decide_eq_true_iff]
  unfold W64
  omega
theorem wide_small {t : Nat} (h : t < W64) : wide t = .agg #[.int .u64 0, .int .u64 t] := by
  rw [wide, Nat.div_eq_of_lt h, Nat.mod_eq_of_lt h]; rfl
/-- how bad a change is -/
def badN (c t : Nat) : Nat := if c = 0 then 0 else min (c * c * c * 100 / (t * t * t)) 10000
/-- block `g` holds a number of two words -/
def Two (W : World) (g h l : Nat) : Prop := g < W.heap.size ∧ W.cell? ⟨g, 0, none⟩ = some (.int .u64 h) ∧ W.cell? ⟨g, 1, none⟩ = some (.int .u64 l)
theorem Two.below {W W' : World} {g h l : Nat} (H : Two W g h l) (hb : Below W.heap.size W W') : Two W' g h l :=
  ⟨by have := hb.size; have := H.1; omega, (hb.cell (p := ⟨g, 0, none⟩) H.1).trans H.2.1, (hb.cell (p := ⟨g, 1, none⟩) H.1).trans H.2.2⟩
theorem Two.new (W : World) (h l : Nat) : Two (W.alloc (.cells #[.int .u64 h, .int .u64 l] 69)) W.heap.size h l :=
  ⟨by simp, by rw [World.cell?_alloc_new]; rfl, by rw [World.cell?_alloc_new]; rfl⟩
set_option maxHeartbeats 8000000 in
set_option maxRecDepth 100000 in
theorem bad_walk (c t q Th Tl Ch Cl : Nat) (x2 y2 y3 : Value) (z : Nat → Value) (hc : 1 ≤ c) (hc2 : c ≤ 1073741824) (ht : 1 ≤ t) (ht2 : t ≤ 1073741824) (hq : q ≤ 10000)
    (k1 : ∀ W, Calls Try.prog 37 #[.agg #[.int .u64 0, .int .u64 t], .int .u64 t] W fun e w' => e = .returned x2 ∧ Below W.heap.size W w')
    (k2 : ∀ W, Calls Try.prog 37 #[x2, .int .u64 t] W fun e w' => e = .returned (.agg #[.int .u64 Th, .int .u64 Tl]) ∧ Below W.heap.size W w')
    (k3 : ∀ W, Calls Try.prog 37 #[.agg #[.int .u64 0, .int .u64 c], .int .u64 c] W fun e w' => e = .returned y2 ∧ Below W.heap.size W w')
    (k4 : ∀ W, Calls Try.prog 37 #[y2, .int .u64 c] W fun e w' => e = .returned y3 ∧ Below W.heap.size W w')
    (k5 : ∀ W, Calls Try.prog 37 #[y3, .int .u64 100] W fun e w' => e = .returned (.agg #[.int .u64 Ch, .int .u64 Cl]) ∧ Below W.heap.size W w')
    (k6 : ∀ m W, m ≤ 10001 → Calls Try.prog 37 #[.agg #[.int .u64 Th, .int .u64 Tl], .int .u64 (m : Nat)] W fun e w' => e = .returned (z m) ∧ Below W.heap.size W w')
    (k7 : ∀ m W, m ≤ 10000 → Calls Try.prog 38 #[z m, .agg #[.int .u64 Ch, .int .u64 Cl]] W fun e w' => e = .returned (.bool (decide (q < m))) ∧ Below W.heap.size W w')
    (w : World) :
    Calls Try.prog 34 #[.int .i64 c, .int .i64 t] w fun e w' => e = .returned (.int .i64 q) ∧ Below w.heap.size w w' := by
  replace k1 := Lib.hid k1
  replace k2 := Lib.hid k2
  replace k3 := Lib.hid k3
  replace k4 := Lib.hid k4
  replace k5 := Lib.hid k5
  replace k6 := Lib.hid k6
  replace k7 := Lib.hid k7
  have g1 : ((c : Int) == 0) = false := by simp; omega
  have g2 : decide ((t : Int) ≤ 0) = false := by simp; omega
  have g3 : min (c : Int) 1073741824 = c := by omega
  have g4 : min (t : Int) 1073741824 = t := by omega
  have g5 : decide (t = 0) = false := by simp; omega
  go_enter Try.func34, Try.ntmps34
  go_wp2_with fail
  refine (k1.out _).mono ?_
  rintro e w1 ⟨rfl, hC⟩
  have hB := hC
  clear hC
  go_wp2_with fail
  refine (k2.out _).mono ?_
  rintro e w2 ⟨rfl, hC⟩
  replace hB := bst hB hC
  clear hC
  go_wp2_with fail
  refine (k3.out _).mono ?_
  rintro e w3 ⟨rfl, hC⟩
  replace hB := Lib.hid (bst (hB.alloc hB.size (.cells #[.int .u64 Th, .int .u64 Tl] 69)) hC)
  have b3 := Lib.hid ((Two.new w2 Th Tl).below hC)
  clear hC
  obtain ⟨g7, hg7⟩ : ∃ g, w2.heap.size = g := ⟨_, rfl⟩
  rw [hg7] at b3
  simp only [hg7]
  clear hg7
  go_wp2_with fail
  refine (k4.out _).mono ?_
  rintro e w4 ⟨rfl, hC⟩
  replace hB := Lib.hid (bst hB.out hC)
  replace b3 := Lib.hid (b3.out.below hC)
  clear hC
  go_wp2_with fail
  refine (k5.out _).mono ?_
  rintro e w5 ⟨rfl, hC⟩
  replace hB := bst hB.out hC
  replace b3 := b3.out.below hC
  clear hC
  have hA : Below w5.heap.size w5 (w5.alloc (.cells #[.int .u64 Ch, .int .u64 Cl] 69)) := (Below.refl _ _).alloc (Nat.le_refl _) _
  have HB := Lib.hid (And.intro (b3.below hA) (And.intro (Two.new w5 Ch Cl) (bst hB hA)))
  clear b3 hB hA
  go_wp2_with fail
  obtain ⟨g8, hg8⟩ : ∃ g, w5.heap.size = g := ⟨_, rfl⟩
  obtain ⟨W6, hW6⟩ : ∃ W, w5.alloc (.cells #[.int .u64 Ch, .int .u64 Cl] 69) = W := ⟨_, rfl⟩
  rw [hg8, hW6] at HB
  simp only [hg8, hW6]
  clear hg8 hW6
  go_loopg [9, 10] 10001 (fun g s9 s10 wr => ∃ lo hi : Nat, g = hi - lo ∧ lo ≤ q ∧ q < hi ∧ hi ≤ 10001 ∧ s9 = .int .i64 lo ∧ s10 = .int .i64 hi ∧ Two wr g7 Th Tl ∧ Two wr g8 Ch Cl ∧ Below w.heap.size w wr)
  case atStart =>
    go_light
    exact ⟨0, 10001, by omega, by omega, by omega, by omega, rfl, rfl, HB.out⟩
  case round =>
    obtain ⟨lo, hi, hg, h1, h2, h3, rfl, rfl, hT, hC, hB⟩ := hrel
    have hlz : (0 : Int) ≤ (lo : Int) := by omega
    have hhz : (hi : Int) ≤ 10001 := by omega
    have hloz : (lo : Int) < (hi : Int) := by omega
    by_cases hd : 1 < hi - lo
    · have hdz : (1 : Int) < (hi : Int) - (lo : Int) := by omega
      obtain ⟨m, hm0⟩ : ∃ m, (lo + hi) / 2 = m := ⟨_, rfl⟩
      have hm : ((lo : Int) + (hi : Int)) / 2 = (m : Int) := by omega
      have hm1 : lo < m := by omega
      have hm2 : m < hi := by omega
      have hwm : IntKind.u64.wrap (m : Int) = (m : Int) := u64_in m (by have : W64 = 18446744073709551616 := rfl; omega)
      have c1 := hT.2.1
      have c2 := hT.2.2
      have c3 := hC.2.1
      have c4 := hC.2.2
      have q1 := fun W => k6.out m W (by omega)
      have q2 := fun W => k7.out m W (by omega)
      obtain ⟨r, hr⟩ : ∃ r, decide (q < m) = r := ⟨_, rfl⟩
      rw [hr] at q2
      have z7 := hT.1
      have z8 := hC.1
      have HH := Lib.hid (And.intro hT (And.intro hC (And.intro hB (And.intro hr hm0))))
      replace q1 := Lib.hid q1
      replace q2 := Lib.hid q2
      clear hT hC hB hr hm0
      go_wp2_with fail
      go_region_with (first | (go_at_call 37; refine (q1.out _).mono ?_; rintro e w' ⟨rfl, hX⟩; have d1 := (hX.cell (p := ⟨g8, 0, none⟩) z8).trans c3; have d2 := (hX.cell (p := ⟨g8, 1, none⟩) z8).trans c4) | (go_at_call 38; refine (q2.out _).mono ?_; rintro e w2' ⟨rfl, hY⟩))
      all_goals
        obtain ⟨hT, hC, hB, hr, hm0⟩ := HH.out
        have hXY := bst hX hY
        have HZ := Lib.hid (And.intro (hT.below (show Below wr.heap.size wr _ from (drewN_below (Below.refl _ wr) 1).trans hXY)) (And.intro (hC.below (show Below wr.heap.size wr _ from (drewN_below (Below.refl _ wr) 1).trans hXY)) (bst hB (show Below wr.heap.size wr _ from (drewN_below (Below.refl _ wr) 1).trans hXY))))
        clear hX hY hXY hT hC hB hm0 HH
        replace hr := Lib.hid hr
        cases r
        · go_wp2_with fail
          go_roundg (hi - m)
          case measure => go_light; omega
          case rel =>
            go_light
            have hq2 := of_decide_eq_false hr.out
            exact ⟨m, hi, rfl, by omega, by omega, by omega, rfl, rfl, HZ.out⟩
        · go_wp2_with fail
          go_roundg (m - lo)
          case measure => go_light; omega
          case rel =>
            go_light
            have hq2 := of_decide_eq_true hr.out
            exact ⟨lo, m, rfl, by omega, by omega, by omega, rfl, rfl, HZ.out⟩
    · have hdz : ¬ (1 : Int) < (hi : Int) - (lo : Int) := by omega
      have hq2 : lo = q := by omega
      have HZ := Lib.hid (And.intro hq2 hB)
      clear hT hC hB hq2
      go_wp2_with fail
      go_ret
      go_light
      exact ⟨ret_int (by rw [HZ.out.1]), HZ.out.2⟩
/-- `Badness` -/
theorem bad_any (c t : Nat) (hc2 : c ≤ 1073741824) (ht : 1 ≤ t) (ht2 : t ≤ 1073741824) (w : World) :
    Calls Try.prog 34 #[.int .i64 c, .int .i64 t] w fun e w' => e = .returned (.int .i64 (badN c t)) ∧ Below w.heap.size w w' := by
  by_cases h0 : c = 0
  · subst h0
    go_enter Try.func34, Try.ntmps34
    go_wp2_with fail
    go_ret
    exact ⟨rfl, Below.refl _ _⟩
  · have hW : W64 = 18446744073709551616 := rfl
    have b1 : c * c ≤ 1073741824 * 1073741824 := Nat.mul_le_mul hc2 hc2
    have b2 : c * c * c ≤ 1073741824 * 1073741824 * 1073741824 := Nat.mul_le_mul b1 hc2
    have b3 : t * t ≤ 1073741824 * 1073741824 := Nat.mul_le_mul ht2 ht2
    have b4 : t * t * t ≤ 1073741824 * 1073741824 * 1073741824 := Nat.mul_le_mul b3 ht2
    have p3 : 1 ≤ t * t * t := Nat.mul_pos (Nat.mul_pos ht ht) ht
    have hb : badN c t = min (c * c * c * 100 / (t * t * t)) 10000 := if_neg h0
    rw [hb]
    refine bad_walk c t (min (c * c * c * 100 / (t * t * t)) 10000) (t * t * t / W64) (t * t * t % W64) (c * c * c * 100 / W64) (c * c * c * 100 % W64) (wide (t * t)) (wide (c * c)) (wide (c * c * c)) (fun m => wide (t * t * t * m)) (by omega) hc2 ht ht2 (Nat.min_le_right _ _) ?_ ?_ ?_ ?_ ?_ ?_ ?_ w
    · intro W; rw [← wide_small (t := t) (by omega)]; exact times_any t t (by omega) (by rw [hW]; omega) W
    · intro W; exact times_any (t * t) t (by omega) (by rw [hW]; omega) W
    · intro W; rw [← wide_small (t := c) (by omega)]; exact times_any c c (by omega) (by rw [hW]; omega) W
    · intro W; exact times_any (c * c) c (by omega) (by rw [hW]; omega) W
    · intro W; exact times_any (c * c * c) 100 (by omega) (by rw [hW]; omega) W
    · intro m W hm
      have b5 : t * t * t * m ≤ 1073741824 * 1073741824 * 1073741824 * 10001 := Nat.mul_le_mul b4 hm
      exact times_any (t * t * t) m (by omega) (by rw [hW]; omega) W
    · intro m W hm
      refine above_any (t * t * t * m) (c * c * c * 100) _ ?_ W
      rw [Bool.eq_iff_iff, decide_eq_true_iff, decide_eq_true_iff]
      have hdiv : c * c * c * 100 / (t * t * t) < m ↔ c * c * c * 100 < m * (t * t * t) := Nat.div_lt_iff_lt_mul p3
      rw [Nat.mul_comm m] at hdiv
      rw [← hdiv]
      omega
end Go.Proofs.Ytpfjeldpckmdoaa
