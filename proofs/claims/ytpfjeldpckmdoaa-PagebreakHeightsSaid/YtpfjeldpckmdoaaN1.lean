import Derived.Test.YtpfjeldpckmdoaaR
import Derived.Test.YtpfjeldpckmdoaaT
set_option linter.unusedVariables false
set_option linter.unusedSimpArgs false
namespace Go.Proofs.Ytpfjeldpckmdoaa
open Go.RowKit
/-- how many blocks have notes -/
def cntU (p : PP) (i j : Nat) : Nat → Int
  | 0 => 0
  | b + 1 => cntU p i j b + if 0 < own p i j b then 1 else 0
theorem cntU_bd (p : PP) (i j : Nat) : ∀ b, 0 ≤ cntU p i j b ∧ cntU p i j b ≤ b
  | 0 => by simp [cntU]
  | b + 1 => by
    have := cntU_bd p i j b
    rw [cntU]
    split <;> omega
/-- the lines and the notes of the first blocks -/
def wantU (p : PP) (i j : Nat) : Nat → Int
  | 0 => pre p.ln j - pre p.ln i
  | b + 1 => wantU p i j b + own p i j b
theorem wantU_bd {p : PP} (h : Val p) {i j : Nat} (hij : i ≤ j) (hj : j ≤ p.n) : ∀ {b : Nat}, b ≤ p.nb → 0 ≤ wantU p i j b ∧ wantU p i j b ≤ 1073741824 * j + (1073741824 * j) * b
  | 0, _ => by
    have h1 := pre_mono (f := p.ln) hij (fun k hk => (h.lr k (by omega)).1)
    have h2 := pre_bd (f := p.ln) (j := j) (fun k hk => h.lr k (by omega))
    have h3 := pre_bd (f := p.ln) (j := i) (fun k hk => h.lr k (by omega))
    simp only [wantU]; omega
  | b + 1, hb => by
    have h1 := wantU_bd h hij hj (b := b) (by omega)
    have h2 := own_bd h hij hj (b := b) (by omega)
    have e : (1073741824 * (j : Int)) * ((b + 1 : Nat) : Int) = (1073741824 * (j : Int)) * (b : Int) + (1073741824 * (j : Int)) := by
      rw [Int.natCast_add, Int.mul_add]; simp
    rw [wantU, e]
    omega
theorem wantU_top {p : PP} (h : Val p) (hn : p.n ≤ 10) {i j b : Nat} (hij : i ≤ j) (hj : j ≤ p.n) (hb : b ≤ p.nb) : 0 ≤ wantU p i j b ∧ wantU p i j b ≤ 300000000000 := by
  have h1 := wantU_bd h hij hj hb
  have h2 := h.nb16
  refine ⟨h1.1, Int.le_trans h1.2 ?_⟩
  have e : (1073741824 * (j : Int)) * (b : Int) ≤ (1073741824 * (j : Int)) * 16 := Int.mul_le_mul_of_nonneg_left (by omega) (by omega)
  omega
theorem hgU_want {p : PP} (h : Val p) {i j : Nat} (hij : i ≤ j) (hj : j ≤ p.n) : ∀ {b : Nat}, b ≤ p.nb → hgU p i j b = wantU p i j b + cntU p i j b * p.gap
  | 0, _ => by simp [hgU, wantU, cntU]
  | b + 1, hb => by
    have h1 := hgU_want h hij hj (b := b) (by omega)
    have h2 := own_bd h hij hj (b := b) (by omega)
    rw [hgU, wantU, cntU, h1, Int.add_mul]
    split
    · simp; omega
    · have : own p i j b = 0 := by omega
      rw [this]; simp
theorem hgt_want {p : PP} (h : Val p) {i j : Nat} (hij : i ≤ j) (hj : j ≤ p.n) : hgt p i j = wantU p i j p.nb + cntU p i j p.nb * p.gap := hgU_want h hij hj (Nat.le_refl _)
theorem own_self (p : PP) (i b : Nat) : own p i i b = 0 := by simp [own]
theorem hgt_self (p : PP) (i : Nat) : hgt p i i = 0 := by
  have : ∀ b, hgU p i i b = 0 := fun b => by
    induction b with
    | zero => simp [hgU]
    | succ b ih => rw [hgU, ih, own_self]; simp
  exact this _
theorem pre_pos {f : Nat → Int} {i k : Nat} : pre f (k + 1) - pre f i = pre f k - pre f i + f k := by rw [pre]; omega
set_option maxHeartbeats 8000000 in
set_option maxRecDepth 100000 in
theorem heights_walk (haw : Awake) (A1 A2 A3 : Option Addr) (c1 c2 c3 : Nat) (p : PP) (m1 m2 : Nat) (hm1 : m1 ≤ 255) (hm2 : m2 ≤ 255) (w : World) (h : PIn w w.heap.size A1 A2 A3 p) (hf : Fits p) :
    Calls Try.prog 3 #[.agg #[.slice A1 p.lines.length c1, .slice A2 p.notes.length c2, .slice A3 p.pens.length c3, .int .i64 p.hh, .int .i64 p.gap], .int .u8 m1, .int .u8 m2] w fun e w' => e = .returned (.bool true) ∧ Below w.heap.size w w' := by
  have hB1 : Below w.heap.size w (w.alloc (.cells #[.slice A1 p.lines.length c1, .slice A2 p.notes.length c2, .slice A3 p.pens.length c3, .int .i64 p.hh, .int .i64 p.gap] 25)) := (Below.refl _ _).alloc (Nat.le_refl _) _
  have hX := Lib.hid (Box.new (c1 := c1) (c2 := c2) (c3 := c3) h)
  have hpl : p.n = p.lines.length := rfl
  replace hB1 := Lib.hid hB1
  replace hpl := Lib.hid hpl
  replace haw := Lib.hid haw
  clear h
  go_enter Try.func3, Try.ntmps3
  go_wp2_with fail
  refine (fine_any A1 A2 A3 c1 c2 c3 p _ hX.out.pin hf).mono ?_
  rintro e w2 ⟨⟨r, rfl, hr⟩, hB2⟩
  have hX2 := Lib.hid (hX.out.next hB2)
  have hY2 := Lib.hid (bst hB1.out hB2)
  clear hB2 hX hB1 hf
  cases r
  · clear hr
    go_wp2_with fail
    refine (haw.out _).mono ?_
    rintro e w9 ⟨rfl, hB9⟩
    go_wp2_with fail
    go_ret
    exact ⟨rfl, bst hY2.out hB9⟩
  · obtain ⟨hn, hv⟩ := hr.1 rfl
    have hnl : p.lines.length ≤ 10 := hn
    clear hr
    obtain ⟨i, hi⟩ : ∃ i, m1 % (p.lines.length + 1) = i := ⟨_, rfl⟩
    obtain ⟨d, hd⟩ : ∃ d, m2 % (p.lines.length + 1 - i) = d := ⟨_, rfl⟩
    have hil : i < p.lines.length + 1 := by rw [← hi]; exact Nat.mod_lt _ (by omega)
    have hdl : d < p.lines.length + 1 - i := by rw [← hd]; exact Nat.mod_lt _ (by omega)
    have hiz : (m1 : Int) % ((p.lines.length : Int) + 1) = (i : Int) := by
      rw [← hi, Int.natCast_emod]
      rfl
    have hdz : (m2 : Int) % ((p.lines.length : Int) + 1 - (i : Int)) = (d : Int) := by
      rw [← hd, Int.natCast_emod]
      congr 1
      omega
    obtain ⟨j, hj⟩ : ∃ j, i + d = j := ⟨_, rfl⟩
    have hjz : (i : Int) + (d : Int) = (j : Int) := by omega
    have hij : i ≤ j := by omega
    have hjl : j ≤ p.lines.length := by omega
    have hnn : p.lines.length ≤ 10 := hn
    clear hi hd hj hdl
    replace hv := Lib.hid hv
    obtain ⟨lt, x0, x1, x2, x3, x4, pin⟩ := hX2.out
    replace pin := Lib.hid pin
    go_wp2_with fail
    simp only [hiz, hdz]
    refine (Height_any A1 A2 A3 c1 c2 c3 p _ pin.out hv.out hn i j hij hjl).mono ?_
    rintro e w3 ⟨rfl, hB3⟩
    have hX3 := Lib.hid (hX2.out.next hB3)
    have hY3 := Lib.hid (bst hY2.out hB3)
    clear hB3 hX2 hY2 x0 x1 x2 x3 x4 pin lt hiz hdz hjz
    obtain ⟨lt, x0, x1, x2, x3, x4, pin⟩ := hX3.out
    replace pin := Lib.hid pin
    have hgb := hgt_bd hv.out hij hjl
    have hgw := Lib.hid (hgt_want hv.out hij hjl)
    have hgm : j < p.lines.length → hgt p i j ≤ hgt p i (j + 1) := fun h => hgt_mono hv.out (Nat.le_refl i) hij (Nat.le_succ j) h
    replace hgm := Lib.hid hgm
    have hwt := wantU_top hv.out hn hij hjl (Nat.le_refl _)
    have hct := cntU_bd p i j p.nb
    have hnb := hv.out.nb16
    have hgp := hv.out.gr
    unfold rng at hgp
    have hij1 : (i : Int) ≤ (j : Int) := by omega
    have hjz : (j : Int) ≤ (p.lines.length : Int) := by omega
    obtain ⟨gg, hgg⟩ : ∃ g, w.heap.size = g := ⟨_, rfl⟩
    simp only [hgg] at x0 x1 x2 x3 x4 lt ⊢
    replace hgg := Lib.hid hgg
    go_wp2_with fail
    go_loopg [13, 11] (j - i) (fun g s13 s11 wr => ∃ k : Nat, i ≤ k ∧ k ≤ j ∧ g = j - k ∧ s13 = .int .i64 k ∧ s11 = .int .i64 (pre p.ln k - pre p.ln i) ∧ wr = w3)
    case atStart => exact ⟨i, by omega, by omega, rfl, rfl, by simp, rfl⟩
    case round =>
      obtain ⟨k, hk1, hk2, hg, rfl, rfl, rfl⟩ := hrel
      by_cases hlt : k < j
      · have hkz : (k : Int) < (j : Int) := by omega
        have hkz2 : (k : Int) < (p.lines.length : Int) := by omega
        have hkz0 : (0 : Int) ≤ (k : Int) := by omega
        obtain ⟨b1, o1, rfl, hb1, hc1⟩ := pin.out.i1 (by omega)
        have l0 := hc1 k (by omega)
        have hb3 := pre_bd (f := p.ln) (j := k) (fun t ht => hv.out.lr t (by have := hpl.out; omega))
        have hb4 := pre_bd (f := p.ln) (j := i) (fun t ht => hv.out.lr t (by have := hpl.out; omega))
        have hlk : p.lines.getD k 0 = p.ln k := rfl
        rw [hlk] at l0
        have hyb := hv.out.lr k (by have := hpl.out; omega)
        unfold rng at hyb
        have hps := pre_pos (f := p.ln) (i := i) (k := k)
        obtain ⟨y, hy⟩ : ∃ y, p.ln k = y := ⟨_, rfl⟩
        obtain ⟨a, ha⟩ : ∃ y, pre p.ln k - pre p.ln i = y := ⟨_, rfl⟩
        have hab : a = pre p.ln k - pre p.ln i := ha.symm
        have hal : -12000000000 ≤ a ∧ a ≤ 12000000000 := by omega
        rw [hy] at l0 hyb hps
        rw [ha] at hps
        have hw := Lib.hid hps
        simp only [ha]
        clear hc1 hb3 hb4 hy ha hab hps hlk
        have hwr : IntKind.i64.wrap (a + y) = a + y := by rw [IntKind.wrap_i64]; omega
        go_wp2_with fail
        go_roundg (j - (k + 1))
        case measure => go_light; omega
        case rel =>
          go_light
          exact ⟨k + 1, by omega, by omega, rfl, by go_num, by rw [hw.out], rfl⟩
      · have hkj : k = j := by omega
        subst hkj
        by_cases hlt2 : i < k
        · have hltz2 : (i : Int) < (k : Int) := by omega
          have hiz : (i : Int) < (p.notes.length : Int) := by have := hv.out.l2; have := hpl.out; omega
          have hnl2 : p.notes.length = p.lines.length := by have := hv.out.l2; have := hpl.out; omega
          replace hnl2 := Lib.hid hnl2
          obtain ⟨b2, o2, rfl, hb2, hc2⟩ := pin.out.i2 (by omega)
          obtain ⟨v2, r0, A', c', rfl, hIn⟩ := hc2 i (by omega)
          have hrl := hv.out.rows i (by have := hpl.out; omega)
          rw [hrl] at r0
          have hC2 := Lib.hid hc2
          clear hIn hrl hc2
          have hiz0 : (0 : Int) ≤ (i : Int) := by omega
          go_wp2_with fail
          go_loopg [70, 11, 12] p.nb (fun g s70 s11 s12 wq => ∃ m : Nat, m ≤ p.nb ∧ g = p.nb - m ∧ s70 = .int .i64 m ∧ s11 = .int .i64 (wantU p i k m) ∧ s12 = .int .i64 (cntU p i k m) ∧ wq = wr)
          case atStart => exact ⟨0, by omega, by omega, rfl, rfl, rfl, rfl⟩
          case round =>
            obtain ⟨m, hm, hg, rfl, rfl, rfl, rfl⟩ := hrel
            by_cases hlm : m < p.nb
            · have hmz : (m : Int) < (p.nb : Int) := by omega
              have hmz0 : (0 : Int) ≤ (m : Int) := by omega
              have hwm := wantU_top hv.out hn hij hjl (b := m) (by omega)
              have hcm := cntU_bd p i k m
              have hws : wantU p i k (m + 1) = wantU p i k m + own p i k m := rfl
              have hcs : cntU p i k (m + 1) = cntU p i k m + if 0 < own p i k m then 1 else 0 := rfl
              have hox : own p i k m = pre (p.nt m) k - pre (p.nt m) i := rfl
              obtain ⟨wm, hwme⟩ : ∃ x, wantU p i k m = x := ⟨_, rfl⟩
              obtain ⟨cm, hcme⟩ : ∃ x, cntU p i k m = x := ⟨_, rfl⟩
              rw [hwme] at hwm hws
              rw [hcme] at hcm hcs
              rw [hwme, hcme]
              rw [hox] at hws hcs
              have HWS := Lib.hid (And.intro hws hcs)
              clear hws hcs hox hwme hcme
              go_wp2_with fail
              go_loopg [16, 11, 15] (k - i) (fun g s16 s11 s15 wz => ∃ t : Nat, i ≤ t ∧ t ≤ k ∧ g = k - t ∧ s16 = .int .i64 t ∧ s11 = .int .i64 (wm + (pre (p.nt m) t - pre (p.nt m) i)) ∧ s15 = .bool (decide (0 < pre (p.nt m) t - pre (p.nt m) i)) ∧ wz = wr)
              case atStart => exact ⟨i, by omega, by omega, rfl, rfl, by simp, by simp, rfl⟩
              case round =>
                obtain ⟨t, ht1, ht2, hg, rfl, rfl, rfl, rfl⟩ := hrel
                have htb := pre_mono (f := p.nt m) ht1 (fun x hx => (hv.out.nr x m (by have := hpl.out; omega) hlm).1)
                have hta := pre_bd (f := p.nt m) (j := t) (fun x hx => hv.out.nr x m (by have := hpl.out; omega) hlm)
                have hti := pre_bd (f := p.nt m) (j := i) (fun x hx => hv.out.nr x m (by have := hpl.out; omega) hlm)
                by_cases hlt3 : t < k
                · have htz : (t : Int) < (k : Int) := by omega
                  have htz0 : (0 : Int) ≤ (t : Int) := by omega
                  have htz2 : (t : Int) < (p.notes.length : Int) := by have := hnl2.out; omega
                  obtain ⟨v3, s0, A3', c3', rfl, hIn3⟩ := hC2.out t (by have := hnl2.out; omega)
                  have hrl3 := hv.out.rows t (by have := hpl.out; omega)
                  obtain ⟨b3, o3, rfl, hb3, hc3⟩ := hIn3 (by omega)
                  have s1 := hc3 m (by omega)
                  rw [hrl3] at s0
                  have hyn : (p.notes.getD t []).getD m 0 = p.nt m t := rfl
                  rw [hyn] at s1
                  have hyb := hv.out.nr t m (by have := hpl.out; omega) hlm
                  unfold rng at hyb
                  have hps := pre_pos (f := p.nt m) (i := i) (k := t)
                  obtain ⟨y, hy⟩ : ∃ y, p.nt m t = y := ⟨_, rfl⟩
                  obtain ⟨a, ha⟩ : ∃ y, pre (p.nt m) t - pre (p.nt m) i = y := ⟨_, rfl⟩
                  have hal : 0 ≤ a ∧ a ≤ 12000000000 := by omega
                  rw [hy] at s1 hyb hps
                  rw [ha] at hps
                  have hw := Lib.hid hps
                  simp only [ha]
                  clear hc3 hIn3 hta hti htb hy ha hps hyn hrl3
                  have hwr : IntKind.i64.wrap (wm + a + y) = wm + a + y := by rw [IntKind.wrap_i64]; omega
                  by_cases ha0 : 0 < a
                  · have hd : decide (0 < a) = true := by simpa using ha0
                    have hd2 : decide (0 < a + y) = true := by rw [decide_eq_true_iff]; omega
                    replace hd2 := Lib.hid hd2
                    go_wp2_with fail
                    go_roundg (k - (t + 1))
                    case measure => go_light; omega
                    case rel =>
                      go_light
                      exact ⟨t + 1, by omega, by omega, rfl, by go_num, by rw [hw.out, Int.add_assoc], by rw [hw.out, hd2.out], rfl⟩
                  · have hd : decide (0 < a) = false := by simpa using ha0
                    have ha00 : a = 0 := by omega
                    subst ha00
                    have hd2 : decide (0 < 0 + y) = decide (0 < y) := by simp
                    replace hd2 := Lib.hid hd2
                    go_wp2_with fail
                    all_goals go_roundg (k - (t + 1))
                    case measure => go_light; omega
                    case rel =>
                      go_light
                      exact ⟨t + 1, by omega, by omega, rfl, by go_num, by rw [hw.out]; simp, by rw [hw.out, hd2.out], rfl⟩
                · have htk : t = k := by omega
                  subst htk
                  obtain ⟨a, ha⟩ : ∃ y, pre (p.nt m) t - pre (p.nt m) i = y := ⟨_, rfl⟩
                  have hal : 0 ≤ a ∧ a ≤ 12000000000 := by omega
                  rw [ha] at HWS
                  simp only [ha]
                  clear hta hti htb ha
                  by_cases ha0 : 0 < a
                  · have hd : decide (0 < a) = true := by simpa using ha0
                    rw [if_pos ha0] at HWS
                    go_wp2_with fail
                    go_roundg (p.nb - (m + 1))
                    case measure => go_light; omega
                    case rel =>
                      go_light
                      exact ⟨m + 1, by omega, by omega, by go_num, by rw [HWS.out.1], by rw [HWS.out.2], rfl⟩
                  · have hd : decide (0 < a) = false := by simpa using ha0
                    rw [if_neg ha0] at HWS
                    go_wp2_with fail
                    go_roundg (p.nb - (m + 1))
                    case measure => go_light; omega
                    case rel =>
                      go_light
                      exact ⟨m + 1, by omega, by omega, by go_num, by rw [HWS.out.1], by rw [HWS.out.2]; simp, rfl⟩
            · have hmn : m = p.nb := by omega
              subst hmn
              have hgp2 : 0 ≤ cntU p i k p.nb * p.gap ∧ cntU p i k p.nb * p.gap ≤ 20000000000 := by
                refine ⟨Int.mul_nonneg hct.1 hgp.1, Int.le_trans (Int.mul_le_mul hct.2 hgp.2 hgp.1 (by omega)) ?_⟩
                omega
              obtain ⟨wn, hwn⟩ : ∃ x, wantU p i k p.nb = x := ⟨_, rfl⟩
              obtain ⟨cn, hcn⟩ : ∃ x, cntU p i k p.nb = x := ⟨_, rfl⟩
              obtain ⟨Hx, hHe⟩ : ∃ x, hgt p i k = x := ⟨_, rfl⟩
              rw [hwn] at hwt hgw
              rw [hcn] at hct hgw hgp2
              rw [hHe] at hgw hgb
              rw [hwn, hcn, hHe]
              obtain ⟨G, hG⟩ : ∃ x, cn * p.gap = x := ⟨_, rfl⟩
              rw [hG] at hgw hgp2
              have hGr : IntKind.i64.wrap (cn * p.gap) = G := by rw [hG, IntKind.wrap_i64]; omega
              have hwr : IntKind.i64.wrap (wn + G) = wn + G := by rw [IntKind.wrap_i64]; omega
              have hne : (Hx != wn + G) = false := by rw [hgw.out]; simp
              replace hwn := Lib.hid hwn
              replace hcn := Lib.hid hcn
              replace hHe := hHe
              by_cases hjn : k < p.lines.length
              · have hjnz : (k : Int) < (p.lines.length : Int) := by omega
                have hH2 := Lib.hid (Height_any _ _ _ c1 c2 c3 p wr pin.out hv.out hn i (k + 1) (by omega) (by have := hpl.out; omega))
                have hge := hgm.out hjn
                obtain ⟨H2, hH2e⟩ : ∃ x, hgt p i (k + 1) = x := ⟨_, rfl⟩
                rw [hH2e] at hge hH2
                rw [hHe] at hge
                have ec : ((k + 1 : Nat) : Int) = (k : Int) + 1 := by omega
                rw [ec] at hH2
                have hged : decide (Hx ≤ H2) = true := by simpa using hge
                clear hH2e ec hge
                go_wp2_with fail
                refine hH2.out.mono ?_
                rintro e w4 ⟨rfl, hB4⟩
                have hY4 := Lib.hid (bst hY3.out hB4)
                clear hB4
                go_wp2_with fail
                refine (haw.out _).mono ?_
                rintro e w9 ⟨rfl, hB9⟩
                go_wp2_with fail
                go_ret
                go_light
                exact ⟨rfl, bst hY4.out hB9⟩
              · have hjnz : ¬ (k : Int) < (p.lines.length : Int) := by omega
                have hjnd : decide ((k : Int) < (p.lines.length : Int)) = false := by simpa using hjn
                go_wp2_with fail
                refine (haw.out _).mono ?_
                rintro e w9 ⟨rfl, hB9⟩
                go_wp2_with fail
                go_ret
                go_light
                exact ⟨rfl, bst hY3.out hB9⟩
        · have hki : k = i := by omega
          subst hki
          have hlz2 : ¬ (k : Int) < (k : Int) := by omega
          have hHs := hgt_self p k
          rw [hHs]
          by_cases hjn : k < p.lines.length
          · have hjnz : (k : Int) < (p.lines.length : Int) := by omega
            have hH2 := Lib.hid (Height_any _ _ _ c1 c2 c3 p wr pin.out hv.out hn k (k + 1) (by omega) (by have := hpl.out; omega))
            have hge := hgm.out hjn
            obtain ⟨H2, hH2e⟩ : ∃ x, hgt p k (k + 1) = x := ⟨_, rfl⟩
            rw [hH2e] at hge hH2
            rw [hgt_self] at hge
            have ec : ((k + 1 : Nat) : Int) = (k : Int) + 1 := by omega
            rw [ec] at hH2
            have hged : decide (0 ≤ H2) = true := by simpa using hge
            clear hH2e ec hge
            go_wp2_with fail
            refine hH2.out.mono ?_
            rintro e w4 ⟨rfl, hB4⟩
            have hY4 := Lib.hid (bst hY3.out hB4)
            clear hB4
            go_wp2_with fail
            refine (haw.out _).mono ?_
            rintro e w9 ⟨rfl, hB9⟩
            go_wp2_with fail
            go_ret
            go_light
            exact ⟨rfl, bst hY4.out hB9⟩
          · have hjnz : ¬ (k : Int) < (p.lines.length : Int) := by omega
            have hjnd : decide ((k : Int) < (p.lines.length : Int)) = false := by simpa using hjn
            go_wp2_with fail
            refine (haw.out _).mono ?_
            rintro e w9 ⟨rfl, hB9⟩
            go_wp2_with fail
            go_ret
            go_light
            exact ⟨rfl, bst hY3.out hB9⟩
end Go.Proofs.Ytpfjeldpckmdoaa
