import Derived.Test.YtpfjeldpckmdoaaF1
import Derived.Test.YtpfjeldpckmdoaaF0
import Derived.Deep.AppendLies
import Derived.Deep.RegionLaw
set_option linter.unusedVariables false
set_option linter.unusedSimpArgs false
namespace Go.Proofs.Ytpfjeldpckmdoaa
open Go.RowKit
theorem info22 : (Try.prog.info? 22).map (fun i => (i.zero, i.size, i.bytes)) = some (some (.slice none 0 0), 1, 24) := by kernel_rfl
theorem info3 : (Try.prog.info? 3).map (fun i => (i.zero, i.size, i.bytes)) = some (some (.int .i64 0), 1, 8) := by kernel_rfl
theorem NS.init (w : World) (A1 A2 A3 : Option Addr) (c1 c2 c3 : Nat) (p : PP) :
    NS (w.alloc (.cells #[.slice A1 p.lines.length c1, .slice A2 p.notes.length c2, .slice A3 p.pens.length c3, .int .i64 p.hh, .int .i64 p.gap] 25))
      ((((w.alloc (.cells #[.slice A1 p.lines.length c1, .slice A2 p.notes.length c2, .slice A3 p.pens.length c3, .int .i64 p.hh, .int .i64 p.gap] 25)).alloc (.cells #[.int .i64 0] 3)).alloc
        (.cells #[.slice A1 p.lines.length c1, .slice A2 p.notes.length c2, .slice A3 p.pens.length c3, .int .i64 p.hh, .int .i64 p.gap, .slice (some ⟨w.heap.size + 1, 0, none⟩) 1 1, .slice (some ⟨w.heap.size + 1 + 1 + 1, 0, none⟩) p.nb p.nb] 63)).alloc
        (.cells (madeCells #[.slice none 0 0] p.nb) 22))
      w.heap.size (w.heap.size + 1 + 1) A1 A2 A3 c1 c2 c3 p (some ⟨w.heap.size + 1 + 1 + 1, 0, none⟩) p.nb (w.heap.size + 1) 1 (w.heap.size + 1 + 1 + 1) (fun _ => 0) (fun _ => 0) 1 (fun _ => 1) 0 (fun _ => .slice none 0 0) := by
  obtain ⟨W1, hW1⟩ : ∃ W, w.alloc (.cells #[.slice A1 p.lines.length c1, .slice A2 p.notes.length c2, .slice A3 p.pens.length c3, .int .i64 p.hh, .int .i64 p.gap] 25) = W := ⟨_, rfl⟩
  have hz : W1.heap.size = w.heap.size + 1 := by rw [← hW1]; simp
  rw [hW1, ← hz]
  refine ⟨by omega, (((Below.refl _ W1).alloc (by omega) _).alloc (by simp; omega) _).alloc (by simp; omega) _, by omega, fun _ => by omega, ?_, ?_, fun _ => rfl, fun _ => ?_, fun b hb => absurd hb (Nat.not_lt_zero _), fun b hb => absurd hb (Nat.not_lt_zero _), fun b b' hb => absurd hb (Nat.not_lt_zero _), fun b hb => absurd hb (Nat.not_lt_zero _), Nat.zero_le _⟩
  · refine Has.alloc ?_ _
    have := Has.lit (W1.alloc (.cells #[.int .i64 0] 3)) #[.slice A1 p.lines.length c1, .slice A2 p.notes.length c2, .slice A3 p.pens.length c3, .int .i64 p.hh, .int .i64 p.gap, .slice (some ⟨W1.heap.size, 0, none⟩) 1 1, .slice (some ⟨W1.heap.size + 1 + 1, 0, none⟩) p.nb p.nb] 63
      (sF A1 A2 A3 c1 c2 c3 p (.slice (some ⟨W1.heap.size, 0, none⟩) 1 1) (.slice (some ⟨W1.heap.size + 1 + 1, 0, none⟩) p.nb p.nb)) (fun i hi => by
        have : i = 0 ∨ i = 1 ∨ i = 2 ∨ i = 3 ∨ i = 4 ∨ i = 5 ∨ i = 6 := by simp at hi; omega
        rcases this with rfl | rfl | rfl | rfl | rfl | rfl | rfl <;> rfl)
    simpa using this
  · refine World.ownsRow.alloc (World.ownsRow.alloc ?_ _) _
    exact ⟨rfl, .inr ⟨W1.heap.size, 1, #[.int .i64 0], rfl, by omega, heap_alloc_new _ _, Nat.le_refl _, by decide, rfl, rfl⟩⟩
  · have := Has.made ((W1.alloc (.cells #[.int .i64 0] 3)).alloc (.cells #[.slice A1 p.lines.length c1, .slice A2 p.notes.length c2, .slice A3 p.pens.length c3, .int .i64 p.hh, .int .i64 p.gap, .slice (some ⟨W1.heap.size, 0, none⟩) 1 1, .slice (some ⟨W1.heap.size + 1 + 1, 0, none⟩) p.nb p.nb] 63)) (.slice none 0 0) p.nb 22
    simpa using this
theorem NS.kk {W1 W : World} {g S : Nat} {A1 A2 A3 : Option Addr} {c1 c2 c3 : Nat} {p : PP} {Ab : Option Addr} {cb rl cl gb : Nat} {rb cc : Nat → Nat} {kl : Nat} {k k' : Nat → Nat} {m : Nat} {tf : Nat → Value}
    (h : NS W1 W g S A1 A2 A3 c1 c2 c3 p Ab cb rl cl gb rb cc kl k m tf) (e : ∀ b, b < m → k b = k' b) : NS W1 W g S A1 A2 A3 c1 c2 c3 p Ab cb rl cl gb rb cc kl k' m tf :=
  ⟨h.sz, h.bel, h.gS, h.ggb, h.obj, h.lin, h.ab, h.tab, fun b hb => by rw [← e b hb]; exact h.tfe b hb, fun b hb => by rw [← e b hb]; exact h.rows b hb, h.inj, h.ne, h.mle⟩
theorem far_cell {wr w1 : World} {o : Obj} {r : Nat} (hg : (wr.alloc o).drew.grownBy w1 (some r)) (a : Addr) (hl : a.block < wr.heap.size) (hne : a.block ≠ r) : w1.cell? a = wr.cell? a ∧ w1.frozen? a = wr.frozen? a := by
  have e : w1.heap[a.block]? = wr.heap[a.block]? := by
    rw [hg.block a.block (by show a.block < (wr.alloc o).heap.size; simp; omega) (fun e => hne (by injection e))]
    exact Below.heap_alloc _ _ _ hl
  exact ⟨World.cell?_of_block e, World.frozen?_of_block e⟩
theorem grown_drew {wr w1 : World} {row : Option Nat} (hg : wr.drew.grownBy w1 row) : wr.grownBy w1 row := ⟨hg.os, hg.tape, hg.output, hg.size, hg.block⟩
set_option maxHeartbeats 8000000 in
set_option maxRecDepth 100000 in
theorem newsums_some (A1 A2 A3 : Option Addr) (c1 c2 c3 : Nat) (p : PP) (w : World) (h : PIn w w.heap.size A1 A2 A3 p) (hv : Val p) (hn : p.n ≤ 10) (hz : 0 < p.notes.length) :
    Calls Try.prog 19 #[.agg #[.slice A1 p.lines.length c1, .slice A2 p.notes.length c2, .slice A3 p.pens.length c3, .int .i64 p.hh, .int .i64 p.gap]] w fun e w' => ∃ S, e = .returned (.pointer (some ⟨S, 0, none⟩)) ∧ Sums w' S p ∧ Below w.heap.size w w' := by
  have hB1 : Below w.heap.size w (w.alloc (.cells #[.slice A1 p.lines.length c1, .slice A2 p.notes.length c2, .slice A3 p.pens.length c3, .int .i64 p.hh, .int .i64 p.gap] 25)) := (Below.refl _ _).alloc (Nat.le_refl _) _
  have hX := Lib.hid (Box.new (c1 := c1) (c2 := c2) (c3 := c3) h)
  have hnb := hv.nb16
  have hl2 := Lib.hid hv.l2
  have hnn : p.lines.length ≤ 10 := hn
  have HV := Lib.hid hv
  have HN := Lib.hid (NS.init w A1 A2 A3 c1 c2 c3 p)
  have HI := Lib.hid (h.keep (B' := w.heap.size) hB1 (Nat.le_refl _))
  replace hB1 := Lib.hid hB1
  obtain ⟨i0, hi0, hz0, hz1, hz2⟩ := info_parts info3
  clear hn hv
  have hzz : (0 : Int) < (p.notes.length : Int) := by omega
  have hzd : decide ((0 : Int) < (p.notes.length : Int)) = true := by simpa using hzz
  obtain ⟨b, o, rfl, hb, hc⟩ := h.i2 hz
  obtain ⟨v0, d0, A0, c0, rfl, hI0⟩ := hc 0 hz
  rw [Nat.add_zero] at d0
  have hnbe : p.nb = (p.notes.getD 0 []).length := rfl
  rw [← hnbe] at d0
  have hmk := run_make_row' (P := Try.prog) 23 22 (.slice none 0 0) 24 Try.underlying23 info22 rfl .i64 .i64 p.nb (by omega) (by omega)
  have d0' : ∀ (o1 o2 o3 : Obj), (((w.alloc o1).alloc o2).alloc o3).cell? ⟨b, o, none⟩ = some (.slice A0 p.nb c0) := fun o1 o2 o3 => by
    rw [← d0]
    exact ((((Below.refl _ w).alloc (Nat.le_refl _) o1).alloc (by simp) o2).alloc (by simp; omega) o3).cell (p := ⟨b, o, none⟩) hb
  clear d0
  clear hI0 hc hnbe h
  go_enter Try.func19, Try.ntmps19
  go_wp2_with fail
  clear d0' hmk
  obtain ⟨W4, hW4⟩ : ∃ W, (((w.alloc (.cells #[.slice A1 p.lines.length c1, .slice (some ⟨b, o, none⟩) p.notes.length c2, .slice A3 p.pens.length c3, .int .i64 p.hh, .int .i64 p.gap] 25)).alloc (.cells #[.int .i64 0] 3)).alloc
        (.cells #[.slice A1 p.lines.length c1, .slice (some ⟨b, o, none⟩) p.notes.length c2, .slice A3 p.pens.length c3, .int .i64 p.hh, .int .i64 p.gap, .slice (some ⟨w.heap.size + 1, 0, none⟩) 1 1, .slice (some ⟨w.heap.size + 1 + 1 + 1, 0, none⟩) p.nb p.nb] 63)).alloc
        (.cells (madeCells #[.slice none 0 0] p.nb) 22) = W := ⟨_, rfl⟩
  obtain ⟨W1, hW1⟩ : ∃ W, w.alloc (.cells #[.slice A1 p.lines.length c1, .slice (some ⟨b, o, none⟩) p.notes.length c2, .slice A3 p.pens.length c3, .int .i64 p.hh, .int .i64 p.gap] 25) = W := ⟨_, rfl⟩
  rw [hW4] at HN ⊢
  rw [hW1] at HN HI hX hB1
  obtain ⟨gb, hgb⟩ : ∃ g, w.heap.size + 1 + 1 + 1 = g := ⟨_, rfl⟩
  obtain ⟨S, hS⟩ : ∃ g, w.heap.size + 1 + 1 = g := ⟨_, rfl⟩
  obtain ⟨rl0, hrl0⟩ : ∃ g, w.heap.size + 1 = g := ⟨_, rfl⟩
  rw [hgb, hS, hrl0] at HN
  simp only [hgb]
  simp only [hS]
  simp only [hrl0]
  obtain ⟨g, hg⟩ : ∃ g, w.heap.size = g := ⟨_, rfl⟩
  rw [hg] at HN HI hB1 hX
  have HG := Lib.hid (And.intro hW4 (And.intro hW1 hg))
  simp only [hg]
  clear hW4 hW1 hgb hS hrl0 hg hzz hzd
  go_loopg [31] p.nb (fun gg s31 wr => ∃ (m : Nat) (rb cc : Nat → Nat) (tf : Nat → Value), m ≤ p.nb ∧ gg = p.nb - m ∧ s31 = .int .i64 m ∧ NS W1 wr g S A1 (some ⟨b, o, none⟩) A3 c1 c2 c3 p (some ⟨gb, 0, none⟩) p.nb rl0 1 gb rb cc 1 (fun _ => 1) m tf)
  case atStart =>
    go_light
    exact ⟨0, _, _, _, by omega, by omega, rfl, HN.out⟩
  case round =>
    obtain ⟨m, rb, cc, tf, hm, hgg, rfl, hN⟩ := hrel
    by_cases hlt : m < p.nb
    · have hmz : (m : Int) < (p.nb : Int) := by omega
      have ht := hN.tab (by omega)
      have x6 := hN.obj.cell (i := 6) (by omega)
      simp only [sF] at x6
      have y1 := ht.cell hlt
      have y2 : ∀ o, (wr.alloc o).cell? ⟨gb, m, none⟩ = some (tf m) := fun o => (ht.alloc o).cell hlt
      have y3 : ∀ o, (wr.alloc o).frozen? ⟨gb, m, none⟩ = false := fun o => (ht.alloc o).frozen m
      have hF := Lib.hid (hN.first hlt rfl)
      clear hN ht
      go_wp2_with fail
      go_roundg (p.nb - (m + 1))
      case measure => go_light; omega
      case rel =>
        go_light
        exact ⟨m + 1, _, _, _, by omega, by omega, by go_num, hF.out⟩
    · have hm' : m = p.nb := by omega
      subst hm'
      have bx0 := (hN.bel.cell (p := ⟨g, 0, none⟩) (Nat.lt_succ_self g)).trans hX.out.x0
      replace hN := Lib.hid hN
      go_wp2_with fail
      clear bx0
      go_loopg [45] p.lines.length (fun gg s45 wr => ∃ (i : Nat) (rb cc : Nat → Nat) (tf : Nat → Value) (rl cl : Nat), i ≤ p.lines.length ∧ gg = p.lines.length - i ∧ s45 = .int .i64 i ∧ NS W1 wr g S A1 (some ⟨b, o, none⟩) A3 c1 c2 c3 p (some ⟨gb, 0, none⟩) p.nb rl cl gb rb cc (i + 1) (fun _ => i + 1) p.nb tf)
      case atStart =>
        go_light
        exact ⟨0, _, _, _, _, _, by omega, by omega, rfl, hN.out⟩
      case round =>
        clear hN
        obtain ⟨i, rb, cc, tf, rl, cl, hi, hgg, rfl, hN⟩ := hrel
        by_cases hlt : i < p.lines.length
        · have hiz : (i : Int) < (p.lines.length : Int) := by omega
          obtain ⟨b1, o1, rfl, hb1, hc1⟩ := HI.out.i1 (by omega)
          have hg1 : b1 < g := hb1
          have l0 := (hN.bel.cell (p := ⟨b1, o1 + i, none⟩) (show b1 < g + 1 by omega)).trans (hc1 i hlt)
          have x5 := hN.obj.cell (i := 5) (by omega)
          simp only [sF] at x5
          have f5 := hN.obj.frozen 5
          obtain ⟨hh1, hh2, hh3⟩ := row_has hN.lin
          have q1 := hh1.cell (i := i) (by omega)
          rw [prs_get _ (by omega)] at q1
          have hy : p.lines.getD i 0 = p.ln i := rfl
          rw [hy] at l0
          have hyb := HV.out.lr i hlt
          have hpb := pre_bd (f := p.ln) (j := i) (fun k hk => HV.out.lr k (by have : p.n = p.lines.length := rfl; omega))
          unfold rng at hyb
          have hps : pre p.ln (i + 1) = pre p.ln i + p.ln i := rfl
          obtain ⟨y, hyy⟩ : ∃ y, p.ln i = y := ⟨_, rfl⟩
          obtain ⟨a, haa⟩ : ∃ y, pre p.ln i = y := ⟨_, rfl⟩
          rw [hyy] at l0 hyb hps
          rw [haa] at q1 hpb hps
          have hwr : IntKind.i64.wrap (a + y) = a + y := by rw [IntKind.wrap_i64]; omega
          have hnr : S ≠ rl := hN.obj.ne_ hh1 (by decide)
          have hSl := hN.obj.lt
          have hH := Lib.hid (And.intro hN hps)
          clear hc1 hh1 hyy haa hps hN
          have hq0 : (0 : Int) ≤ (i : Int) := by omega
          have hq1 : (i : Int) < (i : Int) + 1 := by omega
          have hsz := Lib.hid (show g + 1 ≤ wr.heap.size by have := hH.out.1.bel.size; have := hH.out.1.sz; omega)
          go_wp2_with fail
          go_upto_region 12 with fail
          go_cut [50] (fun s50 wx => ∃ rl' cl', NS W1 wx g S (some ⟨b1, o1, none⟩) (some ⟨b, o, none⟩) A3 c1 c2 c3 p (some ⟨gb, 0, none⟩) p.nb rl' cl' gb rb cc (i + 1 + 1) (fun _ => i + 1) p.nb tf)
          case first =>
            go_region_law ((refine step_append_lies _ (by rfl) _ _ _ (by rfl) (g + 1) 3 i0 (.int .i64 0) 1 8 Try.underlying22 hi0 hz0 hz1 hz2 rfl (by omega) (.slice (some ⟨rl, 0, none⟩) (i + 1) cl) (i + 1) (prs p.ln (i + 1)) (by rfl) ((hH.out.1.lin.alloc _).drew) ⟨wr.heap.size, 0, none⟩ 1 1 [.int .i64 (a + y)] (by rfl) (by rfl) (World.news_of_block (cs := #[.int .i64 (a + y)]) (t := 3) (fr := (0, 0)) (heap_alloc_new wr _)) (by simp [Value.oneCell']) (by omega) (by unfold maxLen; omega) (by omega) (by have := hsz.out; simp; omega) (wr.heap.size + 1) (by simp) ?_; intro r' cap' w1 hown1 hgrow hat hlt1; have z5 := (far_cell hgrow ⟨S, 5, none⟩ hSl hnr).1.trans x5; have e5 := (far_cell hgrow ⟨S, 5, none⟩ hSl hnr).2.trans f5))
            all_goals go_wp2_with fail
            all_goals go_meet
            all_goals exact ⟨_, _, hH.out.1.lines _ hH.out.2.symm (grown_drew hgrow) hown1 (hat.imp (fun e => Option.some.inj e) id)⟩
          case rest =>
            clear hH x5 f5 q1 hnr hSl hsz hwr l0 hyb hpb hh2 hh3
            obtain ⟨rl', cl', hN⟩ := hcut
            have x6 := hN.obj.cell (i := 6) (by omega)
            simp only [sF] at x6
            replace hN := Lib.hid hN
            go_wp2_with fail
            clear x6
            go_loopg [73] p.nb (fun gg s73 wr => ∃ (m : Nat) (rb cc k : Nat → Nat) (tf : Nat → Value), m ≤ p.nb ∧ gg = p.nb - m ∧ s73 = .int .i64 m ∧ NS W1 wr g S (some ⟨b1, o1, none⟩) (some ⟨b, o, none⟩) A3 c1 c2 c3 p (some ⟨gb, 0, none⟩) p.nb rl' cl' gb rb cc (i + 1 + 1) k p.nb tf ∧ (∀ j, j < m → k j = i + 1 + 1) ∧ (∀ j, m ≤ j → j < p.nb → k j = i + 1))
            case atStart =>
              go_light
              exact ⟨0, _, _, _, _, by omega, by omega, rfl, hN.out, fun j hj => absurd hj (Nat.not_lt_zero _), fun j _ _ => rfl⟩
            case round =>
              clear hN
              obtain ⟨m, rb, cc, k, tf, hm, hgg', rfl, hN, hk1, hk2⟩ := hrel
              by_cases hlm : m < p.nb
              · have hmz : (m : Int) < (p.nb : Int) := by omega
                obtain ⟨b2, o2, he2, hb2, hc2⟩ := HI.out.i2 hz
                obtain ⟨rfl, rfl⟩ : b = b2 ∧ o = o2 := by simpa using he2
                have hin : i < p.notes.length := by have := hl2.out; have : p.n = p.lines.length := rfl; omega
                obtain ⟨v2, r0, A', c', rfl, hIn⟩ := hc2 i hin
                have hrl := HV.out.rows i hlt
                obtain ⟨b3, o3, rfl, hb3, hc3⟩ := hIn (by omega)
                have r1 := hc3 m (by omega)
                rw [hrl] at r0
                have ht := hN.tab (by omega)
                have t1 := ht.cell hlm
                have tfr := ht.frozen m
                have x6 := hN.obj.cell (i := 6) (by omega)
                simp only [sF] at x6
                have hkm := hk2 m (Nat.le_refl _) hlm
                have hrow := hN.rows m hlm
                have htf := hN.tfe m hlm
                rw [hkm] at hrow htf
                obtain ⟨hh1, hh2, hh3⟩ := row_has hrow
                have q1 := hh1.cell (i := i) (by omega)
                rw [prs_get _ (by omega)] at q1
                have s0 := (hN.bel.cell (p := ⟨b, o + i, none⟩) (show b < g + 1 by omega)).trans r0
                have s1 := (hN.bel.cell (p := ⟨b3, o3 + m, none⟩) (show b3 < g + 1 by omega)).trans r1
                have s2 := (hN.bel.cell (p := ⟨g, 1, none⟩) (Nat.lt_succ_self g)).trans hX.out.x1
                rw [htf] at t1
                have hyn : (p.notes.getD i []).getD m 0 = p.nt m i := rfl
                rw [hyn] at s1
                have hyb := HV.out.nr i m hlt hlm
                have hpb := pre_bd (f := p.nt m) (j := i) (fun k hk => HV.out.nr k m (by have : p.n = p.lines.length := rfl; omega) hlm)
                unfold rng at hyb
                have hps : pre (p.nt m) (i + 1) = pre (p.nt m) i + p.nt m i := rfl
                have hgr1 : gb ≠ rb m := ht.ne_ hh1 (by decide)
                have hSg : S ≠ gb := hN.obj.ne_ ht (by decide)
                have hSr : S ≠ rb m := hN.obj.ne_ hh1 (by decide)
                have hSl := hN.obj.lt
                have hGl := ht.lt
                have hgl : g < wr.heap.size := by have := hN.bel.size; have := hN.sz; omega
                have hgb0 := hN.ggb (by omega)
                have hrb0 := hh2
                have hfin := fun o r' cap' x h1 w1 h2 h3 h4 => hN.row (w1 := w1) o hlm (r' := r') (cap' := cap') (x := x) h1 h2 h3 h4
                rw [hkm] at hfin
                obtain ⟨y', hyy⟩ : ∃ y, p.nt m i = y := ⟨_, rfl⟩
                obtain ⟨a', haa⟩ : ∃ y, pre (p.nt m) i = y := ⟨_, rfl⟩
                obtain ⟨rm, hrm⟩ : ∃ r, rb m = r := ⟨_, rfl⟩
                obtain ⟨cm, hcm⟩ : ∃ r, cc m = r := ⟨_, rfl⟩
                rw [hyy] at s1 hyb hps
                rw [haa] at q1 hpb hps
                rw [hrm] at hrow t1 q1 hh3 hgr1 hSr hrb0
                rw [hcm] at hrow t1
                simp only [hrm] at hfin
                have hwr' : IntKind.i64.wrap (a' + y') = a' + y' := by rw [IntKind.wrap_i64]; omega
                have hal : ∀ (o' : Obj) (a0 : Addr), a0.block < wr.heap.size → (wr.alloc o').drew.cell? a0 = wr.cell? a0 := fun o' a0 h0 => World.cell?_of_block (w := wr) (w' := (wr.alloc o').drew) (Below.heap_alloc _ _ _ h0)
                have K1 : Hid (∀ (o' : Obj) (w1 : World), (wr.alloc o').drew.grownBy w1 (some rm) → (∀ j, j < i + 1 → w1.cell? ⟨rm, j, none⟩ = (wr.alloc o').drew.cell? ⟨rm, j, none⟩) →
                    (w1.cell? ⟨S, 6, none⟩ = some (.slice (some ⟨gb, 0, none⟩) p.nb p.nb) ∧ w1.cell? ⟨g, 1, none⟩ = some (.slice (some ⟨b, o, none⟩) p.notes.length c2) ∧ w1.cell? ⟨b, o + i, none⟩ = some (.slice (some ⟨b3, o3, none⟩) p.nb c') ∧ w1.cell? ⟨b3, o3 + m, none⟩ = some (.int .i64 y') ∧ w1.cell? ⟨rm, i, none⟩ = some (.int .i64 a'))) :=
                  Lib.hid fun o' w1 hg hj => ⟨(far_cell hg _ hSl hSr).1.trans x6, (far_cell hg _ hgl (by show g ≠ rm; omega)).1.trans s2, (far_cell hg _ (show b < _ by omega) (by show b ≠ rm; omega)).1.trans s0, (far_cell hg _ (show b3 < _ by omega) (by show b3 ≠ rm; omega)).1.trans s1, (hj i (by omega)).trans ((hal o' _ hh3).trans q1)⟩
                have K2 : Hid (∀ (w1 : World) (v : Value),
                    (w1.cell? ⟨S, 6, none⟩ = some (.slice (some ⟨gb, 0, none⟩) p.nb p.nb) ∧ w1.cell? ⟨g, 1, none⟩ = some (.slice (some ⟨b, o, none⟩) p.notes.length c2) ∧ w1.cell? ⟨b, o + i, none⟩ = some (.slice (some ⟨b3, o3, none⟩) p.nb c') ∧ w1.cell? ⟨b3, o3 + m, none⟩ = some (.int .i64 y') ∧ w1.cell? ⟨rm, i, none⟩ = some (.int .i64 a')) →
                    ((w1.setCell ⟨gb, m, none⟩ v).cell? ⟨S, 6, none⟩ = some (.slice (some ⟨gb, 0, none⟩) p.nb p.nb) ∧ (w1.setCell ⟨gb, m, none⟩ v).cell? ⟨g, 1, none⟩ = some (.slice (some ⟨b, o, none⟩) p.notes.length c2) ∧ (w1.setCell ⟨gb, m, none⟩ v).cell? ⟨b, o + i, none⟩ = some (.slice (some ⟨b3, o3, none⟩) p.nb c') ∧ (w1.setCell ⟨gb, m, none⟩ v).cell? ⟨b3, o3 + m, none⟩ = some (.int .i64 y') ∧ (w1.setCell ⟨gb, m, none⟩ v).cell? ⟨rm, i, none⟩ = some (.int .i64 a'))) :=
                  Lib.hid fun w1 v h => by
                    have hne : ∀ (a0 : Addr), a0.block ≠ gb → (w1.setCell ⟨gb, m, none⟩ v).cell? a0 = w1.cell? a0 := fun a0 h0 => World.cell?_of_block (Below.heap_setCell _ _ _ _ h0)
                    exact ⟨(hne _ hSg).trans h.1, (hne _ (by show g ≠ gb; omega)).trans h.2.1, (hne _ (by show b ≠ gb; omega)).trans h.2.2.1, (hne _ (by show b3 ≠ gb; omega)).trans h.2.2.2.1, (hne _ (Ne.symm hgr1)).trans h.2.2.2.2⟩
                have hHf := Lib.hid hfin
                have hHn := Lib.hid (And.intro hps (And.intro hrow (And.intro hk1 (And.intro hk2 (And.intro hrm hcm)))))
                have him : (i : Int) < (p.notes.length : Int) := by omega
                have hsz : g + 1 ≤ wr.heap.size := hgl
                clear hfin hps hrow hk1 hk2 hN ht hh1 hrm hcm haa hyy htf hc2 hc3 hIn hal hb2 he2 r0 r1 hyn hkm
                go_wp2_with fail
                go_region_held3 (fun w' => w'.cell? ⟨S, 6, none⟩ = some (.slice (some ⟨gb, 0, none⟩) p.nb p.nb) ∧ w'.cell? ⟨g, 1, none⟩ = some (.slice (some ⟨b, o, none⟩) p.notes.length c2) ∧ w'.cell? ⟨b, o + i, none⟩ = some (.slice (some ⟨b3, o3, none⟩) p.nb c') ∧ w'.cell? ⟨b3, o3 + m, none⟩ = some (.int .i64 y') ∧ w'.cell? ⟨rm, i, none⟩ = some (.int .i64 a'))
                  (first | exact K1.out _ _ hgrow hkp | exact K2.out _ _ (K1.out _ _ hgrow hkp) | go_keep)
                  ((refine step_append_keeps (by rfl) _ _ _ (by rfl) (g + 1) 3 i0 (.int .i64 0) 8 Try.underlying22 hi0 hz0 hz1 hz2 rfl rm cm (i + 1) (prs (p.nt m) (i + 1)) (by rfl) ((hHn.out.2.1.alloc _).drew) ⟨wr.heap.size, 0, none⟩ 1 (.int .i64 (a' + y')) (by rfl) (World.news_of_block (cs := #[.int .i64 (a' + y')]) (t := 3) (fr := (0, 0)) (heap_alloc_new wr _)) (by simp [Value.oneCell']) (by unfold maxLen; omega) (by omega) (by simp; omega) (wr.heap.size + 1) (by simp) ?_; intro r' cap' w1 hown1 hgrow hat hlt1 hkp; have z5 := (far_cell hgrow ⟨gb, m, none⟩ hGl hgr1).1.trans t1; have e5 := (far_cell hgrow ⟨gb, m, none⟩ hGl hgr1).2.trans tfr))
                all_goals
                  go_wp2_with fail
                  go_roundg (p.nb - (m + 1))
                  case measure => go_light; omega
                  case rel =>
                    go_light
                    obtain ⟨j1, j2, j3, j4, j5, j6⟩ := hHn.out
                    refine ⟨m + 1, _, _, _, _, by omega, by omega, by go_num, hHf.out _ r' cap' _ j1.symm w1 (grown_drew hgrow) hown1 hat, fun j hj => ?_, fun j hj hj2 => ?_⟩
                    · unfold upd
                      by_cases e : j = m
                      · rw [if_pos e]
                      · rw [if_neg e]; exact j3 j (by omega)
                    · unfold upd
                      rw [if_neg (by omega)]; exact j4 j (by omega) hj2
              · have hm' : m = p.nb := by omega
                subst hm'
                have hN' := Lib.hid (hN.kk (k' := fun _ => i + 1 + 1) hk1)
                clear hN hk1 hk2
                go_wp2_with fail
                go_roundg (p.lines.length - (i + 1))
                case measure => go_light; omega
                case rel =>
                  go_light
                  exact ⟨i + 1, _, _, _, _, _, by omega, by omega, by go_num, hN'.out⟩
        · have hi' : i = p.lines.length := by omega
          subst hi'
          have hbel := hN.bel
          have hs := hN.sums (fun _ _ => rfl) (HI.out.i3.keep (Below.refl _ _) (by omega))
          have HS := Lib.hid (And.intro hs ((hB1.out.trans (hbel.mono (by omega)))))
          clear hN hbel hs
          go_wp2_with fail
          go_ret
          go_light
          refine ⟨S, rfl, HS.out.1, ?_⟩
          rw [HG.out.2.2]
          exact HS.out.2
end Go.Proofs.Ytpfjeldpckmdoaa
