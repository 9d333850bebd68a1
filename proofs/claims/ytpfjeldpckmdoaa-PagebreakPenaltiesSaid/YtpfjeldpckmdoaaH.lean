import Derived.Test.YtpfjeldpckmdoaaF2
import Derived.Test.YtpfjeldpckmdoaaF3
set_option linter.unusedVariables false
set_option linter.unusedSimpArgs false
namespace Go.Proofs.Ytpfjeldpckmdoaa
open Go.RowKit
theorem newsums_any (A1 A2 A3 : Option Addr) (c1 c2 c3 : Nat) (p : PP) (w : World) (h : PIn w w.heap.size A1 A2 A3 p) (hv : Val p) (hn : p.n ≤ 10) :
    Calls Try.prog 19 #[.agg #[.slice A1 p.lines.length c1, .slice A2 p.notes.length c2, .slice A3 p.pens.length c3, .int .i64 p.hh, .int .i64 p.gap]] w fun e w' => ∃ S, e = .returned (.pointer (some ⟨S, 0, none⟩)) ∧ Sums w' S p ∧ Below w.heap.size w w' := by
  by_cases hz : 0 < p.notes.length
  · exact newsums_some A1 A2 A3 c1 c2 c3 p w h hv hn hz
  · exact newsums_none A1 A2 A3 c1 c2 c3 p w h hv hz
set_option maxHeartbeats 8000000 in
set_option maxRecDepth 100000 in
theorem height_any (p : PP) (S i j : Nat) (w : World) (h : Sums w S p) (hv : Val p) (hn : p.n ≤ 10) (hij : i ≤ j) (hj : j ≤ p.n) :
    Calls Try.prog 20 #[.pointer (some ⟨S, 0, none⟩), .int .i64 i, .int .i64 j] w fun e w' => e = .returned (.int .i64 (hgt p i j)) ∧ Below w.heap.size w w' := by
  obtain ⟨A1, A2, A3, c1, c2, c3, Ab, cb, rl, cl, h⟩ := h
  have hb16 := hv.nb16
  have x4 := h.x4
  have x5 := h.x5
  have x6 := h.x6
  have l1 := h.lin i (by omega)
  have l2 := h.lin j hj
  have e1 := pre_bd (f := p.ln) (j := j) (fun k hk => hv.lr k (by omega))
  have e2 := pre_bd (f := p.ln) (j := i) (fun k hk => hv.lr k (by omega))
  have hU0 : hgU p i j 0 = pre p.ln j - pre p.ln i := rfl
  have hg := hv.gr
  unfold rng at hg
  have hblk := Lib.hid h.blk
  have HV := Lib.hid hv
  obtain ⟨a, ha⟩ : ∃ a, pre p.ln i = a := ⟨_, rfl⟩
  obtain ⟨b, hb⟩ : ∃ a, pre p.ln j = a := ⟨_, rfl⟩
  rw [ha] at l1 e2 hU0
  rw [hb] at l2 e1 hU0
  have hw1 : IntKind.i64.wrap (b - a) = b - a := by rw [IntKind.wrap_i64]; omega
  have hi0 : (0 : Int) ≤ (i : Int) := by omega
  have hj0 : (0 : Int) ≤ (j : Int) := by omega
  have hi1 : (i : Int) < (p.n : Int) + 1 := by omega
  have hj1 : (j : Int) < (p.n : Int) + 1 := by omega
  have HU0 := Lib.hid hU0
  clear ha hb h hU0 hv
  go_enter Try.func20, Try.ntmps20
  go_wp2_with fail
  go_quiet (fail)
  go_wp2_with fail
  go_loopg [31, 7] p.nb (fun gg s31 s7 wr => ∃ m : Nat, m ≤ p.nb ∧ gg = p.nb - m ∧ s31 = .int .i64 m ∧ s7 = .int .i64 (hgU p i j m) ∧ ∃ q, wr = w.drewN q)
  case atStart => exact ⟨0, by omega, by omega, rfl, by rw [HU0.out], _, rfl⟩
  case round =>
    obtain ⟨m, hm, hgg, rfl, rfl, q, rfl⟩ := hrel
    by_cases hlt : m < p.nb
    · have hmz : (m : Int) < (p.nb : Int) := by omega
      obtain ⟨gb, r, c, rfl, hgb, hr, t1, hc⟩ := hblk.out m hlt
      have m1 := hc i (by omega)
      have m2 := hc j hj
      have b1 := pre_bd (f := p.nt m) (j := j) (fun k hk => HV.out.nr k m (by omega) hlt)
      have b2 := pre_bd (f := p.nt m) (j := i) (fun k hk => HV.out.nr k m (by omega) hlt)
      have hU := hgU_top HV.out hn hij hj (b := m) (by omega)
      have hown : own p i j m = pre (p.nt m) j - pre (p.nt m) i := rfl
      have hs : hgU p i j (m + 1) = hgU p i j m + if 0 < own p i j m then own p i j m + p.gap else 0 := rfl
      obtain ⟨u, hu⟩ : ∃ a, pre (p.nt m) i = a := ⟨_, rfl⟩
      obtain ⟨v, hv⟩ : ∃ a, pre (p.nt m) j = a := ⟨_, rfl⟩
      obtain ⟨n0, hn0⟩ : ∃ a, hgU p i j m = a := ⟨_, rfl⟩
      rw [hu] at m1 b2 hown
      rw [hv] at m2 b1 hown
      rw [hn0] at hU hs
      rw [hown] at hs
      rw [hn0]
      have hw2 : IntKind.i64.wrap (v - u) = v - u := by rw [IntKind.wrap_i64]; omega
      have hw3 : IntKind.i64.wrap (v - u + p.gap) = v - u + p.gap := by rw [IntKind.wrap_i64]; omega
      have hw4 : IntKind.i64.wrap (n0 + (v - u + p.gap)) = n0 + (v - u + p.gap) := by rw [IntKind.wrap_i64]; omega
      by_cases ho : 0 < v - u
      · rw [if_pos ho] at hs
        have hd : decide (0 < v - u) = true := by simpa using ho
        have HS := Lib.hid hs
        clear hs hown hu hv hn0 hc
        go_wp2_with fail
        go_quiet (fail)
        go_wp2_with fail
        go_roundg (p.nb - (m + 1))
        case measure => go_light; omega
        case rel =>
          go_light
          exact ⟨m + 1, by omega, by omega, by go_num, by rw [HS.out], _, rfl⟩
      · rw [if_neg ho] at hs
        have hd : decide (0 < v - u) = false := by simpa using ho
        have HS := Lib.hid hs
        clear hs hown hu hv hn0 hc
        go_wp2_with fail
        go_quiet (fail)
        go_wp2_with fail
        go_roundg (p.nb - (m + 1))
        case measure => go_light; omega
        case rel =>
          go_light
          exact ⟨m + 1, by omega, by omega, by go_num, by rw [HS.out]; simp, _, rfl⟩
    · have hm' : m = p.nb := by omega
      subst hm'
      go_wp2_with fail
      go_ret
      exact ⟨rfl, drewN_below (Below.refl _ _) _⟩
end Go.Proofs.Ytpfjeldpckmdoaa
