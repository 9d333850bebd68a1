import Derived.Test.YtpfjeldpckmdoaaF1
set_option linter.unusedVariables false
set_option linter.unusedSimpArgs false
namespace Go.Proofs.Ytpfjeldpckmdoaa
open Go.RowKit
set_option maxHeartbeats 8000000 in
set_option maxRecDepth 100000 in
theorem newsums_none (A1 A2 A3 : Option Addr) (c1 c2 c3 : Nat) (p : PP) (w : World) (h : PIn w w.heap.size A1 A2 A3 p) (hv : Val p) (hz : ¬ 0 < p.notes.length) :
    Calls Try.prog 19 #[.agg #[.slice A1 p.lines.length c1, .slice A2 p.notes.length c2, .slice A3 p.pens.length c3, .int .i64 p.hh, .int .i64 p.gap]] w fun e w' => ∃ S, e = .returned (.pointer (some ⟨S, 0, none⟩)) ∧ Sums w' S p ∧ Below w.heap.size w w' := by
  have hl2 := hv.l2
  have hn0 : p.n = 0 := by omega
  have hn : p.notes.length = 0 := by omega
  have hn1 : p.lines.length = 0 := hn0
  have hnb : p.nb = 0 := by
    have : p.notes = [] := List.eq_nil_of_length_eq_zero hn
    simp [PP.nb, this]
  have hp0 : p.pens.length = 0 := by rw [hv.l3, hn0]
  rw [hn, hn1, hp0]
  have hfin : ∀ W1 : World, W1 = ((w.alloc (.cells #[.slice A1 0 c1, .slice A2 0 c2, .slice A3 0 c3, .int .i64 p.hh, .int .i64 p.gap] 25)).alloc (.cells #[.int .i64 0] 3)).alloc (.cells #[.slice A1 0 c1, .slice A2 0 c2, .slice A3 0 c3, .int .i64 p.hh, .int .i64 p.gap, .slice (some ⟨w.heap.size + 1, 0, none⟩) 1 1, .slice none 0 0] 63) →
      Sums W1 (w.heap.size + 1 + 1) p ∧ Below w.heap.size w W1 := by
    rintro W1 rfl
    refine ⟨⟨A1, A2, A3, c1, c2, c3, none, 0, w.heap.size + 1, 1, ?_⟩, (((Below.refl _ w).alloc (Nat.le_refl _) _).alloc (by simp) _).alloc (by simp; omega) _⟩
    have hS : ∀ (j : Nat), ((((w.alloc (.cells #[.slice A1 0 c1, .slice A2 0 c2, .slice A3 0 c3, .int .i64 p.hh, .int .i64 p.gap] 25)).alloc (.cells #[.int .i64 0] 3)).alloc (.cells #[.slice A1 0 c1, .slice A2 0 c2, .slice A3 0 c3, .int .i64 p.hh, .int .i64 p.gap, .slice (some ⟨w.heap.size + 1, 0, none⟩) 1 1, .slice none 0 0] 63)).cell? ⟨w.heap.size + 1 + 1, j, none⟩) = (#[.slice A1 0 c1, .slice A2 0 c2, .slice A3 0 c3, .int .i64 p.hh, .int .i64 p.gap, .slice (some ⟨w.heap.size + 1, 0, none⟩) 1 1, .slice none 0 0] : Array Value)[j]? := fun j => by
      have := World.cell?_alloc_new ((w.alloc (.cells #[.slice A1 0 c1, .slice A2 0 c2, .slice A3 0 c3, .int .i64 p.hh, .int .i64 p.gap] 25)).alloc (.cells #[.int .i64 0] 3)) #[.slice A1 0 c1, .slice A2 0 c2, .slice A3 0 c3, .int .i64 p.hh, .int .i64 p.gap, .slice (some ⟨w.heap.size + 1, 0, none⟩) 1 1, .slice none 0 0] 63 j
      simpa using this
    refine ⟨by simp, by rw [hS, hn1]; rfl, by rw [hS, hn]; rfl, by rw [hS, hp0]; rfl, by rw [hS]; rfl, by rw [hS]; rfl, by rw [hS, hn0]; rfl, by rw [hS, hnb]; rfl, fun h0 => by omega, by simp, fun j hj => ?_, fun b hb => by omega⟩
    obtain rfl : j = 0 := by omega
    have e1 := ((Below.refl ((w.alloc (.cells #[.slice A1 0 c1, .slice A2 0 c2, .slice A3 0 c3, .int .i64 p.hh, .int .i64 p.gap] 25)).alloc (.cells #[.int .i64 0] 3)).heap.size _).alloc (Nat.le_refl _) (.cells #[.slice A1 0 c1, .slice A2 0 c2, .slice A3 0 c3, .int .i64 p.hh, .int .i64 p.gap, .slice (some ⟨w.heap.size + 1, 0, none⟩) 1 1, .slice none 0 0] 63)).cell (p := ⟨w.heap.size + 1, 0, none⟩) (by simp)
    rw [e1]
    have := World.cell?_alloc_new (w.alloc (.cells #[.slice A1 0 c1, .slice A2 0 c2, .slice A3 0 c3, .int .i64 p.hh, .int .i64 p.gap] 25)) #[.int .i64 0] 3 0
    simp [pre]
  replace hfin := Lib.hid hfin
  clear h hv hl2 hn0 hn hn1 hnb hp0 hz
  go_enter Try.func19, Try.ntmps19
  go_wp2_with fail
  go_loopg [31] 0 (fun gg s31 wr => gg = 0 ∧ s31 = .int .i64 0 ∧ (Sums wr (w.heap.size + 1 + 1) p ∧ Below w.heap.size w wr) ∧ wr.cell? ⟨w.heap.size, 0, none⟩ = some (.slice A1 0 c1))
  case atStart =>
    go_light
    refine ⟨rfl, rfl, hfin.out _ rfl, ?_⟩
    have e1 := ((Below.refl (w.alloc (.cells #[.slice A1 0 c1, .slice A2 0 c2, .slice A3 0 c3, .int .i64 p.hh, .int .i64 p.gap] 25)).heap.size _).alloc (Nat.le_refl _) (.cells #[.int .i64 0] 3)).alloc (by simp) (.cells #[.slice A1 0 c1, .slice A2 0 c2, .slice A3 0 c3, .int .i64 p.hh, .int .i64 p.gap, .slice (some ⟨w.heap.size + 1, 0, none⟩) 1 1, .slice none 0 0] 63)
    rw [e1.cell (p := ⟨w.heap.size, 0, none⟩) (by simp), World.cell?_alloc_new]
    rfl
  case round =>
    obtain ⟨rfl, rfl, hk, x0⟩ := hrel
    replace hk := Lib.hid hk
    go_wp2_with fail
    go_loopg [45] 0 (fun gg s45 wr => gg = 0 ∧ s45 = .int .i64 0 ∧ (Sums wr (w.heap.size + 1 + 1) p ∧ Below w.heap.size w wr))
    case atStart =>
      go_light
      exact ⟨rfl, rfl, hk.out⟩
    case round =>
      clear hk
      obtain ⟨rfl, rfl, hk⟩ := hrel
      replace hk := Lib.hid hk
      go_wp2_with fail
      go_ret
      go_light
      exact ⟨_, rfl, hk.out⟩
end Go.Proofs.Ytpfjeldpckmdoaa
