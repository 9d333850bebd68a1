import Derived.Test.YtnlenhhmajecjaaC
set_option linter.unusedVariables false
set_option linter.unusedSimpArgs false
namespace Go.Proofs.Ytnlenhhmajecjaa
open Go.RowKit Go.Shelf
attribute [local go_sem] Oper.semAt_some
/-- a cluster that does not begin with a character that may stand at its beginning -/
def badC (x : Nat × ByteArray) : Bool := decide (kd x.2 0 = 0) || decide (kd x.2 0 = 2)
/-- the result of `Check` -/
def chkR (s : ByteArray) : Nat := if 65536 < s.size then 4 else if (clusters s).any badC = true then 11 else 0
set_option maxRecDepth 100000 in
set_option maxHeartbeats 4000000 in
theorem check_long (s : ByteArray) (w : World) (h : 65536 < s.size) (hs : s.size ≤ 9223372036854775807) :
    Calls Try.prog 14 #[.string s] w fun e W' => e = .returned (.int .i64 (4 : Nat)) ∧ Below w.heap.size w W' := by
  have hd : decide ((65536 : Int) < (s.size : Int)) = true := by simp; omega
  go_enter Try.func14, Try.ntmps14
  go_wp2_with fail
  refine bodyPost_ret (v := .int .i64 4) (by simp [results, Try.f14, go_sem]) rfl ?_
  exact ⟨rfl, (Below.refl _ _).alloc (Nat.le_refl _) _⟩
set_option maxRecDepth 100000 in
set_option maxHeartbeats 4000000 in
theorem check_ok (s : ByteArray) (w : World) (hs : s.size ≤ 65536) :
    Calls Try.prog 14 #[.string s] w fun e W' => e = .returned (.int .i64 ((if (clusters s).any badC = true then 11 else 0 : Nat) : Int)) ∧ Below w.heap.size w W' := by
  have hd : decide ((65536 : Int) < (s.size : Int)) = false := by simp; omega
  obtain ⟨rr, hrr⟩ : ∃ r : Nat, (if (clusters s).any badC = true then 11 else 0 : Nat) = r := ⟨_, rfl⟩
  rw [hrr]
  replace hrr := Lib.hid hrr
  refine (callsIn_wide (n := 4)).1 ?_
  have h1 : 1 ≤ 4 := by omega
  refine callsIn_of_wp_marks Try.func14 rfl trivial ?_ rfl
  simp only [Try.ntmps14, List.size_toArray, List.length_cons, List.length_nil, Nat.reduceAdd, Nat.reduceSub, Array.replicate_succ, Array.replicate_zero, List.push_toArray, List.append_toArray, List.nil_append, List.cons_append]
  gi_wp2
  refine ⟨trivial, ?_⟩
  refine (clusters_in _ _ _).mono ?_
  rintro e w' ⟨rfl, rfl⟩
  gi_wp2
  have bR := Boxed.new w 25 (.int .i64 0)
  have bN := Boxed.new (w.alloc (.cells #[.int .i64 0] 25)) 9 (.string s)
  rw [World.size_alloc] at bN
  have hB0 : Below w.heap.size w ((w.alloc (.cells #[.int .i64 0] 25)).alloc (.cells #[.string s] 9)) := ((Below.refl _ w).alloc (Nat.le_refl _) _).alloc (by simp) _
  refine wpIn_rangeFunc_ownG rfl h1 (gf := 56) (lb := #[.pointer (some ⟨w.heap.size + 1, 0, none⟩)]) rfl trivial (enters_of Try.func56 (by kernel_rfl) rfl)
    (clusters_stops (4 - 1) (by omega) (w.heap.size + 1) s (by omega) _ (by simp) bN.cell) kpB_t (kpB_b (by simp)) (Below.refl _ _) (fun _ => rfl)
    (fun pre W => ((∀ x ∈ pre, badC x.1 = false) ∧ W.cell? ⟨w.heap.size, 0, none⟩ = some (.int .i64 0) ∧ W.frozen? ⟨w.heap.size, 0, none⟩ = false) ∧ Below w.heap.size w W)
    (fun c pre W => (c = .ret ∧ (∃ x ∈ pre, badC x.1 = true) ∧ W.cell? ⟨w.heap.size, 0, none⟩ = some (.int .i64 11)) ∧ Below w.heap.size w W)
    (OwnFrom.and (Own.from (fun s A B row hs hg hr => ⟨hs.1, cell_kept hs.2.1 hg hr, (frozen_kept hs.2.1 hg hr).trans hs.2.2⟩) _) (ownFrom_below (Nat.le_refl _) (by simp; omega)))
    (fun c => OwnFrom.and (Own.from (fun s A B row hs hg hr => ⟨hs.1, hs.2.1, cell_kept hs.2.2 hg hr⟩) _) (ownFrom_below (Nat.le_refl _) (by simp; omega)))
    ⟨⟨by simp, (bR.alloc _).cell, (bR.alloc _).frozen⟩, hB0⟩
    (fun x => { tmps := #[.string s, undef, .pointer (some ⟨w.heap.size, 0, none⟩), undef, .string x.1.2, undef, .string s, .int .i64 s.size, .bool false, .string s, .func (.func 56) #[] #[.pointer (some ⟨w.heap.size + 1, 0, none⟩)], .int .i64 (x.1.1 : Int), .string x.1.2, undef, undef, undef, undef, undef, undef, undef, undef, undef], defers := [] }) ?assign ?body ?done ?stop
  case assign =>
    intro l x W K hK
    unfold encC
    gi_wp2
    exact hK
  case body =>
    rintro l pre ⟨x, hx0, hx1⟩ W ⟨⟨hp, hcr, hfr⟩, hB⟩ _
    have hxi := fun W => run_index_str (P := Try.prog) 9 x.2 (0 : Int) 0 rfl hx0 (by omega) Try.underlying9 W
    have hk := fun W => kind_any _ (bat_lt x.2 0) W
    have hkd : kindN (bat x.2 0).toNat = kd x.2 0 := rfl
    rw [hkd] at hk
    have hbd : badC x = (decide (kd x.2 0 = 0) || decide (kd x.2 0 = 2)) := rfl
    obtain ⟨k, hkk⟩ : ∃ k, kd x.2 0 = k := ⟨_, rfl⟩
    rw [hkk] at hk hbd
    replace hk := Lib.hid hk
    clear hkd hkk
    gi_wp2
    refine ⟨trivial, ?_⟩
    refine (CallsIn.inRound l (callsIn_wide.2 (hk.out _))).mono ?_
    rintro e w' ⟨rfl, rfl⟩
    by_cases h0 : k = 0
    · subst h0
      gi_wp2
      exact ⟨(KeepsOthers.setCell _ _ _).from _, ⟨rfl, ⟨⟨x, hx0, hx1⟩, by simp, by rw [hbd]; simp⟩, World.cell?_setCell_same' _ _ _ (by rw [hcr]; rfl)⟩, hB.setCell (p := ⟨w.heap.size, 0, none⟩) (Nat.le_refl _) _⟩
    · have g0 : ((k : Int) == 0) = false := by simp; omega
      by_cases h2 : k = 2
      · subst h2
        gi_wp2
        exact ⟨(KeepsOthers.setCell _ _ _).from _, ⟨rfl, ⟨⟨x, hx0, hx1⟩, by simp, by rw [hbd]; simp⟩, World.cell?_setCell_same' _ _ _ (by rw [hcr]; rfl)⟩, hB.setCell (p := ⟨w.heap.size, 0, none⟩) (Nat.le_refl _) _⟩
      · have g2 : ((k : Int) == 2) = false := by simp; omega
        gi_wp2
        exact ⟨KeepsFrom.refl _ _, rfl, ⟨fun y hy => (List.mem_append.1 hy).elim (hp y) (fun e => by simp at e; subst e; rw [hbd, decide_eq_false h0, decide_eq_false h2]; rfl), hcr, hfr⟩, hB⟩
  case done =>
    rintro D ys W hD hys ⟨⟨hne, hcr, hfr⟩, hB⟩ hK
    have hr0 : rr = 0 := by
      rw [← hrr.out, if_neg]
      rw [← hys, List.any_map, Bool.not_eq_true, List.any_eq_false]
      intro y hy
      have := hne y hy
      simp [Function.comp, this]
    have hK' := (KeepsOthers.setCell W ⟨w.heap.size, 0, none⟩ (.int .i64 0)).same D _ hK rfl
    have hc5 := cell_kept (World.cell?_setCell_same' W ⟨w.heap.size, 0, none⟩ (.int .i64 0) (by rw [hcr]; rfl)) (grownBy_putObj' _ D (.deferred none)) (fun r e => by cases e; exact ⟨_, hK', rfl⟩)
    have hBB := (hB.setCell (p := ⟨w.heap.size, 0, none⟩) (Nat.le_refl _) (.int .i64 0)).trans (belowK_b (w := w) (Nat.le_refl _) _ D _ (.deferred none) (by simp at hD; omega) hK' rfl rfl)
    have hKK := Lib.hid hK'
    have HC := Lib.hid (And.intro hc5 hBB)
    clear hK' hc5 hBB
    gi_wp2
    refine ⟨by simp, .inl ⟨_, _, rfl, run_takeDeferred hKK.out, ?_⟩⟩
    refine ⟨.int .i64 0, ?_, by rw [hr0]; rfl, HC.out.2⟩
    simp [results, Try.f14, go_sem, HC.out.1]
  case stop =>
    rintro D c pre W hD hpre ⟨⟨rfl, ⟨y, hy, hbad⟩, hcr⟩, hB⟩ hK
    have hr0 : rr = 11 := by
      rw [← hrr.out, if_pos]
      refine List.any_eq_true.2 ⟨y.1, hpre.subset (List.mem_map.2 ⟨y, hy, rfl⟩), hbad⟩
    have hc5 := cell_kept hcr (grownBy_putObj' _ D (.deferred none)) (fun r e => by cases e; exact ⟨_, hK, rfl⟩)
    have hBB := hB.trans (belowK_b (w := w) (Nat.le_refl _) W D _ (.deferred none) (by simp at hD; omega) hK rfl rfl)
    gi_wp2
    refine ⟨by simp, .inl ⟨_, _, rfl, run_takeDeferred hK, ?_⟩⟩
    refine ⟨.int .i64 11, ?_, by rw [hr0]; rfl, hBB⟩
    simp [results, Try.f14, go_sem, hc5]
theorem check_any (s : ByteArray) (w : World) (hs : s.size ≤ 9223372036854775807) :
    Calls Try.prog 14 #[.string s] w fun e W' => e = .returned (.int .i64 (chkR s)) ∧ Below w.heap.size w W' := by
  by_cases h : 65536 < s.size
  · rw [chkR, if_pos h]; exact check_long s w h hs
  · rw [chkR, if_neg h]; exact check_ok s w (by omega)
end Go.Proofs.Ytnlenhhmajecjaa
