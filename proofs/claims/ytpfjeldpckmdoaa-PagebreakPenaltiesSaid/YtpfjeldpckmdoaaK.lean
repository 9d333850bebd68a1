import Derived.Test.YtpfjeldpckmdoaaK2
set_option linter.unusedVariables false
set_option linter.unusedSimpArgs false
namespace Go.Proofs.Ytpfjeldpckmdoaa
open Go.RowKit Go.Shelf
attribute [local go_sem] Oper.semAt_some
/-- the page ends that are found -/
def ends (p : PP) : List Int := (brk p).map fun (t : Nat) => (t : Int)
theorem intsV_own {W : World} {base : Nat} {v : Value} {L : List Nat} (h : W.ownsRow base 3 1 v L.length (nums L)) : IntsV W W.heap.size v (L.map fun (t : Nat) => (t : Int)) := by
  rcases own_forms h with ⟨rfl, h0, _⟩ | ⟨g, cap, rfl, hg1, hg2, hcap⟩
  · exact ⟨none, 0, by rw [List.length_map, h0], fun hn => absurd hn (by rw [List.length_map]; omega)⟩
  · refine ⟨_, cap, by rw [List.length_map], fun _ => ⟨g, 0, rfl, hg2, fun j hj => ?_⟩⟩
    rw [List.length_map] at hj
    rw [Nat.zero_add, (own_has h).cell (i := j) (by omega)]
    simp [nums, List.getD_eq_getElem?_getD, List.getElem?_eq_getElem hj]
def BrkPost (p : PP) (w : World) (e : Ending) (w' : World) : Prop :=
  Below w.heap.size w w' ∧ ((0 ≤ ptl p 0 ∧ ∃ v, e = .returned (.tuple #[v, .int .i64 (ptl p 0), .int .i64 0]) ∧ IntsV w' w'.heap.size v (ends p)) ∨ (ptl p 0 < 0 ∧ e = .returned (.tuple #[.slice none 0 0, .int .i64 0, .int .i64 23])))
theorem brk_done {p : PP} {w W5 W : World} {B8 : Nat} {L : List Nat} {v : Value} {ds : List Nat} (h : PB W5 W B8 p.n L v ds) (hL : brk p = L) (h0 : 0 ≤ ptl p 0) (hw : Below w.heap.size w W5) {tmps : Array Value} (ht : (results Try.f10 tmps).run Try.prog = fun W => .ok (.tuple #[v, .int .i64 (ptl p 0), .int .i64 0]) W) :
    LeavesInM Fence.wide 5 Try.prog Try.f10 tmps (BrkPost p w) (ds.map mark) .returning W := by
  refine leaves_marks (B := W5.heap.size) (fun W => W.ownsRow W5.heap.size 3 1 v L.length (nums L) ∧ Below w.heap.size w W) (fun W D hW hB hD => ⟨?_, ?_⟩) (fun W hW => ?_) ds W h.mks ⟨h.row, hw.trans (h.bel.mono hw.size)⟩
  · exact hW.1.kept (grownBy_putObj' W D _) (.inr (Ne.symm (mark_row hW.1 hD)))
  · exact hW.2.trans ⟨rfl, rfl, rfl, by simp, fun k hk => World.putObj_heap_other (by have := hw.size; omega)⟩
  · refine ⟨_, congrFun ht W, hW.2, .inl ⟨h0, v, rfl, ?_⟩⟩
    rw [ends, hL]
    exact intsV_own hW.1
set_option maxRecDepth 100000 in
set_option maxHeartbeats 8000000 in
theorem break_any (A1 A2 A3 : Option Addr) (c1 c2 c3 : Nat) (p : PP) (w : World) (h : PIn w w.heap.size A1 A2 A3 p) (hs : Small p) (hv : Val p) (hn : p.n ≤ 10) :
    Calls Try.prog 10 #[.agg #[.slice A1 p.lines.length c1, .slice A2 p.notes.length c2, .slice A3 p.pens.length c3, .int .i64 p.hh, .int .i64 p.gap]] w (BrkPost p w) := by
  refine (callsIn_wide (n := 5)).1 ?_
  have h1 : 1 ≤ 5 := by omega
  have hB1 : Below w.heap.size w (w.alloc (.cells #[.slice A1 p.lines.length c1, .slice A2 p.notes.length c2, .slice A3 p.pens.length c3, .int .i64 p.hh, .int .i64 p.gap] 25)) := (Below.refl _ _).alloc (Nat.le_refl _) _
  have hX := Lib.hid (Box.new (c1 := c1) (c2 := c2) (c3 := c3) h)
  replace hv := Lib.hid hv
  replace hs := Lib.hid hs
  clear h
  refine callsIn_of_wp_marks Try.func10 rfl trivial ?_ rfl
  simp only [Try.ntmps10, List.size_toArray, List.length_cons, List.length_nil, Nat.reduceAdd, Nat.reduceSub, Array.replicate_succ, Array.replicate_zero, List.push_toArray, List.append_toArray, List.nil_append, List.cons_append]
  gi_wp2
  obtain ⟨W1, hW1⟩ : ∃ W, w.alloc (.cells #[.slice A1 p.lines.length c1, .slice A2 p.notes.length c2, .slice A3 p.pens.length c3, .int .i64 p.hh, .int .i64 p.gap] 25) = W := ⟨_, rfl⟩
  obtain ⟨g, hg⟩ : ∃ g, w.heap.size = g := ⟨_, rfl⟩
  rw [hW1] at hB1
  rw [hW1, hg] at hX
  rw [hW1]
  simp only [hg]
  replace hB1 := Lib.hid hB1
  clear hW1
  refine ⟨trivial, ?_⟩
  refine (callsIn_wide.2 (check_any A1 A2 A3 c1 c2 c3 p _ hX.out.pin hs.out)).mono ?_
  rintro e w2 ⟨⟨c, rfl, hc⟩, hB2⟩
  obtain rfl : c = 0 := hc.2 hv.out
  clear hc
  have hX2 := Lib.hid (hX.out.next hB2)
  have hY2 := Lib.hid (hB1.out.trans (hB2.mono hB1.out.size))
  clear hB2 hX hB1
  obtain ⟨lt, x0, x1, x2, x3, x4, pin⟩ := hX2.out
  replace pin := Lib.hid pin
  gi_wp2
  refine ⟨trivial, ?_⟩
  refine (callsIn_wide.2 (newsums_any A1 A2 A3 c1 c2 c3 p _ pin.out hv.out hn)).mono ?_
  rintro e w3 ⟨S, rfl, hS3, hB3⟩
  have hX3 := Lib.hid (hX2.out.next hB3)
  have hY3 := Lib.hid (hY2.out.trans (hB3.mono hY2.out.size))
  clear hB3 hX2 hY2 x0 x1 x2 x3 x4 pin lt
  replace hS3 := Lib.hid hS3
  gi_wp2
  refine ⟨trivial, ?_⟩
  refine (callsIn_wide.2 (potentials_any p S _ hS3.out hv.out hn)).mono ?_
  rintro e w4 ⟨ga, ca, rfl, hP4, hB4⟩
  have hX4 := Lib.hid (hX3.out.next hB4)
  have hY4 := Lib.hid (hY3.out.trans (hB4.mono hY3.out.size))
  have hS4 := Lib.hid (hS3.out.next hB4)
  have hA4 : Below w4.heap.size w4 (w4.alloc (.cells #[.slice (some ⟨ga, 0, none⟩) (p.n + 1) ca] 22)) := (Below.refl _ _).alloc (Nat.le_refl _) _
  have hb4 := Boxed.new w4 22 (.slice (some ⟨ga, 0, none⟩) (p.n + 1) ca)
  have hP5 := hP4.alloc (.cells #[.slice (some ⟨ga, 0, none⟩) (p.n + 1) ca] 22)
  have y0 := hP5.cell (i := 0) (by omega)
  have hgl := hP4.lt
  have H5 := Lib.hid (And.intro (hX4.out.next hA4) (And.intro (hY4.out.trans (hA4.mono hY4.out.size)) (And.intro (hS4.out.next hA4) (And.intro hb4 hP5))))
  clear hB4 hX3 hY3 hS3 hX4 hY4 hS4 hA4 hb4 hP5 hP4
  have hpb := ptl_bd hv.out 0
  have hq0 : (ptl p 0 < 0 ∧ decide (ptl p 0 < 0) = true) ∨ (0 ≤ ptl p 0 ∧ decide (ptl p 0 < 0) = false) := by
    by_cases e : ptl p 0 < 0
    · exact .inl ⟨e, by simpa using e⟩
    · exact .inr ⟨by omega, by simpa using e⟩
  rcases hq0 with ⟨hq, hd⟩ | ⟨hq, hd⟩
  · have HF := Lib.hid (And.intro hq H5.out.2.1)
    clear hq
    gi_wp2
    show LeavesInM Fence.wide 5 Try.prog Try.f10 _ (BrkPost p w) [] .returning _
    exact ⟨_, by simp [results, Try.f10, go_sem], HF.out.2, .inr ⟨HF.out.1, rfl⟩⟩
  · have HF := Lib.hid hq
    have hz5 : w4.heap.size + 1 = (w4.alloc (.cells #[.slice (some ⟨ga, 0, none⟩) (p.n + 1) ca] 22)).heap.size := by simp
    replace hz5 := Lib.hid hz5
    clear hq
    gi_wp2
    obtain ⟨W5, hW5⟩ : ∃ W, w4.alloc (.cells #[.slice (some ⟨ga, 0, none⟩) (p.n + 1) ca] 22) = W := ⟨_, rfl⟩
    obtain ⟨Bl, hBl⟩ : ∃ B, w4.heap.size = B := ⟨_, rfl⟩
    rw [hW5, hBl] at hz5
    rw [hW5] at H5
    rw [hBl] at H5
    rw [hW5]
    simp only [hBl]
    have hz := hz5.out
    simp only [hz]
    obtain ⟨hX5, hY5, hS5, hb5, hP5⟩ := H5.out
    obtain ⟨q0, hq0⟩ : ∃ q, ptl p 0 = q := ⟨_, rfl⟩
    rw [hq0] at y0 hpb hd ⊢
    have hpl : p.lines.length = p.n := rfl
    have hx0 := hX5.x0
    rw [hpl] at hx0
    have hpb0 : PB W5 ((W5.alloc (.cells #[.slice none 0 0] 22)).alloc (.cells #[.int .i64 0] 3)) (W5.heap.size + 1) 0 [] (.slice none 0 0) [] := by
      refine ⟨((Below.refl _ W5).alloc (Nat.le_refl _) _).alloc (by simp) _, (Boxed.new W5 22 _).alloc _, ?_, World.ownsRow_nil _ _ _ _, by simp [Value.ownBlock], by omega, Marks.nil _ _⟩
      have := Boxed.new (W5.alloc (.cells #[.slice none 0 0] 22)) 3 (.int .i64 0)
      rw [World.size_alloc] at this
      exact this
    replace hpb0 := Lib.hid hpb0
    have HH := Lib.hid (And.intro hq0 (And.intro hY5 (And.intro hb5 hP5)))
    clear hq0 hW5 hBl hz5
    refine wpIn_loop_gk (BI (.agg #[.slice A1 p.lines.length c1, .slice A2 p.notes.length c2, .slice A3 p.pens.length c3, .int .i64 p.hh, .int .i64 p.gap]) p S g Bl ga ca c1 A1 q0 W5) p.n ?_ (fun k a W hI K hK => brk_round (.agg #[.slice A1 p.lines.length c1, .slice A2 p.notes.length c2, .slice A3 p.pens.length c3, .int .i64 p.hh, .int .i64 p.gap]) p S g Bl ga ca c1 A1 q0 W5 hx0 hX5.lt hb5 hP5 hS5 hv.out hn _ ?_ k a W hI K hK)
    · exact ⟨0, W5.heap.size + 1, [], _, [], p.n, _, _, _, _, _, _, _, _, _, rfl, Nat.zero_le _, rfl, by omega, by rw [HH.out.1] at HF ⊢; exact HF.out, Nat.le_refl _, hpb0.out, rfl⟩
    · intro B8 L v ds u22 u23 u24 u25 u26 u27 u28 u29 u55 W hL hr
      have hob := hr.ob.cell
      have hbl := (hr.bel.cell (p := ⟨Bl, 0, none⟩) HH.out.2.2.1.lt).trans HH.out.2.2.1.cell
      have hy0 := (hr.bel.cell (p := ⟨ga, 0, none⟩) HH.out.2.2.2.lt).trans (HH.out.2.2.2.cell (i := 0) (by omega))
      rw [HH.out.1] at hy0
      have hd2 := Lib.hid (fun q tmps ht => brk_done (hr.drewN q) hL (by rw [HH.out.1] at HF ⊢; exact HF.out) HH.out.2.1 (tmps := tmps) ht)
      rw [HH.out.1] at hd2
      clear hr hL hpb0 y0 hd hx0 hX5 hS5 hb5 hP5 hY5
      gi_wp2
      gi_quiet (fail)
      gi_wp2
      refine hd2.out _ _ ?_
      funext W
      simp [results, Try.f10, go_sem]
end Go.Proofs.Ytpfjeldpckmdoaa
