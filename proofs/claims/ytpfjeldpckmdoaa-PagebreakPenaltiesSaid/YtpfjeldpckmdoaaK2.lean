import Derived.Test.YtpfjeldpckmdoaaK1
set_option linter.unusedVariables false
set_option linter.unusedSimpArgs false
namespace Go.Proofs.Ytpfjeldpckmdoaa
open Go.RowKit Go.Shelf
attribute [local go_sem] Oper.semAt_some
/-- the frame at a round's head -/
def BI (ag : Value) (p : PP) (S g Bl ga ca c1 : Nat) (A1 : Option Addr) (q0 : Int) (W5 : World) (k : Nat) (a : Act) (W : World) : Prop :=
  ∃ (f B8 : Nat) (L : List Nat) (v : Value) (ds : List Nat) (e : Nat) (u22 u23 u24 u25 u26 u27 u28 u29 u55 : Value), k = p.n - f ∧ f ≤ p.n ∧ brk p = L ++ brkF p (ptl p) e f ∧ p.n ≤ f + e ∧ 0 ≤ ptl p f ∧ L.length ≤ f ∧ PB W5 W B8 f L v ds ∧ a = ⟨#[ag, .pointer (some ⟨g, 0, none⟩), .slice none 0 0, .int .i64 0, .int .i64 0, .pointer (some ⟨S, 0, none⟩), .pointer (some ⟨Bl, 0, none⟩), .pointer (some ⟨W5.heap.size, 0, none⟩), .pointer (some ⟨B8, 0, none⟩), undef, undef, ag, .int .i64 0, .bool false, ag, .pointer (some ⟨S, 0, none⟩), .pointer (some ⟨S, 0, none⟩), .slice (some ⟨ga, 0, none⟩) (p.n + 1) ca, .slice (some ⟨ga, 0, none⟩) (p.n + 1) ca, .pointer (some ⟨ga, 0, none⟩), .int .i64 q0, .bool false, u22, u23, u24, u25, u26, u27, u28, u29, undef, undef, undef, undef, undef, undef, undef, undef, undef, undef, undef, undef, undef, undef, undef, undef, undef, undef, undef, undef, undef, undef, undef, undef, undef, u55, undef, undef, undef, undef], ds.map mark⟩
/-- behind a page that is met -/
def BX (p : PP) (W5 : World) (B8 f : Nat) (L : List Nat) (ds : List Nat) (pre : List (Pg p f)) (W : World) : Prop :=
  ∃ (pr : List (Pg p f)) (x : Pg p f) (v : Value), pre = pr ++ [x] ∧ (∀ y ∈ pr, hit (ptl p) f y.1 = false) ∧ hit (ptl p) f x.1 = true ∧ PB W5 W B8 x.1.1 (L ++ [x.1.1]) v ds
theorem BX.own {p : PP} {W5 : World} {B8 f n0 : Nat} {L : List Nat} {ds : List Nat} (hd : ∀ d ∈ ds, d < n0) (h0 : W5.heap.size ≤ n0) : OwnFrom n0 (fun (pre : List (Pg p f)) W => BX p W5 B8 f L ds pre W) := fun s X Y row hs hg hr => by
  obtain ⟨pr, x, v, e, h1, h2, h3⟩ := hs
  exact ⟨pr, x, v, e, h1, h2, h3.kept hd h0 hg hr⟩
theorem find_split {α : Type} {q : α → Bool} {l m : List α} {x : α} (h : ∀ y ∈ l, q y = false) (hx : q x = true) : (l ++ x :: m).find? q = some x := by
  rw [List.find?_append, List.find?_eq_none.2 (fun y hy => by simp [h y hy]), List.find?_cons_of_pos hx]
  rfl
set_option maxRecDepth 100000 in
set_option maxHeartbeats 8000000 in
theorem brk_round (ag : Value) (p : PP) (S g Bl ga ca c1 : Nat) (A1 : Option Addr) (q0 : Int) (W5 : World) (hx0 : W5.cell? ⟨g, 0, none⟩ = some (.slice A1 p.n c1)) (hg : g < W5.heap.size) (hbl : Boxed W5 Bl 22 (.slice (some ⟨ga, 0, none⟩) (p.n + 1) ca)) (hga : Has W5 ga 3 (p.n + 1) (fun t => .int .i64 (ptl p t)))
    (hS : Sums W5 S p) (hv : Val p) (hn : p.n ≤ 10) (Q : Exit → Act → World → Prop)
    (hQ : ∀ (B8 : Nat) (L : List Nat) (v : Value) (ds : List Nat) (u22 u23 u24 u25 u26 u27 u28 u29 u55 : Value) (W : World), brk p = L → PB W5 W B8 p.n L v ds → Q (.exit 0) ⟨#[ag, .pointer (some ⟨g, 0, none⟩), .slice none 0 0, .int .i64 0, .int .i64 0, .pointer (some ⟨S, 0, none⟩), .pointer (some ⟨Bl, 0, none⟩), .pointer (some ⟨W5.heap.size, 0, none⟩), .pointer (some ⟨B8, 0, none⟩), undef, undef, ag, .int .i64 0, .bool false, ag, .pointer (some ⟨S, 0, none⟩), .pointer (some ⟨S, 0, none⟩), .slice (some ⟨ga, 0, none⟩) (p.n + 1) ca, .slice (some ⟨ga, 0, none⟩) (p.n + 1) ca, .pointer (some ⟨ga, 0, none⟩), .int .i64 q0, .bool false, u22, u23, u24, u25, u26, u27, u28, u29, undef, undef, undef, undef, undef, undef, undef, undef, undef, undef, undef, undef, undef, undef, undef, undef, undef, undef, undef, undef, undef, undef, undef, undef, undef, u55, undef, undef, undef, undef], ds.map mark⟩ W)
    (k : Nat) (a : Act) (W : World) (hI : BI ag p S g Bl ga ca c1 A1 q0 W5 k a W) (K : Act → World → Prop) (hK : ∀ k' a' w', k' < k → BI ag p S g Bl ga ca c1 A1 q0 W5 k' a' w' → K a' w') :
    Code.wpIn Fence.wide 5 Try.prog (loopBody (piece 0 Try.f10)) (Exit.then K Q) a W := by
  obtain ⟨f, B8, L, v, ds, e, u22, u23, u24, u25, u26, u27, u28, u29, u55, rfl, hfn, hbr, hfe, hp0, hLf, hr, rfl⟩ := hI
  have h1 : 1 ≤ 5 := by omega
  obtain ⟨i0, hi, hz0, hz1, hz2⟩ := info_parts info3
  conv => arg 4; whnf
  have hfb := hr.fb.cell
  have hx := (hr.bel.cell (p := ⟨g, 0, none⟩) hg).trans hx0
  by_cases hlt : f < p.n
  · have hfz : (f : Int) < (p.n : Int) := by omega
    have hO : Below W.heap.size W (W.alloc (.cells #[.pointer (some ⟨S, 0, none⟩)] 48)) := (Below.refl _ _).alloc (Nat.le_refl _) _
    have hO2 : Below W.heap.size W ((W.alloc (.cells #[.pointer (some ⟨S, 0, none⟩)] 48)).alloc (.cells #[.int .i64 (f : Int)] 3)) := hO.alloc (by simp) _
    have bs2 := (Boxed.new W 48 (.pointer (some ⟨S, 0, none⟩))).alloc (.cells #[.int .i64 (f : Int)] 3)
    have bf2 := Boxed.new (W.alloc (.cells #[.pointer (some ⟨S, 0, none⟩)] 48)) 3 (.int .i64 (f : Int))
    rw [World.size_alloc] at bf2
    have hp2 : PB W5 ((W.alloc (.cells #[.pointer (some ⟨S, 0, none⟩)] 48)).alloc (.cells #[.int .i64 (f : Int)] 3)) B8 f L v ds :=
      ⟨hr.bel.trans (hO2.mono hr.bel.size), (hr.ob.alloc _).alloc _, (hr.fb.alloc _).alloc _, (hr.row.alloc _).alloc _, hr.ne, hr.l8, hr.mks.keep fun D hD => hO2.block D (hr.mks.lt hD)⟩
    have hlds := fun d (hd : d ∈ ds) => hr.mks.lt hd
    have h8l := hr.fb.lt
    have hol := hr.ob.lt
    have hrl := fun r (e : some r = v.ownBlock) => (hr.row.lt r e.symm).2
    have H2 := Lib.hid (And.intro hp2 (And.intro bs2 (And.intro bf2 (And.intro hlds (And.intro h8l (And.intro hol hrl))))))
    have hz2' : ((W.alloc (.cells #[.pointer (some ⟨S, 0, none⟩)] 48)).alloc (.cells #[.int .i64 (f : Int)] 3)).heap.size = W.heap.size + 1 + 1 := by rw [World.size_alloc, World.size_alloc]
    replace hz2' := Lib.hid hz2'
    have HR := Lib.hid (And.intro hbr (And.intro hfe (And.intro hp0 hLf)))
    have HW := Lib.hid (And.intro hbl hga)
    replace hK := Lib.hid hK
    replace hQ := Lib.hid hQ
    replace hS := Lib.hid hS
    replace hv := Lib.hid hv
    clear hr hO hO2 bs2 bf2 hp2 hlds hbr hfe hp0 hLf hbl hga h8l hol hrl
    gi_wp2
    refine ⟨trivial, ?_⟩
    refine (pages_in _ _ _ _).mono ?_
    rintro e w2 ⟨rfl, rfl⟩
    gi_wp2
    obtain ⟨W2, hW2⟩ : ∃ W2, (W.alloc (.cells #[.pointer (some ⟨S, 0, none⟩)] 48)).alloc (.cells #[.int .i64 (f : Int)] 3) = W2 := ⟨_, rfl⟩
    obtain ⟨Bs, hBs⟩ : ∃ B, W.heap.size = B := ⟨_, rfl⟩
    obtain ⟨Bf, hBf⟩ : ∃ B, W.heap.size + 1 = B := ⟨_, rfl⟩
    rw [hW2, hBf, hBs] at H2
    rw [hW2, hBf] at hz2'
    rw [hW2]
    simp only [hBf]
    simp only [hBs]
    have hB12 : Bs < Bf := by omega
    clear hW2 hBf hBs hfb hx
    obtain ⟨hp2, hbs, hbf, hlds, h8l, hol, hrl⟩ := H2.out
    have hz := hz2'.out
    refine wpIn_rangeFunc_ownG rfl h1 (gf := 33) (lb := #[.pointer (some ⟨Bf, 0, none⟩), .pointer (some ⟨Bs, 0, none⟩)]) rfl trivial (enters_of Try.func33 (by kernel_rfl) rfl)
      (pages_stops (5 - 1) (by omega) Bf Bs S p f W5 hS.out hv.out hn hlt W2 (by omega) (by omega) hbf.cell hbs.cell hp2.bel) kpP_t (kpP_b hp2.bel.size (by omega) (by omega)) (Below.refl _ _) (fun _ => rfl)
      (fun pre W => (∀ y ∈ pre, hit (ptl p) f y.1 = false) ∧ PB W5 W B8 f L v ds)
      (fun c pre W => c = .exit 2 ∧ BX p W5 B8 f L ds pre W)
      (OwnFrom.and (ownFrom_pure _ _) (fun s X Y row hs hg hr => PB.kept hs (fun d hd => by have := hlds d hd; omega) hp2.bel.size hg hr))
      (fun c => OwnFrom.and (ownFrom_pure _ _) (BX.own (fun d hd => by have := hlds d hd; omega) hp2.bel.size))
      ⟨fun y hy => by simp at hy, hp2⟩
      (fun x => { tmps := #[ag, .pointer (some ⟨g, 0, none⟩), .slice none 0 0, .int .i64 0, .int .i64 0, .pointer (some ⟨S, 0, none⟩), .pointer (some ⟨Bl, 0, none⟩), .pointer (some ⟨W5.heap.size, 0, none⟩), .pointer (some ⟨B8, 0, none⟩), .int .i64 (x.1.1 : Int), .int .i64 x.1.2, ag, .int .i64 0, .bool false, ag, .pointer (some ⟨S, 0, none⟩), .pointer (some ⟨S, 0, none⟩), .slice (some ⟨ga, 0, none⟩) (p.n + 1) ca, .slice (some ⟨ga, 0, none⟩) (p.n + 1) ca, .pointer (some ⟨ga, 0, none⟩), .int .i64 q0, .bool false, .int .i64 f, .pointer (some ⟨g, 0, none⟩), .slice A1 p.n c1, .int .i64 p.n, .bool true, .pointer (some ⟨S, 0, none⟩), .int .i64 f, .func (.func 33) #[] #[.pointer (some ⟨Bf, 0, none⟩), .pointer (some ⟨Bs, 0, none⟩)], .int .i64 (x.1.1 : Int), .int .i64 x.1.2, undef, undef, undef, undef, undef, undef, undef, undef, undef, undef, undef, undef, undef, undef, undef, undef, undef, undef, undef, undef, undef, undef, undef, u55, undef, undef, undef, undef], defers := [] }) ?assign ?body ?done ?stop
    case assign =>
      intro l x W K hK
      unfold encP
      gi_wp2
      exact hK
    case body =>
      rintro l pre x W3 ⟨hno, hJ⟩ hlen
      obtain ⟨⟨tp, c⟩, hxx⟩ := x
      have hx1 : f < tp := hxx.1
      have hx2 : tp ≤ p.n := hxx.2.1
      have hx3 : 0 ≤ c := hxx.2.2.1
      have hx4 : c ≤ 20000 := hxx.2.2.2
      have hblc := (hJ.bel.cell (p := ⟨Bl, 0, none⟩) HW.out.1.lt).trans HW.out.1.cell
      have y1 := hJ.fb.cell
      have yo := hJ.ob.cell
      have y2 := (hJ.bel.cell (p := ⟨ga, tp, none⟩) HW.out.2.lt).trans (HW.out.2.cell (i := tp) (by omega))
      have y3 := (hJ.bel.cell (p := ⟨ga, f, none⟩) HW.out.2.lt).trans (HW.out.2.cell (i := f) (by omega))
      have hob := ptl_bd hv.out tp
      have hfb := ptl_bd hv.out f
      have hht : hit (ptl p) f (tp, c) = (decide (0 ≤ ptl p tp) && decide (c + ptl p tp = ptl p f)) := rfl
      have hLl : L.length ≤ f := HR.out.2.2.2
      have hW35 := hJ.bel.size
      obtain ⟨o, ho⟩ : ∃ o, ptl p tp = o := ⟨_, rfl⟩
      obtain ⟨b, hb⟩ : ∃ b, ptl p f = b := ⟨_, rfl⟩
      rw [ho] at y2 hob hht
      rw [hb] at y3 hfb hht
      have hw1 : IntKind.i64.wrap (c + o) = c + o := by rw [IntKind.wrap_i64]; omega
      have ht0 : (0 : Int) ≤ (tp : Int) := by omega
      have ht1 : (tp : Int) < (p.n : Int) + 1 := by omega
      have hf0 : (0 : Int) ≤ (f : Int) := by omega
      have hf1 : (f : Int) < (p.n : Int) + 1 := by omega
      have hskip : hit (ptl p) f (tp, c) = false → ∀ y ∈ pre ++ [(⟨(tp, c), hxx⟩ : Pg p f)], hit (ptl p) f y.1 = false := fun h y hy => by
        rcases List.mem_append.1 hy with hy | hy
        · exact hno y hy
        · simp at hy; subst hy; exact h
      have HB := Lib.hid (And.intro hJ (And.intro hno (And.intro hskip hht)))
      have hdrop : ∀ q, KpP W5.heap.size Bf Bs W3 (W3.drewN q) := fun q => ⟨drewN_below (Below.refl _ _) q, rfl, rfl⟩
      replace hdrop := Lib.hid hdrop
      clear hJ hno hskip hht ho hb hlen
      by_cases q1 : 0 ≤ o
      · have d1 : decide (0 ≤ o) = true := by simpa using q1
        by_cases q2 : c + o = b
        · have d2 : ((c + o) == b) = true := by simpa using q2
          have hh : hit (ptl p) f (tp, c) = true := by rw [HB.out.2.2.2, d1, decide_eq_true q2]; rfl
          replace hh := Lib.hid hh
          clear q2
          gi_wp2
          refine wpIn_region_round (by kernel_rfl) (by kernel_rfl) (by kernel_rfl) ?_
          repeat (gi_big_quiet_step (fail))
          refine wpQuietIn_nil ?_
          intro _ hw'
          obtain ⟨nq, hw''⟩ := hw'
          subst hw''
          have hJ := Lib.hid (HB.out.1.drewN nq)
          have yo2 := hJ.out.ob.cell
          have y12 := hJ.out.fb.cell
          obtain ⟨W4, hW4⟩ : ∃ W, W3.drewN nq = W := ⟨_, rfl⟩
          have hkd : KeepsOthers W3 W4 := by rw [← hW4]; exact ⟨Nat.le_refl _, fun _ _ h _ => h⟩
          have hW45 : W5.heap.size ≤ W4.heap.size := by rw [← hW4]; exact hW35
          rw [hW4] at hJ yo2 y12 ⊢
          replace hkd := Lib.hid hkd
          clear hW4 yo y1 y2 y3 hblc
          gi_wp2_with (gi_at_builtin; refine wpListIn_append_own _ rfl _ _ 22 rfl W5.heap.size 3 i0 (.int .i64 0) 1 8 Try.underlying22 hi hz0 hz1 hz2 rfl (by decide) _ _ _ rfl (hJ.out.row.alloc _) ⟨W4.heap.size, 0, none⟩ 1 1 [.int .i64 (tp : Nat)] rfl rfl (cell_one_new _ _ _) (by simp [Value.oneCell']) (by unfold maxLen; omega) (by omega) (by simp; omega) ?_; intro v' w1 hown' hgrow _; obtain ⟨g', cap', rfl⟩ := ownsRow_succ hown'; obtain ⟨hb1, hb8, hne8, hko, hPB⟩ := hJ.out.push hgrow hown' hx1; have hc1 := hb1.cell; have hf1 := hb1.frozen; have hc8 := (hb8.other (Ne.symm hne8) (.slice (some ⟨g', 0, none⟩) (L.length + 1) cap')).cell; have hf8 := (hb8.other (Ne.symm hne8) (.slice (some ⟨g', 0, none⟩) (L.length + 1) cap')).frozen)
          exact ⟨(hkd.out.trans hko).from _, rfl, pre, ⟨(tp, c), hxx⟩, _, rfl, HB.out.2.1, hh.out, hPB⟩
        · have d2 : ((c + o) == b) = false := by simpa using q2
          have hh : hit (ptl p) f (tp, c) = false := by rw [HB.out.2.2.2, decide_eq_false q2]; simp
          replace hh := Lib.hid hh
          clear q2
          gi_wp2
          refine wpIn_region_round (by kernel_rfl) (by kernel_rfl) (by kernel_rfl) ?_
          repeat (gi_big_quiet_step (fail))
          refine wpQuietIn_nil ?_
          intro _ hw'
          obtain ⟨nq, hw''⟩ := hw'
          subst hw''
          gi_wp2
          exact ⟨⟨Nat.le_refl _, fun _ _ _ h _ => h⟩, hdrop.out _, HB.out.2.2.1 hh.out, HB.out.1.drewN _⟩
      · have d1 : decide (0 ≤ o) = false := by simpa using q1
        have hh : hit (ptl p) f (tp, c) = false := by rw [HB.out.2.2.2, d1]; rfl
        replace hh := Lib.hid hh
        gi_wp2
        refine wpIn_region_round (by kernel_rfl) (by kernel_rfl) (by kernel_rfl) ?_
        repeat (gi_big_quiet_step (fail))
        refine wpQuietIn_nil ?_
        intro _ hw'
        obtain ⟨nq, hw''⟩ := hw'
        subst hw''
        gi_wp2
        exact ⟨⟨Nat.le_refl _, fun _ _ _ h _ => h⟩, hdrop.out _, HB.out.2.2.1 hh.out, HB.out.1.drewN _⟩
    case done =>
      rintro D ys W3 hD hys ⟨hno, hJ⟩ hKK
      obtain ⟨x, hx⟩ := hit_exists hv.out hlt HR.out.2.2.1
      have hx1 := List.mem_of_find?_eq_some hx
      have hx2 := List.find?_some hx
      rw [← hys] at hx1
      obtain ⟨y, hy, rfl⟩ := List.mem_map.1 hx1
      rw [hno y hy] at hx2
      cases hx2
    case stop =>
      rintro D c pre W3 hD hpre ⟨rfl, pr, x, v', rfl, hno, hhit, hJ⟩ hKK
      have hfind : (pgs p f).find? (hit (ptl p) f) = some x.1 := by
        obtain ⟨t, ht⟩ := hpre
        rw [← ht, List.map_append, List.map_cons, List.map_nil, List.append_assoc]
        refine find_split (fun y hy => ?_) hhit
        obtain ⟨z, hz, rfl⟩ := List.mem_map.1 hy
        exact hno z hz
      have hxo := x.2
      have h0x := (hit_iff.1 hhit).1
      obtain ⟨xx, hxx⟩ : ∃ y, x.1 = y := ⟨_, rfl⟩
      rw [hxx] at hfind hxo h0x hJ
      obtain ⟨tp, c⟩ := xx
      have hx1 : f < tp := hxo.1
      have hx2 : tp ≤ p.n := hxo.2.1
      have y1 := hJ.fb.cell
      have hC := Lib.hid ((hJ.mark hp2.bel.size hKK (fun d hd => by have := hlds d hd; omega) hD).copy)
      have HN : Hid (∃ e', brk p = (L ++ [tp]) ++ brkF p (ptl p) e' tp ∧ p.n ≤ tp + e') := Lib.hid (by
        obtain ⟨e', rfl⟩ : ∃ e', e = e' + 1 := ⟨e - 1, by have := HR.out.2.1; omega⟩
        refine ⟨e', ?_, by have := HR.out.2.1; omega⟩
        have := HR.out.1
        rw [brkF_step hlt hfind] at this
        rw [this]; simp)
      replace h0x := Lib.hid h0x
      have hLl : L.length ≤ f := HR.out.2.2.2
      clear hJ hKK hfind hxo hxx hno hhit hpre
      gi_wp2
      obtain ⟨e', hn1, hn2⟩ := HN.out
      refine hK.out (p.n - tp) _ _ (by omega) ?_
      exact ⟨tp, W3.heap.size, L ++ [tp], v', D :: ds, e', _, _, _, _, _, _, _, _, _, rfl, hx2, hn1, hn2, h0x.out, by simp; omega, hC.out, rfl⟩
  · have hf' : f = p.n := by omega
    subst hf'
    have hbr' : brk p = L := by rw [hbr, brkF_end p _ _ _ (Nat.le_refl _), List.append_nil]
    have hq := Lib.hid (fun u22 u23 u24 u25 u26 => hQ B8 L v ds u22 u23 u24 u25 u26 u27 u28 u29 u55 W hbr' hr)
    clear hr hK hQ hS hv hbr hbr' hfe hp0 hbl hga
    gi_wp2
    exact hq.out _ _ _ _ _
end Go.Proofs.Ytpfjeldpckmdoaa
