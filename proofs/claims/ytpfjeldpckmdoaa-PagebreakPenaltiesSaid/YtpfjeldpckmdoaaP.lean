import Derived.Test.YtpfjeldpckmdoaaC2
set_option linter.unusedVariables false
set_option linter.unusedSimpArgs false
namespace Go.Proofs.Ytpfjeldpckmdoaa
open Go.RowKit Go.Shelf
attribute [local go_sem] Oper.semAt_some
/-- the potentials of the last `m` lines are made -/
structure PR (w W : World) (p : PP) (ga Bo B4 m : Nat) (ds : List Nat) : Prop where
  arr : Has W ga 3 (p.n + 1) (fun t => .int .i64 (pot p m t))
  ob : Boxed W Bo 22 (.slice (some ⟨ga, 0, none⟩) (p.n + 1) (p.n + 1))
  fb : Boxed W B4 3 (.int .i64 ((p.n : Int) - 1 - m))
  bel : Below w.heap.size w W
  mks : Marks w.heap.size ds W
  l1 : w.heap.size ≤ ga
  l2 : w.heap.size ≤ Bo
  l3 : w.heap.size ≤ B4
  ne : B4 ≠ ga
/-- the frame at a round's head -/
def PI (w : World) (p : PP) (S ga Bo c1 : Nat) (A1 : Option Addr) (k : Nat) (a : Act) (W : World) : Prop :=
  ∃ (m B4 : Nat) (ds : List Nat) (u23 u24 u25 u26 u27 u28 u29 u30 u31 u32 u65 : Value), k = p.n - m ∧ m ≤ p.n ∧ PR w W p ga Bo B4 m ds ∧ a = ⟨#[.pointer (some ⟨S, 0, none⟩), undef, .slice none 0 0, .pointer (some ⟨Bo, 0, none⟩), .pointer (some ⟨B4, 0, none⟩), undef, undef, undef, .pointer (some ⟨S, 0, none⟩), .pointer (some ⟨S, 0, none⟩), .pointer (some ⟨S, 0, none⟩), .pointer (some ⟨S, 0, none⟩), .slice A1 p.n c1, .int .i64 p.n, .int .i64 ((p.n : Int) + 1), .slice (some ⟨ga, 0, none⟩) (p.n + 1) (p.n + 1), .pointer (some ⟨S, 0, none⟩), .pointer (some ⟨S, 0, none⟩), .pointer (some ⟨S, 0, none⟩), .pointer (some ⟨S, 0, none⟩), .slice A1 p.n c1, .int .i64 p.n, .int .i64 ((p.n : Int) - 1), u23, u24, u25, u26, u27, u28, u29, u30, u31, u32, undef, undef, undef, undef, undef, undef, undef, undef, undef, undef, undef, undef, undef, undef, undef, undef, undef, undef, undef, undef, undef, undef, undef, undef, undef, undef, undef, undef, undef, undef, undef, undef, u65, undef], ds.map mark⟩
theorem boxed_ne {W : World} {B g : Nat} {t t' : TypeId} {n : Nat} {v : Value} {f : Nat → Value} (h : Boxed W B t v) (h' : Has W g t' n f) (ht : t ≠ t') : B ≠ g := by
  rintro rfl
  obtain ⟨c, hb, _, _⟩ := h'
  rw [show W.heap[B]? = _ from h] at hb
  injection hb with hb
  injection hb with _ e
  exact ht e
theorem PR.only {w W W' : World} {p : PP} {ga Bo B4 m : Nat} {ds : List Nat} (h : PR w W p ga Bo B4 m ds) (ho : Only ga W W') :
    Boxed W' Bo 22 (.slice (some ⟨ga, 0, none⟩) (p.n + 1) (p.n + 1)) ∧ Boxed W' B4 3 (.int .i64 ((p.n : Int) - 1 - m)) ∧ Below w.heap.size w W' ∧ Marks w.heap.size ds W' := by
  refine ⟨(ho.block Bo (boxed_ne h.ob h.arr (by decide)) h.ob.lt).trans h.ob, (ho.block B4 h.ne h.fb.lt).trans h.fb, h.bel.trans (ho.below h.l1 h.bel.size), h.mks.keep fun D hD => ho.block D (fun e => ?_) (h.mks.lt hD)⟩
  subst e
  obtain ⟨c, hb, _, _⟩ := h.arr
  rw [(h.mks.2 D hD).2] at hb
  cases hb
/-- what holds between two rounds over the pages from line `f` -/
def PJ (w : World) (p : PP) (ga Bo B4 m f : Nat) (ds : List Nat) (pre : List (Nat × Int)) (W : World) : Prop :=
  (((Has W ga 3 (p.n + 1) (fun t => .int .i64 (if t = f then best (pot p m) (-1) pre else pot p m t)) ∧ Boxed W Bo 22 (.slice (some ⟨ga, 0, none⟩) (p.n + 1) (p.n + 1))) ∧ Boxed W B4 3 (.int .i64 f)) ∧ Marks w.heap.size ds W) ∧ Below w.heap.size w W
theorem PJ.own {w : World} {p : PP} {ga Bo B4 m f n0 : Nat} {ds : List Nat} (hd : ∀ d ∈ ds, d < n0) (h0 : w.heap.size ≤ n0) : OwnFrom n0 (fun (pre : List (Pg p f)) W => PJ w p ga Bo B4 m f ds (pre.map (fun x => x.1)) W) :=
  OwnFrom.and (OwnFrom.and (OwnFrom.and (OwnFrom.and (Own.from (has_own (fun (pre : List (Pg p f)) t => .int .i64 (if t = f then best (pot p m) (-1) (pre.map (fun x => x.1)) else pot p m t))) _) (Own.from (boxed_own _ _ (fun _ => _)) _)) (Own.from (boxed_own _ _ (fun _ => _)) _)) (marks_own hd)) (ownFrom_below (Nat.le_refl _) h0)
theorem PJ.store {w W : World} {p : PP} {ga Bo B4 m f : Nat} {ds : List Nat} {pre : List (Nat × Int)} {x : Nat × Int} (h : PJ w p ga Bo B4 m f ds pre W) (hl : w.heap.size ≤ ga) (hne : B4 ≠ ga) {v : Int} (hv : v = stp (pot p m) (best (pot p m) (-1) pre) x) :
    PJ w p ga Bo B4 m f ds (pre ++ [x]) (W.setCell ⟨ga, f, none⟩ (.int .i64 v)) := by
  obtain ⟨⟨⟨⟨h1, h2⟩, h3⟩, h4⟩, h5⟩ := h
  have hk : ∀ k, k ≠ ga → (W.setCell ⟨ga, f, none⟩ (.int .i64 v)).heap[k]? = W.heap[k]? := fun k hk => Below.heap_setCell _ _ _ _ hk
  refine ⟨⟨⟨⟨(h1.set f _).congr fun t ht => ?_, (hk Bo (boxed_ne h2 h1 (by decide))).trans h2⟩, (hk B4 hne).trans h3⟩, h4.keep fun D hD => hk D (fun e => ?_)⟩, h5.setCell hl _⟩
  · by_cases e : t = f
    · subst e; simp only [if_true]; rw [best_snoc, hv]
    · simp only [if_neg e]
  · subst e
    obtain ⟨c, hb, _, _⟩ := h1
    rw [(h4.2 D hD).2] at hb
    cases hb
theorem PJ.skip {w W : World} {p : PP} {ga Bo B4 m f : Nat} {ds : List Nat} {pre : List (Nat × Int)} {x : Nat × Int} (h : PJ w p ga Bo B4 m f ds pre W) (hv : best (pot p m) (-1) pre = stp (pot p m) (best (pot p m) (-1) pre) x) :
    PJ w p ga Bo B4 m f ds (pre ++ [x]) W := by
  obtain ⟨⟨⟨⟨h1, h2⟩, h3⟩, h4⟩, h5⟩ := h
  refine ⟨⟨⟨⟨h1.congr fun t ht => ?_, h2⟩, h3⟩, h4⟩, h5⟩
  by_cases e : t = f
  · subst e; simp only [if_true]; rw [best_snoc, ← hv]
  · simp only [if_neg e]
theorem best_ok {p : PP} (h : Val p) {m f : Nat} (hm : m ≤ p.n) : ∀ (pre : List (Pg p f)), -1 ≤ best (pot p m) (-1) (pre.map (fun x => x.1)) ∧ best (pot p m) (-1) (pre.map (fun x => x.1)) ≤ 20000 * m + 20000 := fun pre =>
  best_bd (by omega) (pot_bd h hm) (fun x hx => by
    obtain ⟨y, _, rfl⟩ := List.mem_map.1 hx
    exact ⟨y.2.2.2.1, y.2.2.2.2⟩) (by omega) (by omega)
set_option maxRecDepth 100000 in
set_option maxHeartbeats 8000000 in
theorem pot_round (p : PP) (S ga Bo c1 : Nat) (A1 : Option Addr) (w : World) (hS : Sums w S p) (hv : Val p) (hn : p.n ≤ 10) (Q : Exit → Act → World → Prop)
    (hQ : ∀ (B4 : Nat) (ds : List Nat) (u23 u24 u25 u26 u27 u28 u29 u30 u31 u32 u65 : Value) (W : World), PR w W p ga Bo B4 p.n ds → Q (.exit 0) ⟨#[.pointer (some ⟨S, 0, none⟩), undef, .slice none 0 0, .pointer (some ⟨Bo, 0, none⟩), .pointer (some ⟨B4, 0, none⟩), undef, undef, undef, .pointer (some ⟨S, 0, none⟩), .pointer (some ⟨S, 0, none⟩), .pointer (some ⟨S, 0, none⟩), .pointer (some ⟨S, 0, none⟩), .slice A1 p.n c1, .int .i64 p.n, .int .i64 ((p.n : Int) + 1), .slice (some ⟨ga, 0, none⟩) (p.n + 1) (p.n + 1), .pointer (some ⟨S, 0, none⟩), .pointer (some ⟨S, 0, none⟩), .pointer (some ⟨S, 0, none⟩), .pointer (some ⟨S, 0, none⟩), .slice A1 p.n c1, .int .i64 p.n, .int .i64 ((p.n : Int) - 1), u23, u24, u25, u26, u27, u28, u29, u30, u31, u32, undef, undef, undef, undef, undef, undef, undef, undef, undef, undef, undef, undef, undef, undef, undef, undef, undef, undef, undef, undef, undef, undef, undef, undef, undef, undef, undef, undef, undef, undef, undef, undef, u65, undef], ds.map mark⟩ W)
    (k : Nat) (a : Act) (W : World) (hI : PI w p S ga Bo c1 A1 k a W) (K : Act → World → Prop) (hK : ∀ k' a' w', k' < k → PI w p S ga Bo c1 A1 k' a' w' → K a' w') :
    Code.wpIn Fence.wide 4 Try.prog (loopBody (piece 0 Try.f21)) (Exit.then K Q) a W := by
  obtain ⟨m, B4, ds, u23, u24, u25, u26, u27, u28, u29, u30, u31, u32, u65, rfl, hm, hr, rfl⟩ := hI
  have h1 : 1 ≤ 4 := by omega
  conv => arg 4; whnf
  by_cases hlt : m < p.n
  · obtain ⟨f, hf⟩ : ∃ f : Nat, p.n = f + 1 + m := ⟨p.n - 1 - m, by omega⟩
    have hfz : (p.n : Int) - 1 - m = (f : Int) := by omega
    have hfn : f < p.n := by omega
    have fb := hr.fb
    rw [hfz] at fb
    have hfb := fb.cell
    have hob := hr.ob.cell
    have hac := hr.arr.cell (i := f) (by omega)
    have haf := hr.arr.frozen f
    have hf0 : (0 : Int) ≤ (f : Int) := by omega
    have hf1 : (f : Int) < (p.n : Int) + 1 := by omega
    have hfb2 : ∀ v, (W.setCell ⟨ga, f, none⟩ v).cell? ⟨B4, 0, none⟩ = some (.int .i64 f) := fun v => (cell_eq (Below.heap_setCell _ _ _ _ hr.ne) 0).trans hfb
    have hO : Only ga W ((W.setCell ⟨ga, f, none⟩ (.int .i64 (-1))).alloc (.cells #[.pointer (some ⟨S, 0, none⟩)] 48)) := ((Only.refl ga W).set f _).alloc _
    have hO2 := hO.alloc (.cells #[.int .i64 (f : Int)] 3)
    have hp2 := hr.only hO2
    rw [hfz] at hp2
    have hsz : (W.setCell ⟨ga, f, none⟩ (.int .i64 (-1))).heap.size = W.heap.size := by simp [World.setCell]
    have bs2 := (Boxed.new (W.setCell ⟨ga, f, none⟩ (.int .i64 (-1))) 48 (.pointer (some ⟨S, 0, none⟩))).alloc (.cells #[.int .i64 (f : Int)] 3)
    have bf2 := Boxed.new ((W.setCell ⟨ga, f, none⟩ (.int .i64 (-1))).alloc (.cells #[.pointer (some ⟨S, 0, none⟩)] 48)) 3 (.int .i64 (f : Int))
    rw [World.size_alloc] at bf2
    rw [hsz] at bs2 bf2
    have arr2 : Has (((W.setCell ⟨ga, f, none⟩ (.int .i64 (-1))).alloc (.cells #[.pointer (some ⟨S, 0, none⟩)] 48)).alloc (.cells #[.int .i64 (f : Int)] 3)) ga 3 (p.n + 1) (fun t => .int .i64 (if t = f then best (pot p m) (-1) [] else pot p m t)) :=
      (((hr.arr.set f (.int .i64 (-1))).alloc _).alloc _).congr fun t ht => by
        by_cases e : t = f
        · subst e; simp only [if_true]; rfl
        · simp only [if_neg e]
    have hlds := fun d (hd : d ∈ ds) => hr.mks.lt hd
    have H2 := Lib.hid (And.intro arr2 (And.intro hp2 (And.intro bs2 (And.intro bf2 hlds))))
    have hz2 : (((W.setCell ⟨ga, f, none⟩ (.int .i64 (-1))).alloc (.cells #[.pointer (some ⟨S, 0, none⟩)] 48)).alloc (.cells #[.int .i64 (f : Int)] 3)).heap.size = W.heap.size + 1 + 1 := by rw [World.size_alloc, World.size_alloc, hsz]
    replace hz2 := Lib.hid hz2
    have hga := hr.arr.lt
    have HR := Lib.hid (And.intro hr (And.intro fb (And.intro hf hfz)))
    replace hK := Lib.hid hK
    replace hQ := Lib.hid hQ
    replace hS := Lib.hid hS
    replace hv := Lib.hid hv
    clear hr fb hf hfz hO hO2 hp2 bs2 bf2 arr2 hsz hlds
    gi_wp2
    refine ⟨trivial, ?_⟩
    refine (pages_in _ _ _ _).mono ?_
    rintro e w2 ⟨rfl, rfl⟩
    gi_wp2
    obtain ⟨W2, hW2⟩ : ∃ W2, ((W.setCell ⟨ga, f, none⟩ (.int .i64 (-1))).alloc (.cells #[.pointer (some ⟨S, 0, none⟩)] 48)).alloc (.cells #[.int .i64 (f : Int)] 3) = W2 := ⟨_, rfl⟩
    obtain ⟨Bs, hBs⟩ : ∃ B, W.heap.size = B := ⟨_, rfl⟩
    obtain ⟨Bf, hBf⟩ : ∃ B, W.heap.size + 1 = B := ⟨_, rfl⟩
    rw [hW2, hBf, hBs] at H2
    rw [hW2, hBf] at hz2
    rw [hW2]
    simp only [hBf]
    simp only [hBs]
    have hB12 : Bs < Bf := by omega
    rw [hBs] at hga
    clear hW2 hBf hBs hfb hfb2 hob hac haf
    obtain ⟨harr, ⟨hob, hfb, hbel, hmk⟩, hbs, hbf, hlds⟩ := H2.out
    have hz := hz2.out
    refine wpIn_rangeFunc_ownG rfl h1 (gf := 33) (lb := #[.pointer (some ⟨Bf, 0, none⟩), .pointer (some ⟨Bs, 0, none⟩)]) rfl trivial (enters_of Try.func33 (by kernel_rfl) rfl)
      (pages_stops (4 - 1) (by omega) Bf Bs S p f w hS.out hv.out hn hfn W2 (by omega) (by omega) hbf.cell hbs.cell hbel) kpP_t (kpP_b hbel.size (by omega) (by omega)) (Below.refl _ _) (fun _ => rfl)
      (fun pre W => PJ w p ga Bo B4 m f ds (pre.map (fun x => x.1)) W)
      (fun _ _ _ => False)
      (PJ.own (fun d hd => by have := hlds d hd; omega) hbel.size)
      (fun _ _ _ _ _ hs _ _ => hs)
      ⟨⟨⟨⟨harr, hob⟩, hfb⟩, hmk⟩, hbel⟩
      (fun x => { tmps := #[.pointer (some ⟨S, 0, none⟩), undef, .slice none 0 0, .pointer (some ⟨Bo, 0, none⟩), .pointer (some ⟨B4, 0, none⟩), .int .i64 (x.1.1 : Int), .int .i64 x.1.2, undef, .pointer (some ⟨S, 0, none⟩), .pointer (some ⟨S, 0, none⟩), .pointer (some ⟨S, 0, none⟩), .pointer (some ⟨S, 0, none⟩), .slice A1 p.n c1, .int .i64 p.n, .int .i64 ((p.n : Int) + 1), .slice (some ⟨ga, 0, none⟩) (p.n + 1) (p.n + 1), .pointer (some ⟨S, 0, none⟩), .pointer (some ⟨S, 0, none⟩), .pointer (some ⟨S, 0, none⟩), .pointer (some ⟨S, 0, none⟩), .slice A1 p.n c1, .int .i64 p.n, .int .i64 ((p.n : Int) - 1), .int .i64 f, .bool true, u25, u26, .slice (some ⟨ga, 0, none⟩) (p.n + 1) (p.n + 1), .int .i64 f, .pointer (some ⟨ga, f, none⟩), .pointer (some ⟨S, 0, none⟩), .int .i64 f, .func (.func 33) #[] #[.pointer (some ⟨Bf, 0, none⟩), .pointer (some ⟨Bs, 0, none⟩)], .int .i64 (x.1.1 : Int), .int .i64 x.1.2, undef, undef, undef, undef, undef, undef, undef, undef, undef, undef, undef, undef, undef, undef, undef, undef, undef, undef, undef, undef, undef, undef, undef, undef, undef, undef, undef, undef, undef, undef, u65, undef], defers := [] }) ?assign ?body ?done ?stop
    case assign =>
      intro l x W K hK
      unfold encP
      gi_wp2
      exact hK
    case body =>
      rintro l pre x W3 hJ hlen
      obtain ⟨⟨tp, c⟩, hx⟩ := x
      have hx1 : f < tp := hx.1
      have hx2 : tp ≤ p.n := hx.2.1
      have hx3 : 0 ≤ c := hx.2.2.1
      have hx4 : c ≤ 20000 := hx.2.2.2
      have ha := hJ.1.1.1.1
      have y0 := hJ.1.1.1.2.cell
      have y1 := hJ.1.1.2.cell
      have y2 := ha.cell (i := tp) (by omega)
      have y3 := ha.cell (i := f) (by omega)
      have y4 := ha.frozen f
      rw [if_neg (by omega)] at y2
      rw [if_pos rfl] at y3
      have hob := pot_bd hv.out (k := m) (by omega) tp
      have hab := best_ok hv.out (m := m) (by omega) pre
      have hst : ∀ v, v = stp (pot p m) (best (pot p m) (-1) (pre.map (fun x => x.1))) (tp, c) → PJ w p ga Bo B4 m f ds (List.map (fun (x : Pg p f) => x.1) (pre ++ [(⟨(tp, c), hx⟩ : Pg p f)])) (W3.setCell ⟨ga, f, none⟩ (.int .i64 v)) := fun v h => by
        rw [List.map_append]
        exact hJ.store HR.out.1.l1 HR.out.1.ne h
      have hsk : best (pot p m) (-1) (pre.map (fun x => x.1)) = stp (pot p m) (best (pot p m) (-1) (pre.map (fun x => x.1))) (tp, c) → PJ w p ga Bo B4 m f ds (List.map (fun (x : Pg p f) => x.1) (pre ++ [(⟨(tp, c), hx⟩ : Pg p f)])) W3 := fun h => by
        rw [List.map_append]
        exact hJ.skip h
      unfold stp at hst hsk
      simp only at hst hsk
      obtain ⟨o, ho⟩ : ∃ o, pot p m tp = o := ⟨_, rfl⟩
      obtain ⟨b, hb⟩ : ∃ b, best (pot p m) (-1) (pre.map (fun x => x.1)) = b := ⟨_, rfl⟩
      rw [ho] at y2 hob
      rw [hb] at y3 hab
      simp only [ho, hb] at hst hsk
      have hkp : ∀ v, KpP w.heap.size Bf Bs W3 (W3.setCell ⟨ga, f, none⟩ v) := fun v => ⟨(Below.refl _ _).setCell HR.out.1.l1 _, Below.heap_setCell _ _ _ _ (by show Bf ≠ ga; omega), Below.heap_setCell _ _ _ _ (by show Bs ≠ ga; omega)⟩
      have hw1 : IntKind.i64.wrap (c + o) = c + o := by rw [IntKind.wrap_i64]; omega
      have ht0 : (0 : Int) ≤ (tp : Int) := by omega
      have ht1 : (tp : Int) < (p.n : Int) + 1 := by omega
      have HB := Lib.hid (And.intro hst (And.intro hsk hkp))
      clear hst hsk hkp ho hb hJ ha hlen
      by_cases q1 : 0 ≤ o
      · by_cases q2 : b < 0
        · have d1 : decide (0 ≤ o) = true := by simpa using q1
          have d2 : decide (b < 0) = true := by simpa using q2
          gi_wp2
          exact ⟨(KeepsOthers.setCell _ _ _).from _, HB.out.2.2 _, HB.out.1 _ (by rw [if_pos ⟨q1, .inl q2⟩])⟩
        · by_cases q3 : c + o < b
          · have d1 : decide (0 ≤ o) = true := by simpa using q1
            have d2 : decide (b < 0) = false := by simpa using q2
            have d3 : decide (c + o < b) = true := by simpa using q3
            gi_wp2
            exact ⟨(KeepsOthers.setCell _ _ _).from _, HB.out.2.2 _, HB.out.1 _ (by rw [if_pos ⟨q1, .inr q3⟩])⟩
          · have d1 : decide (0 ≤ o) = true := by simpa using q1
            have d2 : decide (b < 0) = false := by simpa using q2
            have d3 : decide (c + o < b) = false := by simpa using q3
            gi_wp2
            exact ⟨KeepsFrom.refl _ _, ⟨Below.refl _ _, rfl, rfl⟩, HB.out.2.1 (by rw [if_neg (by omega)])⟩
      · have d1 : decide (0 ≤ o) = false := by simpa using q1
        gi_wp2
        exact ⟨KeepsFrom.refl _ _, ⟨Below.refl _ _, rfl, rfl⟩, HB.out.2.1 (by rw [if_neg (by omega)])⟩
    case done =>
      rintro D ys W3 hD hys hJ hKK
      obtain ⟨⟨⟨⟨h1, h2⟩, h3⟩, h4⟩, h5⟩ := hJ
      have y1 := h3.cell
      have hf := HR.out.2.2.1
      have hfz := HR.out.2.2.2
      have hO : Only ga W3 (W3.alloc (.cells #[.int .i64 ((f : Int) - 1)] 3)) := (Only.refl ga W3).alloc _
      have hpr : PR w (W3.alloc (.cells #[.int .i64 ((f : Int) - 1)] 3)) p ga Bo W3.heap.size (m + 1) (D :: ds) := by
        refine ⟨(h1.alloc _).congr fun t ht => ?_, h2.alloc _, ?_, h5.alloc h5.size _, ?_, HR.out.1.l1, HR.out.1.l2, h5.size, fun e => by have := h1.lt; omega⟩
        · rw [pot, hys, show p.n - (m + 1) = f by omega]
        · have := Boxed.new W3 3 (.int .i64 ((f : Int) - 1))
          rw [show (p.n : Int) - 1 - ((m + 1 : Nat) : Int) = (f : Int) - 1 by omega]
          exact this
        · exact (h4.cons (Nat.le_trans hbel.size hD) hKK (fun d hd => by have := hlds d hd; omega) hD).keep fun d hd => Below.heap_alloc _ _ _ (by
            rcases List.mem_cons.1 hd with rfl | hd
            · exact (Array.getElem?_eq_some_iff.1 hKK).1
            · exact h4.lt hd)
      have hPR := Lib.hid hpr
      clear h1 h2 h3 h4 h5 hpr hO hf hfz hys
      gi_wp2
      refine hK.out (p.n - (m + 1)) _ _ (by omega) ?_
      exact ⟨m + 1, W3.heap.size, D :: ds, _, _, _, _, _, _, _, _, _, _, _, rfl, by omega, hPR.out, rfl⟩
    case stop =>
      rintro D c pre W _ _ h _
      exact h.elim
  · have hm' : m = p.n := by omega
    subst hm'
    have fb := hr.fb
    rw [show (p.n : Int) - 1 - (p.n : Int) = -1 by omega] at fb
    have hfb := fb.cell
    have hq := Lib.hid (fun u23 u24 => hQ B4 ds u23 u24 u25 u26 u27 u28 u29 u30 u31 u32 u65 W hr)
    clear hr fb hK hQ hS hv
    gi_wp2
    exact hq.out _ _
theorem pot_done {w W : World} {p : PP} {ga Bo B4 : Nat} {ds : List Nat} (h : PR w W p ga Bo B4 p.n ds) {tmps : Array Value} (ht : (results Try.f21 tmps).run Try.prog = fun W => .ok (.slice (some ⟨ga, 0, none⟩) (p.n + 1) (p.n + 1)) W) :
    LeavesInM Fence.wide 4 Try.prog Try.f21 tmps (fun e w' => ∃ g c, e = .returned (.slice (some ⟨g, 0, none⟩) (p.n + 1) c) ∧ Has w' g 3 (p.n + 1) (fun t => .int .i64 (ptl p t)) ∧ Below w.heap.size w w') (ds.map mark) .returning W := by
  refine leaves_marks (B := w.heap.size) (fun W => Has W ga 3 (p.n + 1) (fun t => .int .i64 (ptl p t)) ∧ Below w.heap.size w W) (fun W D hW hB hD => ⟨?_, ?_⟩) (fun W hW => ?_) ds W h.mks ⟨h.arr, h.bel⟩
  · refine hW.1.of_block (World.putObj_heap_other (fun e => ?_))
    subst e
    obtain ⟨c, hb, _, _⟩ := hW.1
    rw [hD] at hb
    cases hb
  · exact hW.2.trans ⟨rfl, rfl, rfl, by simp, fun k hk => World.putObj_heap_other (by omega)⟩
  · exact ⟨_, congrFun ht W, ga, _, rfl, hW.1, hW.2⟩
set_option maxRecDepth 100000 in
set_option maxHeartbeats 8000000 in
theorem potentials_any (p : PP) (S : Nat) (w : World) (hS : Sums w S p) (hv : Val p) (hn : p.n ≤ 10) :
    Calls Try.prog 21 #[.pointer (some ⟨S, 0, none⟩)] w fun e w' => ∃ g c, e = .returned (.slice (some ⟨g, 0, none⟩) (p.n + 1) c) ∧ Has w' g 3 (p.n + 1) (fun t => .int .i64 (ptl p t)) ∧ Below w.heap.size w w' := by
  refine (callsIn_wide (n := 4)).1 ?_
  have hS' := Lib.hid hS
  obtain ⟨A1, A2, A3, c1, c2, c3, Ab, cb, rl, cl, hSA⟩ := hS
  have x0 := hSA.x0
  have hlen : p.lines.length = p.n := rfl
  rw [hlen] at x0
  have hmk := run_make_row' (P := Try.prog) 22 3 (.int .i64 0) 8 Try.underlying22 info3 rfl .i64 .i64 (p.n + 1) (by omega) (by omega)
  have ec : ((p.n + 1 : Nat) : Int) = (p.n : Int) + 1 := by omega
  rw [ec] at hmk
  have x0' : ∀ o1 o2, ((w.alloc o1).alloc o2).cell? ⟨S, 0, none⟩ = some (.slice A1 p.n c1) := fun o1 o2 => (((Below.refl _ w).alloc (Nat.le_refl _) o1).alloc (by simp) o2).cell (p := ⟨S, 0, none⟩) hSA.lt |>.trans x0
  clear ec hlen
  replace hv := Lib.hid hv
  have hpr : PR w (((w.alloc (.cells (madeCells #[.int .i64 0] (p.n + 1)) 3)).alloc (.cells #[.slice (some ⟨w.heap.size, 0, none⟩) (p.n + 1) (p.n + 1)] 22)).alloc (.cells #[.int .i64 ((p.n : Int) - 1)] 3)) p w.heap.size (w.heap.size + 1) (w.heap.size + 1 + 1) 0 [] := by
    refine ⟨((Has.made w (.int .i64 0) (p.n + 1) 3).alloc _).alloc _, ?_, ?_, (((Below.refl _ w).alloc (Nat.le_refl _) _).alloc (by simp) _).alloc (by simp; omega) _, Marks.nil _ _, Nat.le_refl _, by omega, by omega, by omega⟩
    · have := (Boxed.new (w.alloc (.cells (madeCells #[.int .i64 0] (p.n + 1)) 3)) 22 (.slice (some ⟨w.heap.size, 0, none⟩) (p.n + 1) (p.n + 1))).alloc (.cells #[.int .i64 ((p.n : Int) - 1)] 3)
      rw [World.size_alloc] at this
      exact this
    · have := Boxed.new ((w.alloc (.cells (madeCells #[.int .i64 0] (p.n + 1)) 3)).alloc (.cells #[.slice (some ⟨w.heap.size, 0, none⟩) (p.n + 1) (p.n + 1)] 22)) 3 (.int .i64 ((p.n : Int) - 1))
      rw [World.size_alloc, World.size_alloc] at this
      rw [show (p.n : Int) - 1 - ((0 : Nat) : Int) = (p.n : Int) - 1 by omega]
      exact this
  replace hpr := Lib.hid hpr
  clear hSA
  refine callsIn_of_wp_marks Try.func21 rfl trivial ?_ rfl
  simp only [Try.ntmps21, List.size_toArray, List.length_cons, List.length_nil, Nat.reduceAdd, Nat.reduceSub, Array.replicate_succ, Array.replicate_zero, List.push_toArray, List.append_toArray, List.nil_append, List.cons_append]
  gi_wp2
  refine wpIn_loop_gk (PI w p S w.heap.size (w.heap.size + 1) c1 A1) p.n ?_ (fun k a W hI K hK => pot_round p S w.heap.size (w.heap.size + 1) c1 A1 w hS'.out hv.out hn _ ?_ k a W hI K hK)
  · exact ⟨0, w.heap.size + 1 + 1, [], _, _, _, _, _, _, _, _, _, _, _, rfl, Nat.zero_le _, hpr.out, rfl⟩
  · intro B4 ds u23 u24 u25 u26 u27 u28 u29 u30 u31 u32 u65 W hr
    have hob := hr.ob.cell
    have hd := Lib.hid (fun tmps ht => pot_done hr (tmps := tmps) ht)
    clear hr hmk x0 x0' hpr
    gi_wp2
    refine hd.out _ ?_
    funext W
    simp [results, Try.f21, go_sem]
end Go.Proofs.Ytpfjeldpckmdoaa
