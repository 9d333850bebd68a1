import Derived.Test.YtpfjeldpckmdoaaS
set_option linter.unusedVariables false
set_option linter.unusedSimpArgs false
namespace Go.Proofs.Ytpfjeldpckmdoaa
open Go.RowKit Go.Shelf
/-- an integer slice at the head of a block, or nil -/
def RowA (w : World) (A : Option Addr) (L : List Nat) : Prop := (A = none ∧ L = []) ∨ ∃ g, A = some ⟨g, 0, none⟩ ∧ g < w.heap.size ∧ ∀ j, j < L.length → w.cell? ⟨g, j, none⟩ = some (.int .i64 ((L.getD j 0 : Nat) : Int))
theorem RowA.next {w w' : World} {A : Option Addr} {L : List Nat} (h : RowA w A L) (hb : Below w.heap.size w w') : RowA w' A L := by
  rcases h with h | ⟨g, rfl, hg, hc⟩
  · exact .inl h
  · exact .inr ⟨g, rfl, by have := hb.size; omega, fun j hj => (hb.cell (p := ⟨g, j, none⟩) hg).trans (hc j hj)⟩
theorem nums_get (L : List Nat) {j : Nat} (hj : j < L.length) : (nums L).getD j undef = .int .i64 ((L.getD j 0 : Nat) : Int) := by
  simp [nums, List.getD_eq_getElem?_getD, List.getElem?_eq_getElem hj]
theorem rowA_own {W : World} {base : Nat} {v : Value} {L : List Nat} (h : W.ownsRow base 3 1 v L.length (nums L)) : ∃ A c, v = .slice A L.length c ∧ RowA W A L := by
  rcases own_forms h with ⟨rfl, h0, _⟩ | ⟨g, cap, rfl, hg1, hg2, hcap⟩
  · have : L = [] := List.eq_nil_of_length_eq_zero h0
    subst this
    exact ⟨none, 0, rfl, .inl ⟨rfl, rfl⟩⟩
  · exact ⟨_, cap, rfl, .inr ⟨g, rfl, hg2, fun j hj => by rw [(own_has h).cell (i := j) (by omega), nums_get L hj]⟩⟩
theorem drop_cons (E : List Nat) {k : Nat} (hk : k < E.length) : E.drop k = E.getD k 0 :: E.drop (k + 1) := by
  rw [List.drop_eq_getElem_cons hk]
  simp [List.getD_eq_getElem?_getD, hk]
def PenPost (g : Nat → Bool) (n : Nat) (wi o : Int) (w : World) (e : Ending) (w' : World) : Prop :=
  ∃ ga, e = .returned (.tuple #[.slice (some ⟨ga, 0, none⟩) n n, .int .i64 0]) ∧ Has w' ga 3 n (fun x => .int .i64 (min (wantP g n wi o x) 10000)) ∧ Below w.heap.size w w'
set_option maxHeartbeats 8000000 in
set_option maxRecDepth 100000 in
theorem penalties_any (g : Nat → Bool) (n : Nat) (hn : n ≤ 20) (A : Option Addr) (L : List Nat) (c : Nat) (wi o : Int) (w : World) (hA : RowA w A L) (hw : 0 ≤ wi ∧ wi ≤ 9999) (ho : 0 ≤ o ∧ o ≤ 9999) (hlen : L.length ≤ n)
    (hL : ∀ m, m < L.length → L.getD m 0 < n ∧ (0 < m → L.getD (m - 1) 0 < L.getD m 0)) (hg : g 0 = true) (hnx : Nxt g n 0 (L ++ [n])) :
    Calls Try.prog 12 #[.int .i64 n, .slice A L.length c, .int .i64 wi, .int .i64 o] w (PenPost g n wi o w) := by
  obtain ⟨hw1, hw2⟩ := hw
  obtain ⟨ho1, ho2⟩ := ho
  have hpw := Lib.hid (fun W => penalty_any wi (by omega) W)
  have hpo := Lib.hid (fun W => penalty_any o (by omega) W)
  have hmk := run_make_row' (P := Try.prog) 22 3 (.int .i64 0) 8 Try.underlying22 info3 rfl .i64 .i64 n (by omega) (by omega)
  have e1 : decide ((n : Int) < 0) = false := by rw [decide_eq_false_iff_not]; omega
  have e2 : decide ((4096 : Int) < (n : Int)) = false := by rw [decide_eq_false_iff_not]; omega
  have e2' : decide (4096 < n) = false := by rw [decide_eq_false_iff_not]; omega
  replace hL := Lib.hid hL
  replace hnx := Lib.hid hnx
  replace hA := Lib.hid hA
  go_enter Try.func12, Try.ntmps12
  go_wp2_with fail
  refine (hpw.out _).mono ?_
  rintro e w1 ⟨rfl, hww⟩
  rw [hww]
  clear hww
  go_wp2_with fail
  refine (hpo.out _).mono ?_
  rintro e w1 ⟨rfl, hww⟩
  rw [hww]
  clear hww
  go_wp2_with fail
  go_loopg [38] L.length (fun gg s38 wr => ∃ m : Nat, m ≤ L.length ∧ gg = L.length - m ∧ s38 = .int .i64 m ∧ wr = w)
  case atStart => exact ⟨0, by omega, by omega, rfl, rfl⟩
  case round =>
    obtain ⟨m, hm, hgg, rfl, hwr⟩ := hrel
    rw [hwr]
    clear hwr
    by_cases hlt : m < L.length
    · have hmz : (m : Int) < (L.length : Int) := by omega
      obtain ⟨ga, rfl, hga, hc⟩ := hA.out.resolve_left (fun h => by rw [h.2] at hlt; exact absurd hlt (Nat.not_lt_zero _))
      obtain ⟨h1, h2⟩ := hL.out m hlt
      have c1 := hc m hlt
      have c2 := fun h0 : 0 < m => hc (m - 1) (by omega)
      obtain ⟨y, hy⟩ : ∃ y, L.getD m 0 = y := ⟨_, rfl⟩
      obtain ⟨x, hx⟩ : ∃ y, L.getD (m - 1) 0 = y := ⟨_, rfl⟩
      rw [hy] at c1 h1 h2
      rw [hx] at h2
      simp only [hx] at c2
      have d1 : decide ((y : Int) < 0) = false := by rw [decide_eq_false_iff_not]; omega
      have d2 : decide ((n : Int) ≤ (y : Int)) = false := by rw [decide_eq_false_iff_not]; omega
      have d2' : decide (n ≤ y) = false := by rw [decide_eq_false_iff_not]; omega
      clear hc hx hy hmk hga
      by_cases hm0 : 0 < m
      · have c2 := c2 hm0
        have h2 := h2 hm0
        have d3 : decide ((0 : Int) < (m : Int)) = true := by rw [decide_eq_true_iff]; omega
        have d3' : decide (0 < m) = true := by rw [decide_eq_true_iff]; omega
        have d4 : decide ((y : Int) ≤ (x : Int)) = false := by rw [decide_eq_false_iff_not]; omega
        have d4' : decide (y ≤ x) = false := by rw [decide_eq_false_iff_not]; omega
        have hjz : (0 : Int) ≤ (m : Int) - 1 := by omega
        have hjz2 : (m : Int) - 1 < (L.length : Int) := by omega
        have hjt : ((m : Int) - 1).toNat = m - 1 := by omega
        have hjy : (1 : Int) ≤ (m : Int) := by omega
        have hjy2 : (m : Int) ≤ (L.length : Int) := by omega
        have hjy3 : (m : Int) < (L.length : Int) + 1 := by omega
        have hw3 : IntKind.i64.wrap ((m : Int) - 1) = (m : Int) - 1 := by rw [IntKind.wrap_i64]; omega
        go_wp2_with fail
        go_roundg (L.length - (m + 1))
        case measure => go_light; omega
        case rel =>
          go_light
          exact ⟨m + 1, by omega, by omega, by go_num, rfl⟩
      · have d3 : decide ((0 : Int) < (m : Int)) = false := by rw [decide_eq_false_iff_not]; omega
        have d3' : decide (0 < m) = false := by rw [decide_eq_false_iff_not]; omega
        clear c2 h2
        go_wp2_with fail
        go_roundg (L.length - (m + 1))
        case measure => go_light; omega
        case rel =>
          go_light
          exact ⟨m + 1, by omega, by omega, by go_num, rfl⟩
    · have hmn : m = L.length := by omega
      subst hmn
      have hh0 : Has (w.alloc (.cells (madeCells #[.int .i64 0] n) 3)) w.heap.size 3 n (fun _ => .int .i64 0) := Has.made w (.int .i64 0) n 3
      have hB0 : Below w.heap.size w (w.alloc (.cells (madeCells #[.int .i64 0] n) 3)) := (Below.refl _ w).alloc (Nat.le_refl _) _
      have hz0 : (w.alloc (.cells (madeCells #[.int .i64 0] n) 3)).heap.size = w.heap.size + 1 := by simp
      have hcl := clone_any A L c (w.alloc (.cells (madeCells #[.int .i64 0] n) 3)) (by
        rcases hA.out.next hB0 with h | ⟨g', h1, _, h3⟩
        · exact .inl h
        · exact .inr ⟨g', h1, h3⟩) (by omega)
      have hH0 := Lib.hid (And.intro hh0 (And.intro hB0 hz0))
      replace hcl := Lib.hid hcl
      clear hh0 hB0 hz0
      go_wp2_with fail
      refine hcl.out.mono ?_
      rintro e w1 ⟨v', rfl, hown, hB1⟩
      rw [hH0.out.2.2] at hown hB1
      have hh1 : Has w1 w.heap.size 3 n (fun _ => .int .i64 0) := hH0.out.1.below hB1 (by omega)
      have hbl1 : Below w.heap.size w w1 := hH0.out.2.1.trans (hB1.mono (by omega))
      have hs1 := hB1.size
      rw [hH0.out.2.2] at hs1
      have H1 := Lib.hid (And.intro hown (And.intro hh1 (And.intro hbl1 hs1)))
      clear hown hB1 hh1 hbl1 hs1 hH0 hcl hmk
      go_wp2_with (at_builtin; refine app_new _ rfl _ _ 22 3 rfl _ 1 8 Try.underlying22 info3 rfl (by decide) (w.heap.size + 1) _ L.length (nums L) rfl (H1.out.1) 1 1 _ rfl rfl (by simp [Value.oneCell']) (by unfold maxLen; omega) (by omega) (by exact H1.out.2.2.2) ?_; intro v2 w2 hown2 hgrow; obtain ⟨gb, cap, rfl⟩ := ownsRow_succ hown2)
      have hb2 : Below w.heap.size w w2 := (H1.out.2.2.1.alloc (by have := H1.out.2.2.2; omega) _).grown hgrow (by have := H1.out.2.2.2; simp; omega) fun k hk => by have := (H1.out.1.lt k hk).1; omega
      have hne : some w.heap.size ≠ v'.ownBlock := fun e => by have := (H1.out.1.lt _ e.symm).1; omega
      have hh2 : Has w2 w.heap.size 3 n (fun x => .int .i64 (parF g n wi o 0 x)) := (((H1.out.2.1.alloc _).grown hgrow hne).congr fun i hi => by rw [par_zero g n wi o (Nat.zero_le i)])
      have hgb := (hown2.lt gb rfl).1
      have hrow : Has w2 gb 3 (L.length + 1) (fun j => .int .i64 (((L ++ [n]).getD j 0 : Nat) : Int)) := by
        have h := own_has hown2
        rw [Nat.mul_one] at h
        refine h.congr fun j hj => ?_
        have e : nums L ++ [Value.int .i64 ((n : Nat) : Int)] = nums (L ++ [n]) := (nums_snoc L n).symm
        show (nums L ++ [Value.int .i64 ((n : Nat) : Int)]).getD j undef = _
        rw [e, nums_get (L ++ [n]) (by simp; omega)]
      have H2 := Lib.hid (And.intro hb2 (And.intro hh2 hrow))
      clear hb2 hne hh2 hrow hown2 hgrow H1
      go_loopg [70, 14] (L.length + 1) (fun gg s70 s14 wr => ∃ k f : Nat, k ≤ L.length + 1 ∧ gg = L.length + 1 - k ∧ s70 = .int .i64 k ∧ s14 = .int .i64 f ∧ Nxt g n f ((L ++ [n]).drop k) ∧ g f = true ∧ f ≤ n ∧ Has wr w.heap.size 3 n (fun x => .int .i64 (parF g n wi o f x)) ∧ Has wr gb 3 (L.length + 1) (fun j => .int .i64 (((L ++ [n]).getD j 0 : Nat) : Int)) ∧ Below w.heap.size w wr)
      case atStart => exact ⟨0, 0, by omega, by omega, rfl, rfl, hnx.out, hg, by omega, H2.out.2.1, H2.out.2.2, H2.out.1⟩
      case round =>
        obtain ⟨k, f, hk, hgg, rfl, rfl, hN, hgf, hfn, hout, hrow, hbel⟩ := hrel
        clear H2
        by_cases hlt : k < L.length + 1
        · have hkz : (k : Int) < (L.length : Int) + 1 := by omega
          have hkz0 : (0 : Int) ≤ (k : Int) := by omega
          have c0 := hrow.cell (i := k) hlt
          rw [drop_cons (L ++ [n]) (by simp; omega)] at hN
          obtain ⟨t, ht⟩ : ∃ y, (L ++ [n]).getD k 0 = y := ⟨_, rfl⟩
          rw [ht] at hN c0
          obtain ⟨n1, n2, n3, n4, n5⟩ := hN
          have hwtf : IntKind.i64.wrap ((t : Int) - (f : Int)) = (t : Int) - (f : Int) := by rw [IntKind.wrap_i64]; omega
          by_cases hq : f + 2 ≤ t
          · obtain ⟨r, hr⟩ : ∃ r, t = r + 2 := ⟨t - 2, by omega⟩
            have hd : decide ((2 : Int) ≤ (t : Int) - (f : Int)) = true := by rw [decide_eq_true_iff]; omega
            have a0 := hout.cell (i := f) (by omega)
            rw [par_zero g n wi o (Nat.le_refl f)] at a0
            have fz0 := hout.frozen f
            have hset := hout.set f (.int .i64 o)
            have a1 := hset.cell (i := r) (by omega)
            have fz1 := hset.frozen r
            obtain ⟨y, hy⟩ : ∃ y, (if r = f then o else 0) = y := ⟨_, rfl⟩
            have hyb : 0 ≤ y ∧ y ≤ 9999 := by rw [← hy]; split <;> omega
            have a2 : (wr.setCell ⟨w.heap.size, f, none⟩ (.int .i64 o)).cell? ⟨w.heap.size, r, none⟩ = some (.int .i64 y) := by
              rw [a1, ← hy]
              by_cases e : r = f
              · rw [if_pos e, if_pos e]
              · rw [if_neg e, if_neg e, par_zero g n wi o (by omega)]
            have hset2 : Has ((wr.setCell ⟨w.heap.size, f, none⟩ (.int .i64 o)).setCell ⟨w.heap.size, r, none⟩ (.int .i64 (y + wi))) w.heap.size 3 n (fun x => .int .i64 (parF g n wi o t x)) := (hset.set r (.int .i64 (y + wi))).congr fun x hx => by
              rw [par_step hr (by omega) n2 hgf n3 n4, ← hy]
              by_cases e : x = r
              · rw [if_pos e, if_pos e]
              · rw [if_neg e, if_neg e]
                by_cases e2 : x = f
                · rw [if_pos e2, if_pos e2]
                · rw [if_neg e2, if_neg e2]
            have hrow2 : Has ((wr.setCell ⟨w.heap.size, f, none⟩ (.int .i64 o)).setCell ⟨w.heap.size, r, none⟩ (.int .i64 (y + wi))) gb 3 (L.length + 1) (fun j => .int .i64 (((L ++ [n]).getD j 0 : Nat) : Int)) := (hrow.far (a := ⟨w.heap.size, f, none⟩) (by show gb ≠ w.heap.size; omega) _).far (a := ⟨w.heap.size, r, none⟩) (by show gb ≠ w.heap.size; omega) _
            have hbel2 : Below w.heap.size w ((wr.setCell ⟨w.heap.size, f, none⟩ (.int .i64 o)).setCell ⟨w.heap.size, r, none⟩ (.int .i64 (y + wi))) := (hbel.setCell (p := ⟨w.heap.size, f, none⟩) (Nat.le_refl _) _).setCell (p := ⟨w.heap.size, r, none⟩) (Nat.le_refl _) _
            have hwo : IntKind.i64.wrap (0 + o) = o := by rw [IntKind.wrap_i64]; omega
            have hwo' : IntKind.i64.wrap o = o := by rw [IntKind.wrap_i64]; omega
            have hwy : IntKind.i64.wrap (y + wi) = y + wi := by rw [IntKind.wrap_i64]; omega
            have hwr2 : IntKind.i64.wrap ((t : Int) - 2) = (r : Int) := by rw [IntKind.wrap_i64]; omega
            have hfz : (f : Int) < (n : Int) := by omega
            have hfz0 : (0 : Int) ≤ (f : Int) := by omega
            have hrz : (r : Int) < (n : Int) := by omega
            have hrz0 : (0 : Int) ≤ (r : Int) := by omega
            have HF := Lib.hid (And.intro hset2 (And.intro hrow2 (And.intro hbel2 (And.intro n5 n3))))
            clear a1 hset hset2 hrow2 hbel2 hrow hout hbel n5 n3 n4 hy ht hgf
            go_wp2_with fail
            go_roundg (L.length + 1 - (k + 1))
            case measure => go_light; omega
            case rel =>
              go_light
              exact ⟨k + 1, t, by omega, by omega, by go_num, by congr 1; omega, HF.out.2.2.2.1, HF.out.2.2.2.2, n2, HF.out.1, HF.out.2.1, HF.out.2.2.1⟩
          · have hd : decide ((2 : Int) ≤ (t : Int) - (f : Int)) = false := by rw [decide_eq_false_iff_not]; omega
            have hout2 : Has wr w.heap.size 3 n (fun x => .int .i64 (parF g n wi o t x)) := hout.congr fun x hx => by rw [par_same n1 (by omega) n2 n3]
            have HF := Lib.hid (And.intro hout2 (And.intro hrow (And.intro hbel (And.intro n5 n3))))
            clear hout2 hrow hout hbel n5 n3 n4 ht hgf
            go_wp2_with fail
            go_roundg (L.length + 1 - (k + 1))
            case measure => go_light; omega
            case rel =>
              go_light
              exact ⟨k + 1, t, by omega, by omega, by go_num, rfl, HF.out.2.2.2.1, HF.out.2.2.2.2, n2, HF.out.1, HF.out.2.1, HF.out.2.2.1⟩
        · have hkl : k = L.length + 1 := by omega
          subst hkl
          rw [List.drop_eq_nil_of_le (by simp)] at hN
          have hfe : f = n := hN
          subst hfe
          have hout3 : Has wr w.heap.size 3 f (fun x => .int .i64 (if x < 0 then min (wantP g f wi o x) 10000 else wantP g f wi o x)) := hout.congr fun x hx => by
            unfold parF
            rw [if_pos hx, if_neg (Nat.not_lt_zero _)]
          have H3 := Lib.hid (And.intro hout3 hbel)
          clear hout hrow hbel hN hout3
          go_wp2_with fail
          go_loopg [97] f (fun gg s97 wr => ∃ i : Nat, i ≤ f ∧ gg = f - i ∧ s97 = .int .i64 i ∧ Has wr w.heap.size 3 f (fun x => .int .i64 (if x < i then min (wantP g f wi o x) 10000 else wantP g f wi o x)) ∧ Below w.heap.size w wr)
          case atStart => exact ⟨0, by omega, by omega, rfl, H3.out.1, H3.out.2⟩
          case round =>
            obtain ⟨i, hi, hgg, rfl, hout, hbel⟩ := hrel
            clear H3
            by_cases hlt : i < f
            · have hiz : (i : Int) < (f : Int) := by omega
              have hiz0 : (0 : Int) ≤ (i : Int) := by omega
              have a0 := hout.cell (i := i) hlt
              rw [if_neg (Nat.lt_irrefl i)] at a0
              have fz0 := hout.frozen i
              have hwb := want_bd (g := g) (n := f) ⟨hw1, hw2⟩ ⟨ho1, ho2⟩ i
              have hset : Has (wr.setCell ⟨w.heap.size, i, none⟩ (.int .i64 (min (wantP g f wi o i) 10000))) w.heap.size 3 f (fun x => .int .i64 (if x < i + 1 then min (wantP g f wi o x) 10000 else wantP g f wi o x)) := (hout.set i _).congr fun x hx => by
                by_cases e : x = i
                · subst e; rw [if_pos rfl, if_pos (by omega)]
                · rw [if_neg e]
                  by_cases e2 : x < i
                  · rw [if_pos e2, if_pos (by omega)]
                  · rw [if_neg e2, if_neg (by omega)]
              obtain ⟨z, hz⟩ : ∃ z, wantP g f wi o i = z := ⟨_, rfl⟩
              rw [hz] at a0 hset hwb
              have HF := Lib.hid (And.intro hset (hbel.setCell (p := ⟨w.heap.size, i, none⟩) (Nat.le_refl _) (.int .i64 (min z 10000))))
              clear hset hout hbel hz
              go_wp2_with fail
              go_roundg (f - (i + 1))
              case measure => go_light; omega
              case rel =>
                go_light
                exact ⟨i + 1, by omega, by omega, by go_num, HF.out.1, HF.out.2⟩
            · have hif : i = f := by omega
              subst hif
              have HF := Lib.hid (And.intro (hout.congr (f' := fun x => .int .i64 (min (wantP g i wi o x) 10000)) fun x hx => by rw [if_pos hx]) hbel)
              clear hout hbel
              go_wp2_with fail
              go_ret2
              exact ⟨_, rfl, HF.out.1, HF.out.2⟩
end Go.Proofs.Ytpfjeldpckmdoaa
