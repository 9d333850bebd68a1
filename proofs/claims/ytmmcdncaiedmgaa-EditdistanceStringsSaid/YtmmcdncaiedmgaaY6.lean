import Derived.Test.YtmmcdncaiedmgaaY5
set_option linter.unusedVariables false
set_option linter.unusedSimpArgs false
namespace Go.Proofs.Ytmmcdncaiedmgaa
open Go.RowKit
/-- at the head of the loop that reads the reference's table backwards -/
def RsRel (a b : ByteArray) (wt : World) (g : Nat) (s7 s8 s9 : Value) (wr : World) : Prop :=
  ∃ (i k : Nat) (L : List Ed), i ≤ a.size ∧ k ≤ b.size ∧ i + k ≤ g ∧ g + L.length ≤ a.size + b.size ∧ s8 = .int .i64 i ∧ s9 = .int .i64 k ∧
      trace (peq a b) b g i k ++ L = script a b ∧ wr.ownsRow wt.heap.size 43 3 s7 L.length (edc L) ∧ Below wt.heap.size wt wr
theorem rscript_long (a b : ByteArray) (w : World) (h : 256 < a.size ∨ 256 < b.size) :
    Calls Try.prog 19 #[.string a, .string b] w fun e w' => e = .returned (.tuple #[.slice none 0 0, .int .i64 4]) ∧ w' = w := by
  by_cases h1 : 256 < a.size
  · have hd1 : decide ((256 : Int) < (a.size : Int)) = true := by simp; omega
    go_enter Try.func19, Try.ntmps19
    go_wp2_with fail
    go_ret2
    exact ⟨rfl, rfl⟩
  · have hd1 : decide ((256 : Int) < (a.size : Int)) = false := by simp; omega
    have hd2 : decide ((256 : Int) < (b.size : Int)) = true := by simp; omega
    go_enter Try.func19, Try.ntmps19
    go_wp2_with fail
    go_ret2
    exact ⟨rfl, rfl⟩

theorem own_box {wx : World} {base n bx : Nat} {v : Value} {xs : List Value} (h : wx.ownsRow base 43 3 v n xs) (hbo : ∀ g, v.ownBlock = some g → g < bx) (q : Nat) (x y z : Value) :
    ((((wx.drewN q).setCell ⟨bx, 0, none⟩ x).setCell ⟨bx, 1, none⟩ y).setCell ⟨bx, 2, none⟩ z).ownsRow base 43 3 v n xs :=
  h.kept (row := some bx) (((((Only.refl bx wx).drewN q).set 0 x).set 1 y).set 2 z).grown (.inr fun e => by have := hbo _ e; omega)
theorem box_below {B bx q : Nat} {wt wx w1 : World} {x y z : Value} (h : Below B wt wx) (hB : B ≤ bx) (hB2 : B ≤ wx.heap.size)
    (k : Below ((((wx.drewN q).setCell ⟨bx, 0, none⟩ x).setCell ⟨bx, 1, none⟩ y).setCell ⟨bx, 2, none⟩ z).heap.size ((((wx.drewN q).setCell ⟨bx, 0, none⟩ x).setCell ⟨bx, 1, none⟩ y).setCell ⟨bx, 2, none⟩ z) w1) : Below B wt w1 :=
  ((((drewN_below h q).setCell hB _).setCell hB _).setCell hB _).trans (k.mono (by simp; exact hB2))

set_option maxHeartbeats 16000000 in
set_option maxRecDepth 1000000 in
theorem rscript_any (a b : ByteArray) (w : World) (ha : a.size ≤ 256) (hb : b.size ≤ 256) :
    Calls Try.prog 19 #[.string a, .string b] w fun e w' => ∃ v, e = .returned (.tuple #[v, .int .i64 0]) ∧ EdR w' w.heap.size v (script a b) ∧ Below w.heap.size w w' := by
  have hd1 : decide ((256 : Int) < (a.size : Int)) = false := by simp; omega
  have hd2 : decide ((256 : Int) < (b.size : Int)) = false := by simp; omega
  go_enter Try.func19, Try.ntmps19
  go_wp2_with fail
  refine (rbytes_any _ _ (by omega)).mono ?_
  rintro e w1 ⟨v1, rfl, hv1, hB1⟩
  go_wp2_with fail
  refine (rbytes_any _ _ (by omega)).mono ?_
  rintro e w2 ⟨v2, rfl, hv2, hB2⟩
  have hB12 := Lib.hid (bst hB1 hB2)
  obtain ⟨A1, c1, rfl, S1⟩ := hv1.strV.below hB2
  obtain ⟨A2, c2, rfl, S2⟩ := hv2.strV
  clear hv1 hv2 hB1 hB2
  have ht := table_any (singles a) (singles b) A1 A2 c1 c2 w2 S1 S2 (by rw [singles_len]; exact ha) (by rw [singles_len]; exact hb)
  rw [singles_len, singles_len] at ht
  replace ht := Lib.hid ht
  clear S1 S2
  simp only [singles_len]
  go_wp2_with fail
  refine ht.out.mono ?_
  rintro e wt ⟨tv, rs, rfl, hT, hB⟩
  replace hT := hT.congr (f' := fun i k => lev (peq a b) i k) fun i k hi hk => by rw [lev_singles a b (by omega) (by omega)]
  have H0 := Lib.hid (And.intro hT (bst hB12.out hB))
  clear ht hT hB hB12 hd1 hd2
  go_wp2_with fail
  go_loopg [7, 8, 9] (a.size + b.size) (fun g s7 s8 s9 wr => RsRel a b wt g s7 s8 s9 wr)
  case atStart =>
    go_light
    exact ⟨a.size, b.size, [], by omega, by omega, by omega, by simp, rfl, rfl, by simp [script], World.ownsRow_nil _ _ _ _, Below.refl _ _⟩
  case round =>
    obtain ⟨i, k, L, hi, hk, hik, hL, rfl, rfl, htr, hown, hbl⟩ := hrel
    by_cases hz : i = 0 ∧ k = 0
    · obtain ⟨hi0, hk0⟩ := hz
      have g1 : decide ((0 : Int) < (i : Int)) = false := by simp; omega
      have g2 : decide ((0 : Int) < (k : Int)) = false := by simp; omega
      have g1' : decide (0 < i) = false := by simp; omega
      have g2' : decide (0 < k) = false := by simp; omega
      have HI := Lib.hid (And.intro hi0 hk0)
      have HT := Lib.hid htr
      have HO := Lib.hid (And.intro hown hbl)
      clear hi0 hk0 htr hown hbl
      go_wp2_with fail
      go_ret2
      go_light
      obtain ⟨rfl, rfl⟩ := HI.out
      have hs := HT.out
      rw [trace_zero, List.nil_append] at hs
      refine ⟨_, rfl, ?_, H0.out.2.trans (HO.out.2.mono H0.out.2.size)⟩
      rw [← hs]
      rcases own_forms HO.out.1 with ⟨rfl, hL0, _⟩ | ⟨g, cap, rfl, hg1, hg2, hcap⟩
      · exact .inl ⟨rfl, List.eq_nil_of_length_eq_zero hL0⟩
      · exact .inr ⟨g, cap, rfl, by have := H0.out.2.size; omega, (own_has HO.out.1).congr (edc_get L)⟩
    · have hgk : 1 ≤ gk := by omega
      have hlt : wt.heap.size ≤ wr.heap.size := hbl.size
      have hbox : Has (wr.alloc (.cells #[.int .i64 0, .int .i64 0, .string ⟨#[]⟩] 43)) wr.heap.size 43 3 (fun j => if j = 2 then .string ⟨#[]⟩ else .int .i64 0) :=
        ⟨_, heap_alloc_new _ _, by decide, fun i hi => by
          obtain rfl | rfl | rfl : i = 0 ∨ i = 1 ∨ i = 2 := by omega
          all_goals rfl⟩
      have hown' := hown.alloc (.cells #[.int .i64 0, .int .i64 0, .string ⟨#[]⟩] 43)
      have hbl' := hbl.alloc hlt (.cells #[.int .i64 0, .int .i64 0, .string ⟨#[]⟩] 43)
      obtain ⟨wx, hwx⟩ : ∃ wx, wr.alloc (.cells #[.int .i64 0, .int .i64 0, .string ⟨#[]⟩] 43) = wx := ⟨_, rfl⟩
      obtain ⟨bx, hbx⟩ : ∃ bx, wr.heap.size = bx := ⟨_, rfl⟩
      have hbo : ∀ g, u7.ownBlock = some g → g < bx := by
        intro g hg
        rcases own_forms hown with ⟨rfl, _⟩ | ⟨g', cap, rfl, _, h2, _⟩
        · cases hg
        · have e2 : g' = g := Option.some.inj hg
          omega
      rw [hwx, hbx] at hbox
      rw [hwx] at hown' hbl'
      rw [hbx] at hlt
      have HO := Lib.hid (And.intro hown' (And.intro hbl' (And.intro hbox (And.intro hlt (And.intro htr hbo)))))
      have f0 := hbox.frozen 0
      have f1 := hbox.frozen 1
      have f2 := hbox.frozen 2
      have c0 := hbox.cell (i := 0) (by omega)
      have c1' := hbox.cell (i := 1) (by omega)
      have c2' := hbox.cell (i := 2) (by omega)
      simp only [if_true, show ¬ (0 = 2) by omega, show ¬ (1 = 2) by omega, if_false] at c0 c1' c2'
      have hgz : ((0 : Int) < (i : Int)) ∨ decide ((0 : Int) < (i : Int)) = false ∧ ((0 : Int) < (k : Int)) := by
        by_cases h : 0 < i
        · left; omega
        · right; exact ⟨by simp; omega, by omega⟩
      replace hz := Lib.hid hz
      have hTx := H0.out.1.below hbl'
      obtain ⟨g0, cap, hu, _, _, hcap, hrow⟩ := hTx.form (by omega)
      subst hu
      have t1 := hrow i (by omega)
      obtain ⟨r1, hr1⟩ : ∃ r, rs.getD i 0 = r := ⟨_, rfl⟩
      have e11 := hTx.cell (i := i) (k := k) (by omega) (by omega)
      have b0 := lev_le (peq a b) i k
      have hl0 : 0 ≤ (a.size : Int) := by omega
      have hl1 : 0 ≤ (b.size : Int) := by omega
      rw [hr1] at t1 e11
      clear hown hbl hown' hbl' hbox hlt htr hbo
      by_cases hA : 0 < i ∧ 0 < k
      · obtain ⟨hi0, hk0⟩ := hA
        have g1 : decide ((0 : Int) < (i : Int)) = true := by simp; omega
        have g2 : decide ((0 : Int) < (k : Int)) = true := by simp; omega
        have t0 := hrow (i - 1) (by omega)
        have e00 := hTx.cell (i := i - 1) (k := k - 1) (by omega) (by omega)
        have e01 := hTx.cell (i := i - 1) (k := k) (by omega) (by omega)
        have b1 := lev_le (peq a b) (i - 1) (k - 1)
        have b2 := lev_le (peq a b) (i - 1) k
        obtain ⟨r0, hr0⟩ : ∃ r, rs.getD (i - 1) 0 = r := ⟨_, rfl⟩
        obtain ⟨d, hd1⟩ : ∃ x, lev (peq a b) i k = x := ⟨_, rfl⟩
        obtain ⟨x, hx⟩ : ∃ x, lev (peq a b) (i - 1) (k - 1) = x := ⟨_, rfl⟩
        obtain ⟨y, hy⟩ : ∃ x, lev (peq a b) (i - 1) k = x := ⟨_, rfl⟩
        simp only [hr0, hd1, hx, hy] at t0 e11 e00 e01 b0 b1 b2
        have HX := Lib.hid (And.intro hd1 (And.intro hx hy))
        have hia := fun W => run_index_str (P := Try.prog) 9 a ((i : Int) - 1) (i - 1) (by omega) (by omega) (by omega) Try.underlying9 W
        have hib := fun W => run_index_str (P := Try.prog) 9 b ((k : Int) - 1) (k - 1) (by omega) (by omega) (by omega) Try.underlying9 W
        have hpq : (((bat a (i - 1)).toNat : Int) == ((bat b (k - 1)).toNat : Int)) = peq a b (i - 1) (k - 1) := u8_beq _ _
        clear hr0 hd1 hx hy hrow hTx hgz hr1
        by_cases h1 : peq a b (i - 1) (k - 1) = true ∧ d = x
        · obtain ⟨h1, rfl⟩ := h1
          rw [h1] at hpq
          have H1 := Lib.hid h1
          clear h1
          have q1 : ((d : Int) == (d : Int)) = true := by simp
          go_wp2_with fail
          go_quiet (fail)
          go_wp2_with fail
          go_roundg (gk - 1)
          case measure => go_light; omega
          case rel =>
            go_light
            obtain ⟨z1, z2, z3⟩ := HX.out
            obtain ⟨z5, z6, z7, z8, z4, z9⟩ := HO.out
            exact ⟨i - 1, k - 1, L, by omega, by omega, by omega, by omega, int_pred hi0, int_pred hk0, by rw [← z4, tr_match hgk ⟨hi0, hk0⟩ H1.out (by rw [z1, z2])], z5, drewN_below z6 _⟩
        · have hcase : (((bat a (i - 1)).toNat : Int) == ((bat b (k - 1)).toNat : Int)) = false ∨ ((((bat a (i - 1)).toNat : Int) == ((bat b (k - 1)).toNat : Int)) = true ∧ ((d : Int) == (x : Int)) = false) := by
            rw [hpq]; cases hh : peq a b (i - 1) (k - 1)
            · exact .inl rfl
            · exact .inr ⟨rfl, by simp; intro e; exact h1 ⟨hh, by omega⟩⟩
          have HN := Lib.hid h1
          clear h1 hpq
          by_cases h2 : d = x + 1
          · have q2 : ((d : Int) == (x : Int) + 1) = true := by simp; omega
            have HN2 := Lib.hid h2
            clear h2
            rcases hcase with hp | ⟨hp, hp2⟩
            all_goals
              go_wp2_with fail
              go_quiet (fail)
              go_wp2_with fail
              go_quiet (fail)
              go_wp2_with (at_builtin; refine app_front _ rfl _ _ rfl _ _ _ wt.heap.size _ L _ rfl (by simp) rfl (own_box HO.out.1 HO.out.2.2.2.2.2 _ _ _ _) (by omega) (by simp; exact HO.out.2.1.size) ?_; intro v' w1 hown' hbel)
              go_roundg (gk - 1)
              case measure => go_light; omega
              case rel =>
                go_light
                obtain ⟨z1, z2, z3⟩ := HX.out
                obtain ⟨z5, z6, z7, z8, z4, z9⟩ := HO.out
                refine ⟨i - 1, k - 1, ⟨(i - 1 : Nat), 1, sub1 b (k - 1)⟩ :: L, by omega, by omega, by omega, by simp; omega, int_pred hi0, int_pred hk0, ?_, ?_, box_below z6 z8 z6.size hbel⟩
                · rw [← z4, tr_change hgk ⟨hi0, hk0⟩ (by rw [z1, z2]; exact HN.out) (by rw [z1, z2]; exact HN2.out)]; simp
                · rw [← sub1_pred hk0, ← Value.int.inj (int_pred hi0) |>.2]; exact hown'
          · have q2 : ((d : Int) == (x : Int) + 1) = false := by simp; omega
            have HN2 := Lib.hid h2
            clear h2
            by_cases h3 : d = y + 1
            · have q3 : ((d : Int) == (y : Int) + 1) = true := by simp; omega
              have HD := Lib.hid h3
              clear h3
              rcases hcase with hp | ⟨hp, hp2⟩
              all_goals
                go_wp2_with fail
                go_quiet (fail)
                go_wp2_with fail
                go_quiet (fail)
                go_wp2_with fail
                go_quiet (fail)
                go_wp2_with (at_builtin; refine app_front _ rfl _ _ rfl _ _ _ wt.heap.size _ L _ rfl (by simp) rfl (own_box HO.out.1 HO.out.2.2.2.2.2 _ _ _ _) (by omega) (by simp; exact HO.out.2.1.size) ?_; intro v' w1 hown' hbel)
                go_roundg (gk - 1)
                case measure => go_light; omega
                case rel =>
                  go_light
                  obtain ⟨z1, z2, z3⟩ := HX.out
                  obtain ⟨z5, z6, z7, z8, z4, z9⟩ := HO.out
                  refine ⟨i - 1, k, ⟨(i - 1 : Nat), 1, ByteArray.empty⟩ :: L, by omega, by omega, by omega, by simp; omega, int_pred hi0, rfl, ?_, ?_, box_below z6 z8 z6.size hbel⟩
                  · rw [← z4, tr_delete hgk hi0 (by rw [z1, z2]; exact fun h => HN.out h.2) (by rw [z1, z2]; exact fun h => HN2.out h.2) (by rw [z1, z3]; exact HD.out)]; simp
                  · rw [← Value.int.inj (int_pred hi0) |>.2]; exact hown'
            · have q3 : ((d : Int) == (y : Int) + 1) = false := by simp; omega
              have HD := Lib.hid h3
              clear h3
              rcases hcase with hp | ⟨hp, hp2⟩
              all_goals
                go_wp2_with fail
                go_quiet (fail)
                go_wp2_with fail
                go_quiet (fail)
                go_wp2_with fail
                go_quiet (fail)
                go_wp2_with (at_builtin; refine app_front _ rfl _ _ rfl _ _ _ wt.heap.size _ L _ rfl (by simp) rfl (own_box HO.out.1 HO.out.2.2.2.2.2 _ _ _ _) (by omega) (by simp; exact HO.out.2.1.size) ?_; intro v' w1 hown' hbel)
                go_roundg (gk - 1)
                case measure => go_light; omega
                case rel =>
                  go_light
                  obtain ⟨z1, z2, z3⟩ := HX.out
                  obtain ⟨z5, z6, z7, z8, z4, z9⟩ := HO.out
                  refine ⟨i, k - 1, ⟨i, 0, sub1 b (k - 1)⟩ :: L, by omega, by omega, by omega, by simp; omega, rfl, int_pred hk0, ?_, ?_, box_below z6 z8 z6.size hbel⟩
                  · rw [← z4, tr_insert hgk hk0 (by rw [z1, z2]; exact fun h => HN.out h.2) (by rw [z1, z2]; exact fun h => HN2.out h.2) (by rw [z1, z3]; exact fun h => HD.out h.2)]; simp
                  · rw [← sub1_pred hk0]; exact hown'
      · by_cases hi0 : 0 < i
        · have hk0 : k ≤ 0 := by omega
          have t0 := hrow (i - 1) (by omega)
          have e01 := hTx.cell (i := i - 1) (k := k) (by omega) (by omega)
          have b2 := lev_le (peq a b) (i - 1) k
          have hd1 : lev (peq a b) i k = i := by
            obtain ⟨m, rfl⟩ : ∃ m, i = m + 1 := ⟨i - 1, by omega⟩
            obtain rfl : k = 0 := by omega
            rfl
          have hy : lev (peq a b) (i - 1) k = i - 1 := by
            obtain rfl : k = 0 := by omega
            obtain ⟨m, hm⟩ : ∃ m, i - 1 = m := ⟨_, rfl⟩
            rw [hm]; cases m <;> rfl
          obtain ⟨r0, hr0⟩ : ∃ r, rs.getD (i - 1) 0 = r := ⟨_, rfl⟩
          obtain ⟨d, hdd⟩ : ∃ x, lev (peq a b) i k = x := ⟨_, rfl⟩
          obtain ⟨y, hyy⟩ : ∃ x, lev (peq a b) (i - 1) k = x := ⟨_, rfl⟩
          simp only [hr0, hdd, hyy] at t0 e11 e01 b0 b2
          have q3 : ((d : Int) == (y : Int) + 1) = true := by simp; omega
          have HX := Lib.hid (And.intro (And.intro hdd hd1) (And.intro hyy hy))
          have g1 : decide ((0 : Int) < (i : Int)) = true := by simp; omega
          have g2 : decide ((0 : Int) < (k : Int)) = false := by simp; omega
          have g2' : decide (0 < k) = false := by simp; omega
          clear hr0 hdd hyy hd1 hy hA hrow hTx hgz hr1
          go_wp2_with fail
          go_quiet (fail)
          go_wp2_with fail
          go_quiet (fail)
          go_wp2_with fail
          go_quiet (fail)
          go_wp2_with (at_builtin; refine app_front _ rfl _ _ rfl _ _ _ wt.heap.size _ L _ rfl (by simp) rfl (own_box HO.out.1 HO.out.2.2.2.2.2 _ _ _ _) (by omega) (by simp; exact HO.out.2.1.size) ?_; intro v' w1 hown' hbel)
          go_roundg (gk - 1)
          case measure => go_light; omega
          case rel =>
            go_light
            obtain ⟨⟨z1, z2⟩, ⟨z3, z3'⟩⟩ := HX.out
            obtain ⟨z5, z6, z7, z8, z4, z9⟩ := HO.out
            refine ⟨i - 1, k, ⟨(i - 1 : Nat), 1, ByteArray.empty⟩ :: L, by omega, by omega, by omega, by simp; omega, int_pred hi0, rfl, ?_, ?_, box_below z6 z8 z6.size hbel⟩
            · rw [← z4, tr_delete hgk hi0 (by omega) (by omega) (by omega)]; simp
            · rw [← Value.int.inj (int_pred hi0) |>.2]; exact hown'
        · have hk0 : 0 < k := by have := hz.out; omega
          have hi0' : i ≤ 0 := by omega
          have g1 : decide ((0 : Int) < (i : Int)) = false := by simp; omega
          have g1' : decide (0 < i) = false := by simp; omega
          have g2 : decide ((0 : Int) < (k : Int)) = true := by simp; omega
          clear hrow hTx hgz hr1 hA
          go_wp2_with fail
          go_quiet (fail)
          go_wp2_with fail
          go_quiet (fail)
          go_wp2_with fail
          go_quiet (fail)
          go_wp2_with (at_builtin; refine app_front _ rfl _ _ rfl _ _ _ wt.heap.size _ L _ rfl (by simp) rfl (own_box HO.out.1 HO.out.2.2.2.2.2 _ _ _ _) (by omega) (by simp; exact HO.out.2.1.size) ?_; intro v' w1 hown' hbel)
          go_roundg (gk - 1)
          case measure => go_light; omega
          case rel =>
            go_light
            obtain ⟨z5, z6, z7, z8, z4, z9⟩ := HO.out
            refine ⟨i, k - 1, ⟨i, 0, sub1 b (k - 1)⟩ :: L, by omega, by omega, by omega, by simp; omega, rfl, int_pred hk0, ?_, ?_, box_below z6 z8 z6.size hbel⟩
            · rw [← z4, tr_insert hgk hk0 (by omega) (by omega) (by omega)]; simp
            · rw [← sub1_pred hk0]; exact hown'
end Go.Proofs.Ytmmcdncaiedmgaa
