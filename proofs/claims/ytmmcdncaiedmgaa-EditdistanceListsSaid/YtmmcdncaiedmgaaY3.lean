import Derived.Test.YtmmcdncaiedmgaaY2
set_option linter.unusedVariables false
set_option linter.unusedSimpArgs false
namespace Go.Proofs.Ytmmcdncaiedmgaa
open Go.RowKit
/-- row `i` (block `r`) is being filled: its cells are `g`, the first `j` of them are right -/
structure RIn (p : Nat → Nat → Bool) (m : Nat) (w wx : World) (v : Value) (rs : List Nat) (i r j : Nat) (g : Nat → Int) : Prop where
  below : Below w.heap.size w wx
  tab : RTab wx w.heap.size v i (m + 1) rs (fun i k => lev p i k)
  row : Has wx r 3 (m + 1) (fun k => .int .i64 (g k))
  pre : ∀ k, k < j → g k = lev p i k
  lo : w.heap.size ≤ r
  ne : ∀ q, q < i → rs.getD q 0 ≠ r
namespace RIn
variable {p : Nat → Nat → Bool} {m : Nat} {w wx : World} {v : Value} {rs : List Nat} {i r j : Nat} {g : Nat → Int}
theorem drewN (h : RIn p m w wx v rs i r j g) (q : Nat) : RIn p m w (wx.drewN q) v rs i r j g :=
  ⟨drewN_below h.below q, h.tab.grown (r := r) ((Only.refl r wx).drewN q).grown (RTab.ownNe h.tab.top h.row (by decide)) h.ne, h.row.drewN q, h.pre, h.lo, h.ne⟩
theorem set (h : RIn p m w wx v rs i r j g) (x : Int) : RIn p m w (wx.setCell ⟨r, j, none⟩ (.int .i64 x)) v rs i r j (fun k => if k = j then x else g k) :=
  ⟨h.below.setCell h.lo _, h.tab.grown (r := r) ((Only.refl r wx).set _ _).grown (RTab.ownNe h.tab.top h.row (by decide)) h.ne,
    (h.row.set j (.int .i64 x)).congr fun k hk => (apply_ite (Value.int .i64) _ _ _).symm, fun k hk => by rw [if_neg (by omega)]; exact h.pre k hk, h.lo, h.ne⟩
theorem next (h : RIn p m w wx v rs i r j g) (e : g j = lev p i j) : RIn p m w wx v rs i r (j + 1) g :=
  ⟨h.below, h.tab, h.row, fun k hk => by
    by_cases q : k = j
    · subst q; exact e
    · exact h.pre k (by omega), h.lo, h.ne⟩
end RIn
theorem rin_start {p : Nat → Nat → Bool} {m : Nat} {w wr : World} {v : Value} {rs : List Nat} {i : Nat} (hb : Below w.heap.size w wr) (hT : RTab wr w.heap.size v i (m + 1) rs (fun i k => lev p i k)) :
    RIn p m w (wr.alloc (.cells (madeCells #[.int .i64 0] (m + 1)) 3)) v rs i wr.heap.size 0 (fun _ => 0) := by
  have hne : ∀ q, q < i → rs.getD q 0 ≠ wr.heap.size := fun q hq => Nat.ne_of_lt (hT.rows q hq).2.lt
  have hown : v.ownBlock ≠ some wr.heap.size := by
    rcases own_forms hT.top with ⟨rfl, _⟩ | ⟨g', cap, rfl, _, h2, _⟩
    · intro e; cases e
    · intro e
      have e2 : g' = wr.heap.size := Option.some.inj e
      omega
  exact ⟨hb.alloc hb.size _, hT.grown (r := wr.heap.size) ((Only.refl _ wr).alloc _).grown hown hne, Has.made _ _ _ _, fun k hk => absurd hk (Nat.not_lt_zero _), hb.size, hne⟩
theorem rtab_push {p : Nat → Nat → Bool} {m : Nat} {w wx w' : World} {v v' : Value} {rs : List Nat} {i r : Nat} {g : Nat → Int} (h : RIn p m w wx v rs i r (m + 1) g) {o : Obj}
    (h1 : w'.ownsRow w.heap.size 61 1 v' (i + 1) (rs.map (rowV (m + 1)) ++ [rowV (m + 1) r])) (h2 : (wx.alloc o).grownBy w' v.ownBlock) :
    RTab w' w.heap.size v' (i + 1) (m + 1) (rs ++ [r]) (fun i k => lev p i k) := by
  have hl := h.tab.len
  refine ⟨by simp [hl], by simpa using h1, fun q hq => ?_⟩
  by_cases e : q < i
  · have hg : (rs ++ [r]).getD q 0 = rs.getD q 0 := by simp [List.getD_eq_getElem?_getD, List.getElem?_append, show q < rs.length by omega]
    rw [hg]
    refine ⟨(h.tab.rows q e).1, ((h.tab.rows q e).2.alloc o).grown h2 ?_⟩
    exact fun e' => RTab.ownNe h.tab.top (h.tab.rows q e).2 (by decide) e'.symm
  · have hq' : q = i := by omega
    subst hq'
    have hg : (rs ++ [r]).getD q 0 = r := by simp [List.getD_eq_getElem?_getD, List.getElem?_append, hl]
    rw [hg]
    refine ⟨h.lo, ((h.row.congr (f' := fun k => .int .i64 (lev p q k)) fun k hk => by rw [h.pre k hk]).alloc o).grown h2 ?_⟩
    exact fun e' => RTab.ownNe h.tab.top h.row (by decide) e'.symm

set_option maxHeartbeats 16000000 in
set_option maxRecDepth 1000000 in
theorem table_any (la lb : List ByteArray) (A A' : Option Addr) (c c' : Nat) (w : World) (SA : Strs w w.heap.size A la) (SB : Strs w w.heap.size A' lb) (ha : la.length ≤ 256) (hb : lb.length ≤ 256) :
    Calls Try.prog 47 #[.slice A la.length c, .slice A' lb.length c'] w fun e w' => ∃ v rs, e = .returned v ∧ RTab w' w.heap.size v (la.length + 1) (lb.length + 1) rs (fun i k => lev (peqL la lb) i k) ∧ Below w.heap.size w w' := by
  have hmk := run_make_row' (P := Try.prog) 61 3 (.int .i64 0) 8 Try.underlying61 info3 rfl .i64 .i64 (lb.length + 1) (by omega) (by omega)
  have ec : ((lb.length + 1 : Nat) : Int) = (lb.length : Int) + 1 := by omega
  rw [ec] at hmk
  clear ec
  have hwr : IntKind.i64.wrap ((lb.length : Int) + 1) = (lb.length : Int) + 1 := by rw [IntKind.wrap_i64]; omega
  go_enter Try.func47, Try.ntmps47
  go_wp2_with fail
  go_loopg [6, 5] (la.length + 1) (fun g s6 s5 wr => ∃ (i : Nat) (rs : List Nat), i ≤ la.length + 1 ∧ g = la.length + 1 - i ∧ s6 = .int .i64 i ∧ RTab wr w.heap.size s5 i (lb.length + 1) rs (fun i k => lev (peqL la lb) i k) ∧ Below w.heap.size w wr)
  case atStart => exact ⟨0, [], by omega, by omega, rfl, ⟨rfl, World.ownsRow_nil _ _ _ _, fun i hi => absurd hi (Nat.not_lt_zero _)⟩, Below.refl _ _⟩
  case round =>
    obtain ⟨i, rs, hi, hg, rfl, hT, hbl⟩ := hrel
    by_cases hlt : i ≤ la.length
    · have hltz : (i : Int) ≤ (la.length : Int) := by omega
      have HI := rin_start hbl hT
      obtain ⟨r, hr⟩ : ∃ r, wr.heap.size = r := ⟨_, rfl⟩
      have HI' := Lib.hid HI
      clear hT hbl HI
      go_wp2_with fail
      have HI := HI'.out
      rw [hr] at HI
      clear HI' hmk hwr
      obtain ⟨w1, hw1⟩ : ∃ w1, wr.alloc (.cells (madeCells #[.int .i64 0] (lb.length + 1)) 3) = w1 := ⟨_, rfl⟩
      rw [hw1]
      rw [hw1] at HI
      clear hw1 hr
      go_loopg [8] (lb.length + 1) (fun g c wx => ∃ (k : Nat) (gf : Nat → Int), k ≤ lb.length + 1 ∧ g = lb.length + 1 - k ∧ c = .int .i64 k ∧ RIn (peqL la lb) lb.length w wx u5 rs i r k gf)
      case atStart => exact ⟨0, _, by omega, by omega, rfl, HI⟩
      case round =>
        clear HI
        obtain ⟨k, gf, hk, hgk, rfl, HI⟩ := hrel
        by_cases hkt : k ≤ lb.length
        · have hktz : (k : Int) ≤ (lb.length : Int) := by omega
          by_cases hi0 : i = 0
          · subst hi0
            have f1 := HI.row.frozen k
            have c1 := HI.row.cell (i := k) (by omega)
            replace HI := Lib.hid HI
            go_wp2_with fail
            go_roundg (lb.length + 1 - (k + 1))
            case measure => go_light; omega
            case rel =>
              go_light
              exact ⟨k + 1, _, by omega, by omega, by go_num, (HI.out.set k).next (by simp [lev_zero])⟩
          · have hi1 : 1 ≤ i := by omega
            have hz0 : ((i : Int) == 0) = false := by simp; omega
            by_cases hk0 : k = 0
            · subst hk0
              have f1 := HI.row.frozen 0
              have c1 := HI.row.cell (i := 0) (by omega)
              replace HI := Lib.hid HI
              go_wp2_with fail
              go_roundg (lb.length + 1 - (0 + 1))
              case measure => go_light; omega
              case rel =>
                go_light
                refine ⟨0 + 1, _, by omega, by omega, by go_num, (HI.out.set i).next ?_⟩
                obtain ⟨i, rfl⟩ : ∃ j, i = j + 1 := ⟨i - 1, by omega⟩
                simp [lev_succ_zero]
            · have hk1 : 1 ≤ k := by omega
              have hz1 : ((k : Int) == 0) = false := by simp; omega
              obtain ⟨ba, oa, rfl, hba, hca⟩ := SA (by omega)
              obtain ⟨bb, ob, rfl, hbb, hcb⟩ := SB (by omega)
              obtain ⟨g0, cap, hu, hg1, hg2, hcap, hrow⟩ := HI.tab.form (by omega)
              subst hu
              have t0 := hrow (i - 1) (by omega)
              have e00 := HI.tab.cell (i := i - 1) (k := k - 1) (by omega) (by omega)
              have e01 := HI.tab.cell (i := i - 1) (k := k) (by omega) (by omega)
              have e10 := HI.row.cell (i := k - 1) (by omega)
              rw [HI.pre _ (by omega)] at e10
              have e11 := HI.row.cell (i := k) (by omega)
              have f1 := HI.row.frozen k
              have b1 := lev_le (peqL la lb) (i - 1) (k - 1)
              have b2 := lev_le (peqL la lb) (i - 1) k
              have b3 := lev_le (peqL la lb) i (k - 1)
              have hrec := lev_succ_succ (peqL la lb) (i - 1) (k - 1)
              rw [Nat.sub_add_cancel hi1, Nat.sub_add_cancel hk1] at hrec
              obtain ⟨r0, hr0⟩ : ∃ r, rs.getD (i - 1) 0 = r := ⟨_, rfl⟩
              obtain ⟨x, hx⟩ : ∃ x, lev (peqL la lb) (i - 1) (k - 1) = x := ⟨_, rfl⟩
              obtain ⟨y, hy⟩ : ∃ x, lev (peqL la lb) (i - 1) k = x := ⟨_, rfl⟩
              obtain ⟨z, hzz⟩ : ∃ x, lev (peqL la lb) i (k - 1) = x := ⟨_, rfl⟩
              obtain ⟨m0, hm0⟩ : ∃ x, gf k = x := ⟨_, rfl⟩
              have hne := HI.ne (i - 1) (by omega)
              simp only [hr0, hx, hy, hzz, hm0] at t0 e00 e01 e10 e11 b1 b2 b3 hrec hne
              have hlen : 0 ≤ (lb.length : Int) := by omega
              replace HI := Lib.hid HI
              have HR := Lib.hid (And.intro hrec (And.intro hr0 (And.intro hx (And.intro hy (And.intro hzz hrow)))))
              have HC := Lib.hid (And.intro hca (And.intro hcb (And.intro hba hbb)))
              clear hrec hr0 hx hy hzz hrow hca hcb hba hbb SA SB
              go_wp2_with fail
              go_cut [42] (fun s wx' => ∃ gf', RIn (peqL la lb) lb.length w wx' (.slice (some ⟨g0, 0, none⟩) i cap) rs i r k gf' ∧ gf' k = ((min y z + 1 : Nat) : Int))
              case first =>
                go_region
                all_goals go_wp2_with fail
                all_goals go_meet
                all_goals exact ⟨_, (HI.out.set _).drewN 1, by simp; omega⟩
              case rest =>
                obtain ⟨gf', HI2, hgk'⟩ := hcut
                clear t0 e00 e01 e10 e11 f1
                obtain ⟨q1, q2, q3, q4, q5, q6⟩ := HR.out
                obtain ⟨hca, hcb, hba, hbb⟩ := HC.out
                have hB := HI2.below
                obtain ⟨g1, cap1, hu1, hg11, hg12, hcap1, hrow1⟩ := HI2.tab.form (by omega)
                obtain ⟨rfl, rfl⟩ : g0 = g1 ∧ cap = cap1 := by
                  injection hu1 with h1 h2 h3
                  exact ⟨congrArg Addr.block (Option.some.inj h1), h3⟩
                have t0 := hrow1 (i - 1) (by omega)
                have e00 := HI2.tab.cell (i := i - 1) (k := k - 1) (by omega) (by omega)
                have e11 := HI2.row.cell (i := k) (by omega)
                have f1 := HI2.row.frozen k
                rw [hgk'] at e11
                simp only [q2, q3] at t0 e00
                obtain ⟨n0, hn0⟩ : ∃ n, min y z + 1 = n := ⟨_, rfl⟩
                rw [hn0] at e11
                have s1 := hca (i - 1) (by omega)
                have s2 := hcb (k - 1) (by omega)
                obtain ⟨xa, hxa⟩ : ∃ x, la.getD (i - 1) ByteArray.empty = x := ⟨_, rfl⟩
                obtain ⟨xb, hxb⟩ : ∃ x, lb.getD (k - 1) ByteArray.empty = x := ⟨_, rfl⟩
                have hp : peqL la lb (i - 1) (k - 1) = (xa.toList == xb.toList) := by rw [← hxa, ← hxb]; rfl
                rw [hxa] at s1
                rw [hxb] at s2
                replace s1 := (World.cell?_of_block (hB.block ba hba)).trans s1
                replace s2 := (World.cell?_of_block (hB.block bb hbb)).trans s2
                have HI2' := Lib.hid HI2
                rw [hp] at q1
                have Q1 := Lib.hid q1
                have hnn : n0 ≤ 1000 := by omega
                have N0 := Lib.hid hn0
                have G0 := Lib.hid hgk'
                clear HI2 q1 q2 q3 q4 q5 q6 hca hcb hba hbb hxa hxb hp hn0 hB HR HC HI hgk' hrow1 hu1
                cases he : (xa.toList == xb.toList)
                · rw [he] at Q1
                  go_wp2_with fail
                  go_quiet (fail)
                  go_wp2_with fail
                  go_region
                  all_goals go_wp2_with fail
                  all_goals
                    go_roundg (lb.length + 1 - (k + 1))
                    case measure => go_light; omega
                    case rel =>
                      go_light
                      exact ⟨k + 1, _, by omega, by omega, by go_num, ((HI2'.out.drewN _).set _).next (by have e1 := Q1.out; have e2 := N0.out; simp at e1; simp; omega)⟩
                · rw [he] at Q1
                  go_wp2_with fail
                  go_quiet (fail)
                  go_wp2_with fail
                  go_region
                  all_goals go_wp2_with fail
                  all_goals
                    go_roundg (lb.length + 1 - (k + 1))
                    case measure => go_light; omega
                    case rel =>
                      go_light
                      exact ⟨k + 1, _, by omega, by omega, by go_num, ((HI2'.out.drewN _).set _).next (by have e1 := Q1.out; have e2 := N0.out; simp at e1; simp; omega)⟩
        · have hk' : k = lb.length + 1 := by omega
          subst hk'
          have hz : ¬ (((lb.length + 1 : Nat) : Int) ≤ (lb.length : Int)) := by omega
          replace HI := Lib.hid HI
          go_wp2_with (at_builtin; refine app_new _ rfl _ _ 60 61 rfl _ 1 24 Try.underlying60 info61 rfl (by decide) w.heap.size _ i (rs.map (rowV (lb.length + 1))) rfl (HI.out.tab.top) 1 1 _ rfl rfl (by simp [Value.oneCell']) (by unfold maxLen; omega) (by omega) (by exact HI.out.below.size) ?_; intro v' w2 hown' hgrow)
          go_roundg (la.length + 1 - (i + 1))
          case measure => go_light; omega
          case rel =>
            go_light
            exact ⟨i + 1, rs ++ [r], by omega, by omega, by go_num, rtab_push HI.out hown' hgrow, app_below HI.out.below HI.out.below.size HI.out.tab.top hgrow⟩
    · have hi' : i = la.length + 1 := by omega
      subst hi'
      have hz : ¬ (((la.length + 1 : Nat) : Int) ≤ (la.length : Int)) := by omega
      have HO := Lib.hid (And.intro hT hbl)
      clear hT hbl
      go_wp2_with fail
      go_ret
      exact ⟨_, rfl, ⟨_, HO.out.1⟩, HO.out.2⟩
end Go.Proofs.Ytmmcdncaiedmgaa
