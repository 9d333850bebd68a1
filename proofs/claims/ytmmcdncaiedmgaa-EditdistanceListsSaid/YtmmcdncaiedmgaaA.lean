import Derived.Test.YtmmcdncaiedmgaaProg
import Derived.Test.YtmmcdncaiedmgaaM
set_option linter.unusedVariables false
set_option linter.unusedSimpArgs false
namespace Go.Proofs.Ytmmcdncaiedmgaa
open Go.RowKit

theorem long_any (a b : Int) (w : World) :
    Calls Try.prog 41 #[.int .i64 a, .int .i64 b] w fun e w' => e = .returned (.bool (decide (256 < max a b))) ∧ w = w' := by
  rw [max_if]
  by_cases h : a < b
  · go_enter Try.func41, Try.ntmps41
    go_wp2
    go_ret
    exact ⟨by simp [h], rfl⟩
  · go_enter Try.func41, Try.ntmps41
    go_wp2
    go_ret
    exact ⟨by simp [h], rfl⟩

/-- `equal[byte]$1`: reads the two captured slices. -/
theorem eqb_any (pa pb : Addr) (ga gb : Nat) (na ca nb cb : Nat) (i k : Nat) (x y : Int) (w : World)
    (h1 : w.cell? pa = some (.slice (some ⟨ga, 0, none⟩) na ca)) (h2 : w.cell? pb = some (.slice (some ⟨gb, 0, none⟩) nb cb))
    (hi : i < na) (hk : k < nb) (hna : na ≤ 9223372036854775807) (hnb : nb ≤ 9223372036854775807)
    (hx : w.cell? ⟨ga, i, none⟩ = some (.int .u8 x)) (hy : w.cell? ⟨gb, k, none⟩ = some (.int .u8 y)) :
    Calls Try.prog 58 #[.int .i64 i, .int .i64 k, .pointer (some pa), .pointer (some pb)] w fun e w' => e = .returned (.bool (x == y)) ∧ ∃ n, w' = w.drewN n := by
  go_enter Try.func58, Try.ntmps58
  go_wp2
  go_quiet (fail)
  go_wp2
  go_ret
  exact ⟨rfl, _, rfl⟩

theorem equalb_any (aa : Option Addr) (na ca : Nat) (ab : Option Addr) (nb cb : Nat) (w : World) :
    Calls Try.prog 54 #[.slice aa na ca, .slice ab nb cb] w fun e w' => e = .returned (.func (.func 58) #[] #[.pointer (some ⟨w.heap.size, 0, none⟩), .pointer (some ⟨w.heap.size + 1, 0, none⟩)]) ∧ w' = (w.alloc (.cells #[.slice aa na ca] 64)).alloc (.cells #[.slice ab nb cb] 64) := by
  go_enter Try.func54, Try.ntmps54
  go_wp2
  go_ret
  exact ⟨rfl, rfl⟩

def lev (p : Nat → Nat → Bool) : Nat → Nat → Nat
  | 0 => fun k => k
  | i + 1 => fun k => Nat.rec (i + 1) (fun k r => min (lev p i k + if p i k then 0 else 1) (min (lev p i (k + 1) + 1) (r + 1))) k

theorem lev_zero (p : Nat → Nat → Bool) (k : Nat) : lev p 0 k = k := rfl
theorem lev_succ_zero (p : Nat → Nat → Bool) (i : Nat) : lev p (i + 1) 0 = i + 1 := rfl
theorem lev_succ_succ (p : Nat → Nat → Bool) (i k : Nat) : lev p (i + 1) (k + 1) = min (lev p i k + if p i k then 0 else 1) (min (lev p i (k + 1) + 1) (lev p (i + 1) k + 1)) := rfl
theorem lev_le (p : Nat → Nat → Bool) : ∀ i k, lev p i k ≤ i + k
  | 0, k => by rw [lev_zero]; omega
  | i + 1, 0 => by rw [lev_succ_zero]; omega
  | i + 1, k + 1 => by have := lev_le p i (k + 1); rw [lev_succ_succ]; omega

theorem info3 : (Try.prog.info? 3).map (fun i => (i.zero, i.size, i.bytes)) = some (some (.int .i64 0), 1, 8) := by kernel_rfl

/-- head of the outer loop: rows `gb` (last finished row of the table) and `gn` (scratch). -/
structure DOut (p : Nat → Nat → Bool) (m : Nat) (w wr : World) (gb gn i : Nat) : Prop where
  below : Below w.heap.size w wr
  lb : w.heap.size ≤ gb
  ln : w.heap.size ≤ gn
  ne : gb ≠ gn
  rb : wr.rowIs gb 3 (m + 1) (fun k => .int .i64 (lev p i k))
  rn : ∃ g : Nat → Int, wr.rowIs gn 3 (m + 1) (fun k => .int .i64 (g k))

theorem drewN_row {w : World} {b : Nat} {t : TypeId} {n : Nat} {f : Nat → Value} (h : w.rowIs b t n f) (q : Nat) : (w.drewN q).rowIs b t n f := h

theorem din_step {p : Nat → Nat → Bool} {m : Nat} {w wr : World} {gb gn i k : Nat} {gf : Nat → Int} (q : Nat) (v : Int) (hgn : w.heap.size ≤ gn) (hne : gb ≠ gn)
    (h : (wr.rowIs gb 3 (m + 1) (fun k => .int .i64 (lev p i k))) ∧ (wr.rowIs gn 3 (m + 1) (fun j => if j ≤ k then .int .i64 (lev p (i + 1) j) else .int .i64 (gf j))) ∧ Below w.heap.size w wr) (hv : v = lev p (i + 1) (k + 1)) :
    Below w.heap.size w ((wr.drewN q).setCell ⟨gn, k + 1, none⟩ (.int .i64 v)) ∧ ((wr.drewN q).setCell ⟨gn, k + 1, none⟩ (.int .i64 v)).rowIs gb 3 (m + 1) (fun k => .int .i64 (lev p i k)) ∧
      ((wr.drewN q).setCell ⟨gn, k + 1, none⟩ (.int .i64 v)).rowIs gn 3 (m + 1) (fun j => if j ≤ k + 1 then .int .i64 (lev p (i + 1) j) else .int .i64 (gf j)) := by
  obtain ⟨hb, hn, hl⟩ := h
  refine ⟨(drewN_below hl q).setCell hgn _, (drewN_row hb q).setOther hne _, ((drewN_row hn q).set (k + 1) _).congr fun j hj => ?_⟩
  by_cases e : j = k + 1
  · subst e; rw [if_pos rfl, if_pos (Nat.le_refl _), hv]
  · rw [if_neg e]
    by_cases h : j ≤ k
    · rw [if_pos h, if_pos (by omega)]
    · rw [if_neg h, if_neg (by omega)]

def sl (g n : Nat) : Value := .slice (some ⟨g, 0, none⟩) n n

set_option maxRecDepth 100000 in
theorem dist_any (fn : Nat) (pa pb : Value) (n m : Nat) (p : Nat → Nat → Bool) (w : World) (hn : n ≤ 256) (hm : m ≤ 256) (hcf : ∀ args w, (callFunc fn args).run Try.prog w = .ok (.enter fn args) w)
    (hs : ∀ i k w', i < n → k < m → Below w.heap.size w w' → Calls Try.prog fn #[.int .i64 i, .int .i64 k, pa, pb] w' fun e w'' => e = .returned (.bool (p i k)) ∧ ∃ q, w'' = w'.drewN q) :
    Calls Try.prog 43 #[.int .i64 n, .int .i64 m, .func (.func fn) #[] #[pa, pb]] w fun e w' => e = .returned (.int .i64 (lev p n m)) ∧ Below w.heap.size w w' := by
  have hs' := Lib.hid hs
  clear hs
  have hmk := run_make_row' (P := Try.prog) 61 3 (.int .i64 0) 8 Try.underlying61 info3 rfl .i64 .i64 (m + 1) (by omega) (by omega)
  have ec : ((m + 1 : Nat) : Int) = (m : Int) + 1 := by omega
  rw [ec] at hmk
  clear ec
  have hwr : IntKind.i64.wrap ((m : Int) + 1) = (m : Int) + 1 := by rw [IntKind.wrap_i64]; omega
  go_enter Try.func43, Try.ntmps43
  go_upto_region 1 with fail
  go_cut [7, 8] (fun s7 s8 wx => ∃ gb gn, s7 = .slice (some ⟨gb, 0, none⟩) (m + 1) (m + 1) ∧ s8 = .slice (some ⟨gn, 0, none⟩) (m + 1) (m + 1) ∧ gb ≠ gn ∧ w.heap.size ≤ gb ∧ w.heap.size ≤ gn ∧ Below w.heap.size w wx ∧ wx.rowIs gb 3 (m + 1) (fun _ => .int .i64 0) ∧ wx.rowIs gn 3 (m + 1) (fun _ => .int .i64 0))
  case first =>
    go_region
    all_goals (go_wp2_with fail; go_meet)
    · exact ⟨w.heap.size, w.heap.size + 1, rfl, rfl, by omega, by omega, by omega, (((Below.refl _ _).alloc (Nat.le_refl _) _).alloc (by simp) _).drew,
        ((World.rowIs_made _ _ _ _).alloc _).drew, by simpa using (World.rowIs_made (w.alloc (.cells (madeCells #[.int .i64 0] (m + 1)) 3)) (.int .i64 0) (m + 1) 3).drew⟩
    · exact ⟨w.heap.size + 1, w.heap.size, rfl, rfl, by omega, by omega, by omega, (((Below.refl _ _).alloc (Nat.le_refl _) _).alloc (by simp) _).drew,
        by simpa using (World.rowIs_made (w.alloc (.cells (madeCells #[.int .i64 0] (m + 1)) 3)) (.int .i64 0) (m + 1) 3).drew, ((World.rowIs_made _ _ _ _).alloc _).drew⟩
  case rest =>
    obtain ⟨gb, gn, rfl, rfl, hne, hgb, hgn, hbl, hrb, hrn⟩ := hcut
    clear hmk hwr
    go_wp2_with fail
    go_loopg [21] (m + 1) (fun g c wr => ∃ k : Nat, k ≤ m + 1 ∧ g = m + 1 - k ∧ c = .int .i64 k ∧ Below w.heap.size w wr ∧ wr.rowIs gb 3 (m + 1) (fun j => if j < k then .int .i64 j else .int .i64 0) ∧ wr.rowIs gn 3 (m + 1) (fun _ => .int .i64 0))
    case atStart => exact ⟨0, by omega, by omega, rfl, hbl, by simpa using hrb, hrn⟩
    case round =>
      obtain ⟨k, hk, hg, rfl, hbl1, hrb1, hrn1⟩ := hrel
      by_cases hlt : k < m + 1
      · have hltz : (k : Int) < (m : Int) + 1 := by omega
        have c1 := hrb1.cell hlt
        simp only [Nat.lt_irrefl, if_false] at c1
        have f1 := hrb1.frozen k
        have HR := Lib.hid (And.intro hrb1 (And.intro hrn1 hbl1))
        clear hrb1 hrn1 hbl1 hbl hrb hrn
        go_wp2
        go_roundg (m + 1 - (k + 1))
        case measure => go_light; omega
        case rel =>
          go_light
          obtain ⟨hrb1, hrn1, hbl1⟩ := HR.out
          exact ⟨k + 1, by omega, by omega, by go_num, hbl1.setCell hgb _, (hrb1.set k _).congr (fun j hj => by
            by_cases e : j = k
            · subst e; simp
            · rw [if_neg e]; by_cases h : j < k
              · rw [if_pos h, if_pos (by omega)]
              · rw [if_neg h, if_neg (by omega)]), hrn1.setOther (by show gn ≠ gb; omega) _⟩
      · have hk' : k = m + 1 := by omega
        subst hk'
        have hrb2 := hrb1.congr (g := fun j => .int .i64 (lev p 0 j)) (fun j hj => by rw [if_pos hj]; rfl)
        have HO : DOut p m w wr gb gn 0 := ⟨hbl1, hgb, hgn, hne, hrb2, ⟨fun _ => 0, hrn1⟩⟩
        clear hrb2 hrb1 hrn1 hbl1 hbl hrb hrn
        go_wp2_with fail
        clear hgb hgn hne
        go_loopg [7, 8, 30] n (fun g s7 s8 c wr => ∃ (i gb gn : Nat), i ≤ n ∧ g = n - i ∧ s7 = .slice (some ⟨gb, 0, none⟩) (m + 1) (m + 1) ∧ s8 = .slice (some ⟨gn, 0, none⟩) (m + 1) (m + 1) ∧ c = .int .i64 i ∧ DOut p m w wr gb gn i)
        case atStart => exact ⟨0, gb, gn, by omega, by omega, rfl, rfl, rfl, HO⟩
        case round =>
          clear HO
          obtain ⟨i, gb, gn, hi, hg, rfl, rfl, rfl, HO⟩ := hrel
          by_cases hlt : i < n
          · have hltz : (i : Int) < (n : Int) := by omega
            obtain ⟨hbl, hgb, hgn, hne, hrb, ⟨gf, hrn⟩⟩ := HO
            have c1 := hrn.cell (i := 0) (by omega)
            have f1 := hrn.frozen 0
            have HR := Lib.hid (And.intro hrb (And.intro hrn hbl))
            clear hrb hrn hbl
            go_wp2_with fail
            obtain ⟨hrb, hrn, hbl⟩ := HR.out
            have hbl1 := hbl.setCell (p := ⟨gn, 0, none⟩) hgn (.int .i64 ((i : Int) + 1))
            have hrn1 := hrn.set 0 (.int .i64 ((i : Int) + 1))
            have hrb1 := hrb.setOther (a := ⟨gn, 0, none⟩) hne (.int .i64 ((i : Int) + 1))
            clear hrb hrn hbl c1 f1 HR
            go_loopg [38] m (fun g c wr => ∃ k : Nat, k ≤ m ∧ g = m - k ∧ c = .int .i64 k ∧ Below w.heap.size w wr ∧ wr.rowIs gb 3 (m + 1) (fun k => .int .i64 (lev p i k)) ∧ wr.rowIs gn 3 (m + 1) (fun j => if j ≤ k then .int .i64 (lev p (i + 1) j) else .int .i64 (gf j)))
            case atStart => exact ⟨0, by omega, by omega, rfl, hbl1, hrb1, hrn1.congr (fun j hj => by
              by_cases e : j = 0
              · subst e; simp [lev_succ_zero]
              · rw [if_neg e, if_neg (by omega)])⟩
            case round =>
              obtain ⟨k, hk, hg, rfl, hbl, hrb, hrn⟩ := hrel
              clear hbl1 hrb1 hrn1
              by_cases hkm : k < m
              · have hkmz : (k : Int) < (m : Int) := by omega
                have hcall := hs'.out i k wr hlt hkm hbl
                have c1 := hrb.cell (i := k) (by omega)
                have c2 := hrb.cell (i := k + 1) (by omega)
                have c3 := hrn.cell (i := k) (by omega)
                have c4 := hrn.cell (i := k + 1) (by omega)
                have f4 := hrn.frozen (k + 1)
                rw [if_pos (Nat.le_refl k)] at c3
                rw [if_neg (by omega)] at c4
                have b1 : lev p i k ≤ 512 := by have := lev_le p i k; omega
                have b2 : lev p i (k + 1) ≤ 512 := by have := lev_le p i (k + 1); omega
                have b3 : lev p (i + 1) k ≤ 512 := by have := lev_le p (i + 1) k; omega
                have HR := Lib.hid (And.intro hrb (And.intro hrn hbl))
                clear hrb hrn hbl
                have hcall' := Lib.hid hcall
                clear hcall
                obtain ⟨x, hx⟩ : ∃ x, lev p i k = x := ⟨_, rfl⟩
                obtain ⟨y, hy⟩ : ∃ x, lev p i (k + 1) = x := ⟨_, rfl⟩
                obtain ⟨z, hz⟩ : ∃ x, lev p (i + 1) k = x := ⟨_, rfl⟩
                rw [hx] at b1 c1
                rw [hy] at b2 c2
                rw [hz] at b3 c3
                replace hx := Lib.hid hx
                replace hy := Lib.hid hy
                replace hz := Lib.hid hz
                cases hp : p i k
                · rw [hp] at hcall'
                  go_wp2_with (refine hcall'.out.mono ?_; rintro e w' ⟨rfl, q, rfl⟩)
                  go_region
                  all_goals go_wp2_with fail
                  all_goals
                    go_roundg (m - (k + 1))
                    case measure => go_light; omega
                    case rel =>
                      go_light
                      exact ⟨k + 1, by omega, by omega, by go_num, din_step _ _ hgn hne HR.out (by rw [lev_succ_succ, hp, hx.out, hy.out, hz.out]; simp only [Bool.false_eq_true, if_false]; omega)⟩
                · rw [hp] at hcall'
                  go_wp2_with (refine hcall'.out.mono ?_; rintro e w' ⟨rfl, q, rfl⟩)
                  go_region
                  all_goals go_wp2_with fail
                  all_goals
                    go_roundg (m - (k + 1))
                    case measure => go_light; omega
                    case rel =>
                      go_light
                      exact ⟨k + 1, by omega, by omega, by go_num, din_step _ _ hgn hne HR.out (by rw [lev_succ_succ, hp, hx.out, hy.out, hz.out]; simp only [if_true]; omega)⟩
              · have hk' : k = m := by omega
                subst hk'
                have HO : DOut p k w wr gn gb (i + 1) := ⟨hbl, hgn, hgb, fun e => hne e.symm, hrn.congr (fun j hj => by rw [if_pos (by omega)]), ⟨_, hrb⟩⟩
                clear hrb hrn hbl
                go_wp2_with fail
                go_roundg (n - (i + 1))
                case measure => go_light; omega
                case rel =>
                  go_light
                  exact ⟨i + 1, gn, gb, by omega, by omega, rfl, rfl, by go_num, HO⟩
          · have hi' : i = n := by omega
            subst hi'
            have c1 := HO.rb.cell (i := m) (by omega)
            have hb := HO.below
            have HB := Lib.hid hb
            clear hb HO
            go_wp2_with fail
            go_ret
            exact ⟨rfl, HB.out⟩
end Go.Proofs.Ytmmcdncaiedmgaa
