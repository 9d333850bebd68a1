import Derived.Test.YtmmcdncaiedmgaaI
import Derived.Lib.AppendStr
import Derived.Deep.RegionLaw
import Derived.Laws.BytesString
set_option linter.unusedVariables false
set_option linter.unusedSimpArgs false
namespace Go.Proofs.Ytmmcdncaiedmgaa
open Go.RowKit
/-! `Apply` -/
def badE (n : Int) (x : Ed) : Prop := x.at_ < 0 ∨ x.len < 0 ∨ n < x.at_ ∨ n - x.at_ < x.len
instance (n : Int) (x : Ed) : Decidable (badE n x) := by unfold badE; infer_instance
/-- the check of a list of edits: the error and the length of the result; `e` the end of the last edit, `m` the length so far -/
def chk (n : Int) : List Ed → Int → Int → Int × Int
  | [], _, m => (0, m)
  | x :: l, e, m => if badE n x then (2, 0) else if x.at_ < e then (10, 0) else chk n l (x.at_ + x.len) (m + (x.tx.size - x.len))
def applyL (A : List UInt8) : List Ed → Nat → List UInt8
  | [], t => A.drop t
  | x :: l, t => (A.drop t).take (x.at_.toNat - t) ++ bl x.tx ++ applyL A l (x.at_ + x.len).toNat
def applied (a : ByteArray) (l : List Ed) : ByteArray := ⟨(applyL (bl a) l 0).toArray⟩
/-- the results of `Apply` -/
def applyR (a : ByteArray) (l : List Ed) : ByteArray × Int :=
  if 65536 < a.size then (ByteArray.empty, 4)
  else if (chk a.size l 0 a.size).1 ≠ 0 then (ByteArray.empty, (chk a.size l 0 a.size).1)
  else if 65536 < (chk a.size l 0 a.size).2 then (ByteArray.empty, 4)
  else (applied a l, 0)
def ApplyPost (a : ByteArray) (l : List Ed) (w : World) (e : Ending) (w' : World) : Prop :=
  e = .returned (.tuple #[.string (applyR a l).1, .int .i64 (applyR a l).2]) ∧ Below w.heap.size w w'
theorem drop_edAt {l : List Ed} {i : Nat} (h : i < l.length) : l.drop i = edAt l i :: l.drop (i + 1) := by
  rw [List.drop_eq_getElem_cons h]; rw [edAt_get h]
theorem chk_bad {n e m : Int} {l : List Ed} {i : Nat} (h : i < l.length) (hb : badE n (edAt l i)) : chk n (l.drop i) e m = (2, 0) := by
  rw [drop_edAt h, chk, if_pos hb]
theorem chk_order {n e m : Int} {l : List Ed} {i : Nat} (h : i < l.length) (hb : ¬ badE n (edAt l i)) (ho : (edAt l i).at_ < e) : chk n (l.drop i) e m = (10, 0) := by
  rw [drop_edAt h, chk, if_neg hb, if_pos ho]
theorem chk_go {n e m : Int} {l : List Ed} {i : Nat} (h : i < l.length) (hb : ¬ badE n (edAt l i)) (ho : ¬ (edAt l i).at_ < e) : chk n (l.drop i) e m = chk n (l.drop (i + 1)) ((edAt l i).at_ + (edAt l i).len) (m + ((edAt l i).tx.size - (edAt l i).len)) := by
  rw [drop_edAt h, chk, if_neg hb, if_neg ho]
theorem apply_code {a : ByteArray} {l : List Ed} {c m : Int} (h : ¬ 65536 < a.size) (hc : chk a.size l 0 a.size = (c, m)) (h0 : c ≠ 0) : applyR a l = (ByteArray.empty, c) := by
  unfold applyR; rw [if_neg h, hc, if_pos h0]

def vb (X : List UInt8) : List Value := X.map fun b => Value.int .u8 b.toNat
theorem size_bl' (a : ByteArray) : (bl a).length = a.size := by simp [bl]
theorem vb_append (X Y : List UInt8) : vb (X ++ Y) = vb X ++ vb Y := List.map_append
theorem vb_cells (s : ByteArray) : Lib.strCells s = vb (bl s) := rfl
theorem vb_len (X : List UInt8) : (vb X).length = X.length := List.length_map _
theorem step_own_string {P : Program} {w : World} {ops : Array Oper} {o : Oper} {a : Act} {K : Act → World → Prop} {Q : Exit → Act → World → Prop} {E : Prop} (hgd : o.guard = none) (sl x : Operand) (t u : TypeId)
    (ho : o.op = .call { callee := .builtin .append, args := #[sl, x], argTypes := #[t, u] })
    (base : Nat) (e : TypeId) (ht : P.underlying t = some (.slice e)) (hu : P.underlying u = some .string) (hinfo : (P.info? e).map (fun i => (i.zero, i.size, i.bytes)) = some (some (.int .u8 0), 1, 1))
    (v : Value) (n : Nat) (xs : List Value) (hs : a.eval sl = v) (hown : w.ownsRow base e 1 v n xs) (s : ByteArray) (hx : a.eval x = .string s)
    (h63 : n + s.size ≤ maxLen) (hbytes : n + s.size ≤ 140737488355328) (hbase : base ≤ w.heap.size)
    (h : ∀ v' w', w'.ownsRow base e 1 v' (n + s.size) (xs ++ Lib.strCells s) → w.grownBy w' v.ownBlock → (v' = .slice none 0 0 ↔ v = .slice none 0 0 ∧ s.size = 0) → K (a.put o.dst v') w') :
    if Region.wanted o (yielded ops a.tmps) = true then Oper.wp P o a w K Q else E := by
  have hw : Region.wanted o (yielded ops a.tmps) = true := by simp [Region.wanted, hgd]
  rw [if_pos hw]
  obtain ⟨i, hi, hz, hsi, hb⟩ := info_parts hinfo
  obtain ⟨v', w', hr, h2, h3, h4⟩ := Lib.run_append_own_string (P := P) w base t u o.type e i ht hu hi hz hsi hb v n xs hown s h63 hbytes hbase
  unfold Oper.wp execOp
  simp only [ho, resolve, invoke, builtin, Sem.run_bind, Sem.run_pure, Result.andThen_ok, List.map_toArray, List.map_cons, List.map_nil, hs, hx, hr]
  exact h _ _ h2 h3 h4
theorem bytes_back {w : World} {base : Nat} {v : Value} {X : List UInt8} (h : w.ownsRow base 5 1 v X.length (vb X)) (hv : v ≠ .slice none 0 0) :
    (convert 64 9 v).run Try.prog w = .ok (.string ⟨X.toArray⟩) w := by
  rcases own_forms h with ⟨rfl, _⟩ | ⟨g, cap, rfl, hg1, hg2, hcap⟩
  · exact absurd rfl hv
  · refine run_convert_bytes_back w 64 9 5 ⟨g, 0, none⟩ cap X Try.underlying64 Try.underlying5 Try.underlying9 fun j hj => ?_
    exact h.cells (g := g) rfl j _ (by simp [vb, hj])
theorem applied_eq {a : ByteArray} {l : List Ed} {m : Int} (h : ¬ 65536 < a.size) (hc : chk a.size l 0 a.size = (0, m)) (hm : ¬ 65536 < m) : applyR a l = (applied a l, 0) := by
  unfold applyR; rw [if_neg h, hc, if_neg (by simp), if_neg hm]
theorem apply_great {a : ByteArray} {l : List Ed} {m : Int} (h : ¬ 65536 < a.size) (hc : chk a.size l 0 a.size = (0, m)) (hm : 65536 < m) : applyR a l = (ByteArray.empty, 4) := by
  unfold applyR; rw [if_neg h, hc, if_neg (by simp), if_pos hm]
theorem chk_ok {n e m M : Int} {l : List Ed} {i : Nat} (h : i < l.length) (hc : chk n (l.drop i) e m = (0, M)) : ¬ badE n (edAt l i) ∧ ¬ (edAt l i).at_ < e ∧ chk n (l.drop (i + 1)) ((edAt l i).at_ + (edAt l i).len) (m + ((edAt l i).tx.size - (edAt l i).len)) = (0, M) := by
  by_cases hb : badE n (edAt l i)
  · rw [chk_bad h hb] at hc; exact absurd (Prod.mk.inj hc).1 (by decide)
  · by_cases ho : (edAt l i).at_ < e
    · rw [chk_order h hb ho] at hc; exact absurd (Prod.mk.inj hc).1 (by decide)
    · exact ⟨hb, ho, by rw [← hc, chk_go h hb ho]⟩
theorem applyL_go {A : List UInt8} {l : List Ed} {i t : Nat} (h : i < l.length) : applyL A (l.drop i) t = (A.drop t).take ((edAt l i).at_.toNat - t) ++ bl (edAt l i).tx ++ applyL A (l.drop (i + 1)) ((edAt l i).at_ + (edAt l i).len).toNat := by
  rw [drop_edAt h, applyL]
theorem own_ne {w : World} {base n bx : Nat} {v : Value} {xs : List Value} {c : Array Value} {t : TypeId} {f : Nat × Nat} (h : w.ownsRow base 5 1 v n xs) (hb : w.heap[bx]? = some (.cells c t f)) (ht : t ≠ 5) : some bx ≠ v.ownBlock := by
  intro e
  rcases own_forms h with ⟨rfl, _⟩ | ⟨g, cap, rfl, hg1, hg2, hcap⟩
  · cases e
  · injection e with e
    subst e
    obtain ⟨c', h1, _⟩ := own_has h
    rw [hb] at h1
    injection h1 with h1
    injection h1 with _ h2
    exact ht h2
theorem bl_ext (s : ByteArray) (i j : Nat) : bl (s.extract i j) = ((bl s).drop i).take (j - i) := by
  simp [bl, ByteArray.data_extract, List.extract_eq_take_drop]

theorem info5 : (Try.prog.info? 5).map (fun i => (i.zero, i.size, i.bytes)) = some (some (.int .u8 0), 1, 1) := by kernel_rfl

set_option maxHeartbeats 16000000 in
set_option maxRecDepth 1000000 in
theorem apply_any (a : ByteArray) (l : List Ed) (A : Option Addr) (c : Nat) (w : World) (h : Eds w w.heap.size A l) (hl : l.length ≤ 1000000) (ha : a.size ≤ 9223372036854775807) (htx : ∀ x ∈ l, x.tx.size ≤ 256)
    (hr : ∀ x ∈ l, -9223372036854775808 ≤ x.at_ ∧ x.at_ ≤ 9223372036854775807 ∧ -9223372036854775808 ≤ x.len ∧ x.len ≤ 9223372036854775807) :
    Calls Try.prog 25 #[.string a, .slice A l.length c] w (ApplyPost a l w) := by
  by_cases hbig : 65536 < a.size
  · have hz : decide ((65536 : Int) < (a.size : Int)) = true := by simp; omega
    have hR : applyR a l = (ByteArray.empty, 4) := by unfold applyR; rw [if_pos hbig]
    unfold ApplyPost
    rw [hR]
    go_enter Try.func25, Try.ntmps25
    go_wp2_with fail
    go_ret2
    exact ⟨rfl, Below.refl _ _⟩
  · have hz : decide ((65536 : Int) < (a.size : Int)) = false := by simp; omega
    have hab : a.size ≤ 65536 := by omega
    clear ha
    go_enter Try.func25, Try.ntmps25
    go_wp2_with fail
    go_loopg [21, 6, 7] l.length (fun g s21 s6 s7 wr => ∃ (i : Nat) (e m : Int), i ≤ l.length ∧ g = l.length - i ∧ s21 = .int .i64 i ∧ s6 = .int .i64 e ∧ s7 = .int .i64 m ∧ Below w.heap.size w wr ∧
        chk a.size (l.drop i) e m = chk a.size l 0 a.size ∧ 0 ≤ e ∧ e ≤ a.size ∧ a.size - e ≤ m ∧ m ≤ a.size + 256 * i)
    case atStart => exact ⟨0, 0, a.size, by omega, by omega, rfl, rfl, rfl, Below.refl _ _, rfl, by omega, by omega, by omega, by omega⟩
    case round =>
      obtain ⟨i, e, m, hi, hg, rfl, rfl, rfl, hbl, hck, he0, he1, hm0, hm1⟩ := hrel
      by_cases hlt : i < l.length
      · have hltz : (i : Int) < (l.length : Int) := by omega
        obtain ⟨b, o, rfl, hb, hc⟩ := (h.below hbl) (by omega)
        obtain ⟨c0, c1, c2⟩ := hc i hlt
        have hmem : edAt l i ∈ l := by rw [← edAt_get hlt]; exact List.getElem_mem hlt
        have ht := htx _ hmem
        have hrr := hr _ hmem
        have k1 := fun h => chk_bad (n := a.size) (e := e) (m := m) hlt h
        have k2 := fun h h' => chk_order (n := a.size) (e := e) (m := m) hlt h h'
        have k3 := fun h h' => chk_go (n := a.size) (e := e) (m := m) hlt h h'
        obtain ⟨x, hx⟩ : ∃ y, edAt l i = y := ⟨_, rfl⟩
        rw [hx] at c0 c1 c2 ht hrr k1 k2 k3
        obtain ⟨xa, xl, xt⟩ := x
        simp only at c0 c1 c2 ht hrr k1 k2 k3
        rw [hck] at k1 k2 k3
        clear hc h hx hck hmem
        obtain ⟨r1, r2, r3, r4⟩ := hrr
        have HB := Lib.hid hbl
        clear hbl
        by_cases hbad : badE a.size ⟨xa, xl, xt⟩
        · have hR := Lib.hid (apply_code hbig (k1 hbad) (by decide))
          clear k1 k2 k3
          have hcase : xa < 0 ∨ (0 ≤ xa ∧ xl < 0) ∨ (0 ≤ xa ∧ 0 ≤ xl ∧ (a.size : Int) < xa) ∨ (0 ≤ xa ∧ 0 ≤ xl ∧ xa ≤ (a.size : Int) ∧ (a.size : Int) - xa < xl) := by
            unfold badE at hbad; simp only at hbad; omega
          clear hbad
          rcases hcase with b1 | ⟨b1, b2⟩ | ⟨b1, b2, b3⟩ | ⟨b1, b2, b3, b4⟩
          all_goals
            go_wp2_with fail
            go_ret2
            unfold ApplyPost
            rw [hR.out]
            exact ⟨rfl, (HB.out.alloc HB.out.size _)⟩
        · have hgood : 0 ≤ xa ∧ 0 ≤ xl ∧ xa ≤ (a.size : Int) ∧ xl ≤ (a.size : Int) - xa := by
            unfold badE at hbad; simp only at hbad; omega
          obtain ⟨b1, b2, b3, b4⟩ := hgood
          by_cases ho : xa < e
          · have hR := Lib.hid (apply_code hbig (k2 hbad ho) (by decide))
            clear k1 k2 k3 hbad
            go_wp2_with fail
            go_ret2
            unfold ApplyPost
            rw [hR.out]
            exact ⟨rfl, (HB.out.alloc HB.out.size _)⟩
          · have hk := Lib.hid (k3 hbad ho)
            clear k1 k2 k3 hbad
            go_wp2_with fail
            go_roundg (l.length - (i + 1))
            case measure => go_light; omega
            case rel =>
              go_light
              exact ⟨i + 1, xa + xl, m + ((xt.size : Int) - xl), by omega, by omega, by go_num, by go_num, by go_num, HB.out.alloc HB.out.size _, hk.out.symm, by omega, by omega, by omega, by omega⟩
      · have hi' : i = l.length := by omega
        subst hi'
        rw [List.drop_length, chk] at hck
        obtain ⟨mn, rfl⟩ : ∃ mn : Nat, m = (mn : Int) := ⟨m.toNat, by omega⟩
        by_cases hmb : 65536 < (mn : Int)
        · have hR := Lib.hid (apply_great hbig hck.symm hmb)
          clear hck
          go_wp2_with fail
          go_ret2
          unfold ApplyPost
          rw [hR.out]
          exact ⟨rfl, hbl⟩
        · have hR := Lib.hid (applied_eq hbig hck.symm hmb)
          replace hck := Lib.hid hck.symm
          obtain ⟨i5, hi5, hz5, hs5, hb5⟩ := info_parts info5
          go_wp2_with (at_make; refine wpList_make_own _ rfl _ _ 64 rfl w.heap.size 5 i5 _ 1 Try.underlying64 hi5 hz5 hs5 .i64 .i64 _ mn rfl rfl rfl (by rw [hb5]; omega) (by unfold maxLen; omega) hbl.size ?_; intro w1 hown hgrow)
          have hbl1 : Below w.heap.size w w1 := hbl.grown hgrow hbl.size (fun k hk => by cases hk)
          clear hgrow hbl
          go_loopg [76, 11, 10] l.length (fun g s76 s11 s10 wr => ∃ (i t : Nat) (m : Int) (X : List UInt8), i ≤ l.length ∧ g = l.length - i ∧ s76 = .int .i64 i ∧ s11 = .int .i64 t ∧ s10 ≠ .slice none 0 0 ∧ wr.ownsRow w.heap.size 5 1 s10 X.length (vb X) ∧ Below w.heap.size w wr ∧
              X ++ applyL (bl a) (l.drop i) t = applyL (bl a) l 0 ∧ chk a.size (l.drop i) t m = (0, (mn : Int)) ∧ t ≤ a.size ∧ X.length ≤ t + 256 * i)
          case atStart => exact ⟨0, 0, a.size, [], by omega, by omega, rfl, rfl, by simp, hown, hbl1, rfl, by exact hck.out, by omega, by simp⟩
          case round =>
            clear hown hbl1 he0 he1 hm0 hm1
            obtain ⟨i, t, m, X, hi, hg, rfl, rfl, hv, hown, hbl, hap, hck2, ht, hX⟩ := hrel
            by_cases hlt : i < l.length
            · have hltz : (i : Int) < (l.length : Int) := by omega
              obtain ⟨b, o, rfl, hb, hc⟩ := (h.below hbl) (by omega)
              obtain ⟨c0, c1, c2⟩ := hc i hlt
              have hmem : edAt l i ∈ l := by rw [← edAt_get hlt]; exact List.getElem_mem hlt
              have hxs := htx _ hmem
              obtain ⟨k1, k2, k3⟩ := chk_ok hlt hck2
              have k4 := applyL_go (A := bl a) (t := t) hlt
              obtain ⟨x, hx⟩ : ∃ y, edAt l i = y := ⟨_, rfl⟩
              rw [hx] at c0 c1 c2 hxs k1 k2 k3 k4
              obtain ⟨xa, xl, xt⟩ := x
              simp only at c0 c1 c2 hxs k1 k2 k3 k4
              rw [k4] at hap
              have hgood : 0 ≤ xa ∧ 0 ≤ xl ∧ xa ≤ (a.size : Int) ∧ xl ≤ (a.size : Int) - xa := by
                unfold badE at k1; simp only at k1; omega
              obtain ⟨b1, b2, b3, b4⟩ := hgood
              obtain ⟨xn, rfl⟩ : ∃ n : Nat, xa = (n : Int) := ⟨xa.toNat, by omega⟩
              obtain ⟨xm, rfl⟩ : ∃ n : Nat, xl = (n : Int) := ⟨xl.toNat, by omega⟩
              clear hc h hx hck2 hmem k1 k4
              have HB := Lib.hid (And.intro hap (And.intro k3 (And.intro hown (And.intro hbl hv))))
              clear hap k3 hown hbl hv hck
              have hsl0 := fun W => run_slice_string (P := Try.prog) W 9 a .i64 .i64 (t : Int) (xn : Int) Try.underlying9 (by omega) (by omega) (by omega)
              go_upto_region 21 with fail
              obtain ⟨W, hW⟩ : ∃ W, wr.alloc (.cells #[.int .i64 (xn : Int), .int .i64 (xm : Int), .string xt] 43) = W := ⟨_, rfl⟩
              have hown : W.ownsRow w.heap.size 5 1 u10 X.length (vb X) := by rw [← hW]; exact HB.out.2.2.1.alloc _
              have hbl : Below w.heap.size w W := by rw [← hW]; exact HB.out.2.2.2.1.alloc HB.out.2.2.2.1.size _
              obtain ⟨bx, hbx⟩ : ∃ bx, wr.heap.size = bx := ⟨_, rfl⟩
              have q0 : W.cell? ⟨bx, 0, none⟩ = some (.int .i64 (xn : Int)) := by rw [← hW, ← hbx, World.cell?_alloc_new]; rfl
              have q1 : W.cell? ⟨bx, 1, none⟩ = some (.int .i64 (xm : Int)) := by rw [← hW, ← hbx, World.cell?_alloc_new]; rfl
              have q2 : W.cell? ⟨bx, 2, none⟩ = some (.string xt) := by rw [← hW, ← hbx, World.cell?_alloc_new]; rfl
              have hne : some bx ≠ u10.ownBlock := fun e => by
                have := (HB.out.2.2.1.lt bx e.symm).2; omega
              have hbw : bx < W.heap.size := by rw [← hW, ← hbx]; simp
              have hsz : (a.extract t xn).size ≤ 65536 := by rw [ByteArray.size_extract]; omega
              have hq : W.heap[bx]? = some (.cells #[.int .i64 (xn : Int), .int .i64 (xm : Int), .string xt] 43 (0, 0)) := by rw [← hW, ← hbx]; exact heap_alloc_new _ _
              rw [hW, hbx]
              clear hW hbx c0 c1 c2
              go_cut [10] (fun s10 wx => s10 ≠ .slice none 0 0 ∧ wx.ownsRow w.heap.size 5 1 s10 (X.length + (a.extract t xn).size + xt.size) (vb X ++ Lib.strCells (a.extract t xn) ++ Lib.strCells xt) ∧ Below w.heap.size w wx ∧ wx.cell? ⟨bx, 0, none⟩ = some (.int .i64 (xn : Int)) ∧ wx.cell? ⟨bx, 1, none⟩ = some (.int .i64 (xm : Int)))
              case first =>
                go_region_law (first
                  | (refine step_own_string rfl _ _ 64 9 rfl w.heap.size 5 Try.underlying64 Try.underlying9 info5 u10 X.length (vb X) rfl hown (a.extract t xn) rfl (by unfold maxLen; omega) (by omega) hbl.size ?_; intro v1 w1 hown1 hgrow1 hnil1; have q01 := hgrow1.cell (a := ⟨bx, 0, none⟩) q0 hne; have q11 := hgrow1.cell (a := ⟨bx, 1, none⟩) q1 hne; have q21 := hgrow1.cell (a := ⟨bx, 2, none⟩) q2 hne; have hbl1 := hbl.drew.grown hgrow1 hbl.size (fun k hk => (hown.lt k hk).1))
                  | (refine step_own_string rfl _ _ 64 9 rfl w.heap.size 5 Try.underlying64 Try.underlying9 info5 _ _ _ rfl hown1 xt rfl (by unfold maxLen; omega) (by omega) hbl1.size ?_; intro v2 w2 hown2 hgrow2 hnil2))
                all_goals (go_wp2_with fail; go_meet)
                all_goals
                  have hne2 := own_ne hown1 ((hgrow1.block bx hbw hne).trans hq) (by decide)
                  exact ⟨fun e => HB.out.2.2.2.2 (hnil1.1 (hnil2.1 e).1).1, hown2, hbl1.grown hgrow2 hbl1.size (fun k hk => (hown1.lt k hk).1), hgrow2.cell q01 hne2, hgrow2.cell q11 hne2⟩
              case rest =>
                obtain ⟨hv', hown', hbl', q0', q1'⟩ := hcut
                clear hq q0 q1 q2 hne hbw hown hbl
                replace hv' := Lib.hid hv'
                replace hown' := Lib.hid hown'
                replace hbl' := Lib.hid hbl'
                go_wp2_with fail
                go_roundg (l.length - (i + 1))
                case measure => go_light; omega
                case rel =>
                  go_light
                  obtain ⟨z1, z2, z3, z4, z5⟩ := HB.out
                  refine ⟨i + 1, xn + xm, m + ((xt.size : Int) - xm), X ++ bl (a.extract t xn) ++ bl xt, by omega, by omega, by go_num, by go_num, hv'.out, ?_, hbl'.out, ?_, ?_, by omega, ?_⟩
                  · rw [List.length_append, List.length_append, size_bl', size_bl', vb_append, vb_append, ← vb_cells, ← vb_cells]; exact hown'.out
                  · have hz : ((xn : Int) + (xm : Int)).toNat = xn + xm := by omega
                    rw [← z1, bl_ext, hz]; simp
                  · exact z2
                  · rw [List.length_append, List.length_append, size_bl', size_bl', ByteArray.size_extract]; omega
            · have hi' : i = l.length := by omega
              subst hi'
              rw [List.drop_length, applyL] at hap
              have hsz : (a.extract t a.size).size ≤ 65536 := by rw [ByteArray.size_extract]; omega
              have HB := Lib.hid (And.intro hap (And.intro hown (And.intro hbl hv)))
              clear hap hown hbl hv hck hck2
              have hsl0 := fun W => run_slice_string_l (P := Try.prog) W 9 a Try.underlying9 .i64 (t : Int) (by omega) (by omega)
              go_wp2_with (at_builtin; refine Lib.wpList_append_own_string _ rfl _ _ 64 9 rfl w.heap.size 5 i5 Try.underlying64 Try.underlying9 hi5 hz5 hs5 hb5 u10 X.length (vb X) rfl HB.out.2.1 (a.extract t a.size) rfl (by unfold maxLen; omega) (by omega) HB.out.2.2.1.size ?_; intro v1 w1 hown1 hgrow1 hnil1)
              have hX' : X ++ bl (a.extract t a.size) = applyL (bl a) l 0 := by
                rw [← HB.out.1, bl_ext, List.take_of_length_le (by rw [List.length_drop, size_bl']; exact Nat.le_refl _)]
              have hcv : (convert 64 9 v1).run Try.prog w1 = .ok (.string (applied a l)) w1 := by
                rw [applied, ← hX']
                refine bytes_back (base := w.heap.size) ?_ (fun e => HB.out.2.2.2 (hnil1.1 e).1)
                rw [List.length_append, size_bl', vb_append, ← vb_cells]; exact hown1
              have hbl1 := Lib.hid (HB.out.2.2.1.grown hgrow1 HB.out.2.2.1.size (fun k hk => (HB.out.2.1.lt k hk).1))
              clear hown1 hgrow1 hnil1 hX'
              go_wp2_with fail
              rw [hcv]
              go_wp2_with fail
              go_ret2
              unfold ApplyPost
              rw [hR.out]
              exact ⟨rfl, hbl1.out⟩
end Go.Proofs.Ytmmcdncaiedmgaa
