import Derived.Test.YtmmcdncaiedmgaaK2
import Derived.Test.YtmmcdncaiedmgaaJ1
set_option linter.unusedVariables false
set_option linter.unusedSimpArgs false
namespace Go.Proofs.Ytmmcdncaiedmgaa
open Go.RowKit
theorem same_words (A A' : Option Addr) (c c' : Nat) (l l' : List ByteArray) (w : World) (B : Nat) (h : Strs w B A l) (h' : Strs w B A' l') (hl : l.length ≤ 1000000) (hl' : l'.length ≤ 1000000) :
    Calls Try.prog 34 #[.slice A l.length c, .slice A' l'.length c'] w fun e w' => e = .returned (.bool (decide (l = l'))) ∧ ∃ n, w' = w.drewN n := by
  by_cases hlen : l.length = l'.length
  · have hb0 : ((l.length : Int) != (l'.length : Int)) = false := by simp [hlen]
    have hlen' := Lib.hid hlen
    have hle : l.length ≤ l'.length := by omega
    clear hlen
    go_enter Try.func34, Try.ntmps34
    go_wp2_with fail
    go_loopg [5] (l.length) (fun g s wr => ∃ i : Nat, i ≤ l.length ∧ g = l.length - i ∧ s = .int .i64 i ∧ (∃ n, wr = w.drewN n) ∧ (∀ j, j < i → l.getD j ByteArray.empty = l'.getD j ByteArray.empty))
    case atStart => exact ⟨0, by omega, by omega, rfl, ⟨0, rfl⟩, fun j hj => absurd hj (Nat.not_lt_zero _)⟩
    case round =>
      obtain ⟨i, hi, hg, rfl, ⟨q, rfl⟩, hyes⟩ := hrel
      by_cases hlt : i < l.length
      · obtain ⟨b, o, rfl, hb, hc⟩ := h (by omega)
        obtain ⟨b', o', rfl, hb', hc'⟩ := h' (by omega)
        have hltz : (i : Int) < (l.length : Int) := by omega
        have hltz' : (i : Int) < (l'.length : Int) := by omega
        have c0 := hc i hlt
        have d0 := hc' i (by omega)
        clear hc hc'
        obtain ⟨x, hx⟩ : ∃ y, l.getD i ByteArray.empty = y := ⟨_, rfl⟩
        obtain ⟨y, hy⟩ : ∃ y, l'.getD i ByteArray.empty = y := ⟨_, rfl⟩
        rw [hx] at c0
        rw [hy] at d0
        have HY := Lib.hid (And.intro hx (And.intro hy hyes))
        clear hx hy hyes h h'
        by_cases he : x = y
        · have hb1 : (x.toList == y.toList) = true := by rw [str_beq]; simpa using he
          have hb2 : (x.toList != y.toList) = false := by rw [bne, hb1]; rfl
          have HE := Lib.hid he
          clear he
          go_wp2_with fail
          go_quiet (fail)
          go_wp2_with fail
          go_roundg (l.length - (i + 1))
          case measure => go_light; omega
          case rel =>
            go_light
            obtain ⟨h1, h2, h3⟩ := HY.out
            refine ⟨i + 1, by omega, by omega, by go_num, ⟨_, rfl⟩, fun j hj => ?_⟩
            by_cases e : j = i
            · subst e; rw [h1, h2]; exact HE.out
            · exact h3 j (by omega)
        · have hb1 : (x.toList == y.toList) = false := by rw [str_beq]; simpa using he
          have hb2 : (x.toList != y.toList) = true := by rw [bne, hb1]; rfl
          have HE := Lib.hid he
          clear he
          go_wp2_with fail
          go_quiet (fail)
          go_wp2_with fail
          go_ret
          go_light
          obtain ⟨h1, h2, h3⟩ := HY.out
          exact ⟨ret_bool (by symm; rw [decide_eq_false_iff_not]; intro e; exact HE.out (by rw [← h1, ← h2, e])), _, World.drewN_drewN _ _ _⟩
      · have HY := Lib.hid hyes
        clear hyes
        go_wp2_with fail
        go_ret
        go_light
        refine ⟨ret_bool ?_, _, rfl⟩
        symm
        rw [decide_eq_true_iff]
        refine List.ext_getElem hlen'.out fun j h1 h2 => ?_
        have := HY.out j (by omega)
        simpa [List.getD_eq_getElem?_getD, List.getElem?_eq_getElem h1, List.getElem?_eq_getElem h2] using this
  · have hb0 : ((l.length : Int) != (l'.length : Int)) = true := by simp; omega
    have hlen' := Lib.hid hlen
    clear hlen
    go_enter Try.func34, Try.ntmps34
    go_wp2_with fail
    go_ret
    exact ⟨ret_bool (by symm; rw [decide_eq_false_iff_not]; intro e; exact hlen'.out (by rw [e])), 0, rfl⟩

/-- the reference's table of lengths: the rows from `i` on are there; row `i` is `g`, right from column `x` on -/
structure LTab (la lb : List ByteArray) (w wr : World) (i x : Nat) (g : Nat → Int) : Prop where
  below : Below w.heap.size w wr
  size : wr.heap.size = w.heap.size + 1 + (la.length + 1 - i)
  top : Has wr w.heap.size 61 (la.length + 1) (fun j => if i ≤ j then .slice (some ⟨w.heap.size + 1 + (la.length - j), 0, none⟩) (lb.length + 1) (lb.length + 1) else .slice none 0 0)
  rows : ∀ j, i < j → j ≤ la.length → Has wr (w.heap.size + 1 + (la.length - j)) 3 (lb.length + 1) (fun k => .int .i64 (R la lb j k))
  row : i ≤ la.length → Has wr (w.heap.size + 1 + (la.length - i)) 3 (lb.length + 1) (fun k => .int .i64 (g k))
  pre : ∀ k, x ≤ k → k ≤ lb.length → g k = R la lb i k
namespace LTab
variable {la lb : List ByteArray} {w wr : World} {i x : Nat} {g : Nat → Int}
theorem drewN (h : LTab la lb w wr i x g) (q : Nat) : LTab la lb w (wr.drewN q) i x g :=
  ⟨drewN_below h.below q, h.size, h.top.drewN q, fun j h1 h2 => (h.rows j h1 h2).drewN q, fun h1 => (h.row h1).drewN q, h.pre⟩
theorem set (h : LTab la lb w wr i x g) (hi : i ≤ la.length) (k : Nat) (v : Int) (hk : k < x) : LTab la lb w (wr.setCell ⟨w.heap.size + 1 + (la.length - i), k, none⟩ (.int .i64 v)) i x (fun k' => if k' = k then v else g k') :=
  ⟨h.below.setCell (by show w.heap.size ≤ w.heap.size + 1 + (la.length - i); omega) _, by simpa using h.size, h.top.far (by show w.heap.size ≠ w.heap.size + 1 + (la.length - i); omega) _, fun j h1 h2 => (h.rows j h1 h2).far (by show w.heap.size + 1 + (la.length - j) ≠ w.heap.size + 1 + (la.length - i); omega) _,
    fun h1 => ((h.row h1).set k (.int .i64 v)).congr fun k' hk' => (apply_ite (Value.int .i64) _ _ _).symm, fun k' h1 h2 => by rw [if_neg (by omega)]; exact h.pre k' h1 h2⟩
theorem next (h : LTab la lb w wr i (x + 1) g) (e : g x = R la lb i x) : LTab la lb w wr i x g :=
  ⟨h.below, h.size, h.top, h.rows, h.row, fun k h1 h2 => by
    by_cases q : k = x
    · subst q; exact e
    · exact h.pre k (by omega) h2⟩
theorem store {k r : Nat} (h : LTab la lb w wr i (k + 1) g) (hi : i ≤ la.length) (hr : w.heap.size + 1 + (la.length - i) = r) (q : Nat) {v : Int} (hv : v = R la lb i k) :
    LTab la lb w ((wr.drewN q).setCell ⟨r, k, none⟩ (.int .i64 v)) i k (fun k' => if k' = k then v else g k') := by
  subst hr
  exact ((h.drewN q).set hi k v (Nat.lt_succ_self k)).next (by simpa using hv)
/-- the next row: made and put into the table -/
theorem push (h : LTab la lb w wr (i + 1) 0 g) (hi : i ≤ la.length) :
    LTab la lb w ((wr.alloc (.cells (madeCells #[.int .i64 0] (lb.length + 1)) 3)).setCell ⟨w.heap.size, i, none⟩ (.slice (some ⟨w.heap.size + 1 + (la.length - i), 0, none⟩) (lb.length + 1) (lb.length + 1))) i lb.length (fun _ => 0) := by
  have hs := h.size
  have hnew := Has.made wr (.int .i64 0) (lb.length + 1) 3
  rw [hs, show w.heap.size + 1 + (la.length + 1 - (i + 1)) = w.heap.size + 1 + (la.length - i) by omega] at hnew
  have hsz := h.below.size
  refine ⟨(h.below.alloc hsz _).setCell (Nat.le_refl _) _, by simp [hs]; omega, ?_, fun j h1 h2 => ?_, fun _ => hnew.far (by show w.heap.size + 1 + (la.length - i) ≠ w.heap.size; omega) _, fun k h1 h2 => ?_⟩
  · refine ((h.top.alloc _).set i _).congr fun j hj => ?_
    by_cases e : j = i
    · subst e; simp
    · by_cases e2 : i ≤ j
      · rw [if_neg e, if_pos (by omega), if_pos e2]
      · rw [if_neg e, if_neg (by omega), if_neg e2]
  · have hne : w.heap.size + 1 + (la.length - j) ≠ w.heap.size := by omega
    by_cases e : j = i + 1
    · subst e
      exact (((h.row (by omega)).congr fun k hk => by rw [h.pre k (by omega) (by omega)]).alloc _).far hne _
    · exact ((h.rows j (by omega) h2).alloc _).far hne _
  · obtain rfl : k = lb.length := by omega
    rw [R_end_right la lb i lb.length (Nat.le_refl _)]; rfl
end LTab
end Go.Proofs.Ytmmcdncaiedmgaa
