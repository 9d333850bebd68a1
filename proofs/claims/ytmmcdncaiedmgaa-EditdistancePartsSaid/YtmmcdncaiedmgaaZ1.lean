import Derived.Test.YtmmcdncaiedmgaaD
import Derived.Test.YtmmcdncaiedmgaaF
import Derived.Test.YtmmcdncaiedmgaaP
set_option linter.unusedVariables false
set_option linter.unusedSimpArgs false
namespace Go.Proofs.Ytmmcdncaiedmgaa
open Go.RowKit
/-- the first `n` cells of block `g` are `M` and may be written -/
def Bs (w : World) (g n : Nat) (M : Nat → UInt8) : Prop := ∃ (c : Array Value) (lo hi : Nat), w.heap[g]? = some (.cells c 5 (lo, hi)) ∧ n ≤ c.size ∧ n ≤ lo ∧ ∀ i, i < n → c[i]? = some (.int .u8 (M i).toNat)
namespace Bs
variable {w : World} {g n : Nat} {M M' : Nat → UInt8}
theorem cell (h : Bs w g n M) {i : Nat} (hi : i < n) : w.cell? ⟨g, i, none⟩ = some (.int .u8 (M i).toNat) := by
  obtain ⟨c, lo, hi', hb, _, _, hc⟩ := h
  simp [World.cell?, hb, hc i hi]
theorem frozen (h : Bs w g n M) {i : Nat} (hi : i < n) : w.frozen? ⟨g, i, none⟩ = false := by
  obtain ⟨c, lo, hi', hb, _, hl, hc⟩ := h
  simp [World.frozen?, hb]; omega
theorem congr (h : Bs w g n M) (e : ∀ i, i < n → M i = M' i) : Bs w g n M' := by
  obtain ⟨c, lo, hi, hb, h1, h2, hc⟩ := h
  exact ⟨c, lo, hi, hb, h1, h2, fun i hi => by rw [hc i hi, e i hi]⟩
theorem set (h : Bs w g n M) (i : Nat) (v : UInt8) : Bs (w.setCell ⟨g, i, none⟩ (.int .u8 v.toNat)) g n (fun j => if j = i then v else M j) := by
  obtain ⟨c, lo, hi, hb, hn, h2, hc⟩ := h
  refine ⟨c.setIfInBounds i (.int .u8 v.toNat), lo, hi, ?_, by simpa using hn, h2, fun j hj => ?_⟩
  · simp [World.setCell, Array.getElem?_modify, hb]
  · rw [Array.getElem?_setIfInBounds]
    by_cases e : j = i
    · subst e
      rw [if_pos rfl, if_pos (by omega)]
      simp
    · rw [if_neg (fun h => e h.symm)]
      simp only [if_neg e]
      exact hc j hj
theorem drewN (h : Bs w g n M) (q : Nat) : Bs (w.drewN q) g n M := h
theorem drew (h : Bs w g n M) : Bs w.drew g n M := h
end Bs
def revV (n i : Nat) (M : Nat → UInt8) (t : Nat) : UInt8 := if t < i ∨ n - i ≤ t then M (n - 1 - t) else M t

set_option maxHeartbeats 4000000 in
set_option maxRecDepth 100000 in
theorem reverseb_any (g n cap : Nat) (M : Nat → UInt8) (w : World) (hn : n ≤ 1000000) (h : Bs w g n M) :
    Calls Try.prog 52 #[.slice (some ⟨g, 0, none⟩) n cap] w fun e w' => e = .returned (.tuple #[]) ∧ Bs w' g n (fun t => M (n - 1 - t)) ∧ Only g w w' := by
  go_enter Try.func52, Try.ntmps52
  go_wp2_with fail
  go_loopg [2, 3] n (fun k s2 s3 wr => ∃ i : Nat, i ≤ n ∧ k = n - i ∧ (0 < i → i ≤ n - i) ∧ s2 = .int .i64 i ∧ s3 = .int .i64 ((n : Int) - 1 - i) ∧ Bs wr g n (revV n i M) ∧ Only g w wr)
  case atStart =>
    go_light
    exact ⟨0, by omega, by omega, by omega, rfl, by simp, by
      exact h.congr fun t ht => by unfold revV; rw [if_neg (by omega)], Only.refl _ _⟩
  case round =>
    clear h
    obtain ⟨i, hi, hk, hii, rfl, rfl, hH, hO⟩ := hrel
    by_cases hlt : i < n - 1 - i
    · have hltz : (i : Int) < (n : Int) - 1 - i := by omega
      have a0 := hH.cell (i := i) (by omega)
      have b0 := hH.cell (i := n - 1 - i) (by omega)
      have f0 := hH.frozen (i := i) (by omega)
      have f3 := hH.frozen (i := n - 1 - i) (by omega)
      have HH := Lib.hid (And.intro hH hO)
      clear hH hO
      obtain ⟨x, hx⟩ : ∃ x, revV n i M i = x := ⟨_, rfl⟩
      obtain ⟨y, hy⟩ : ∃ x, revV n i M (n - 1 - i) = x := ⟨_, rfl⟩
      rw [hx] at a0
      rw [hy] at b0
      replace hx := Lib.hid hx
      replace hy := Lib.hid hy
      go_wp2_with fail
      go_region
      all_goals go_wp2_with fail
      go_roundg (n - (i + 1))
      case measure => go_light; omega
      case rel =>
        go_light
        obtain ⟨h1, h2⟩ := HH.out
        refine ⟨i + 1, by omega, by omega, by omega, by go_num, by rw [show (n : Int) - 1 - ((i + 1 : Nat) : Int) = (n : Int) - 1 - i - 1 from by omega], ?_, ((h2.set _ _).set _ _).drew⟩
        refine ((h1.set i y).set (n - 1 - i) x).drew.congr fun t ht => ?_
        rw [← hx.out, ← hy.out]
        unfold revV
        by_cases e1 : t = n - 1 - i
        · subst e1
          rw [if_pos rfl, if_neg (by omega), if_pos (by omega)]
          congr 1; omega
        · rw [if_neg e1]
          by_cases e2 : t = i
          · subst e2
            rw [if_pos rfl, if_neg (by omega), if_pos (by omega)]
          · rw [if_neg e2]
            by_cases e3 : t < i ∨ n - i ≤ t
            · rw [if_pos e3, if_pos (by omega)]
            · rw [if_neg e3, if_neg (by omega)]
    · have hge : (n : Int) - 1 - i ≤ i := by omega
      have hfin : Bs wr g n (fun t => M (n - 1 - t)) := hH.congr fun t ht => by
        unfold revV
        by_cases e3 : t < i ∨ n - i ≤ t
        · rw [if_pos e3]
        · rw [if_neg e3]; congr 1; omega
      clear hH
      go_wp2_with fail
      go_end0
      exact ⟨rfl, hfin, hO⟩
/-- the bytes in the opposite order -/
def turn (s : ByteArray) : ByteArray := ⟨(bl s).reverse.toArray⟩
theorem bl_turn (s : ByteArray) : bl (turn s) = (bl s).reverse := by simp [turn, bl]
set_option maxRecDepth 100000 in
theorem turned_any (s : ByteArray) (w : World) (hs : s.size ≤ 1000000) :
    Calls Try.prog 37 #[.string s] w fun e w' => e = .returned (.string (turn s)) ∧ Below w.heap.size w w' := by
  have hc1 := Lib.run_convert_string_bytes (P := Try.prog) w 9 64 5 s Try.underlying9 Try.underlying64 Try.underlying5
  have hB1 := bytesWorld_below w 5 s
  have hBs : Bs (Lib.bytesWorld w 5 s) w.heap.size s.size (fun k => (bl s).getD k 0) := by
    refine ⟨_, _, _, Lib.bytesWorld_at_new w 5 s, by simp [Lib.bytesCells], by simp [Lib.bytesCells], fun i hi => ?_⟩
    have := Lib.bytesWorld_cell w 5 s i hi
    have h2 : (Lib.bytesWorld w 5 s).cell? ⟨w.heap.size, i, none⟩ = (Lib.bytesCells w 5 s)[i]? := by simp [World.cell?, Lib.bytesWorld_at_new]
    rw [← h2]; exact this
  have hsz := Lib.bytesWorld_size w 5 s
  obtain ⟨W, hW⟩ : ∃ W, Lib.bytesWorld w 5 s = W := ⟨_, rfl⟩
  rw [hW] at hB1 hBs hsz
  have HB := Lib.hid hB1
  have HS := Lib.hid hBs
  have HZ := Lib.hid hsz
  rw [hW] at hc1
  obtain ⟨cap, hcap⟩ : ∃ x, grownCap w s.size 0 5 = x := ⟨_, rfl⟩
  rw [hcap] at hc1
  clear hB1 hBs hsz hW hcap
  go_enter Try.func37, Try.ntmps37
  go_wp2_with fail
  refine (reverseb_any w.heap.size s.size cap _ _ hs HS.out).mono ?_
  rintro e w' ⟨rfl, hR, hO⟩
  have hcv : (convert 64 9 (.slice (some ⟨w.heap.size, 0, none⟩) s.size cap)).run Try.prog w' = .ok (.string (turn s)) w' := by
    have hl : (bl s).reverse.length = s.size := by rw [List.length_reverse, size_bl]
    have := run_convert_bytes_back (P := Try.prog) w' 64 9 5 ⟨w.heap.size, 0, none⟩ cap (bl s).reverse Try.underlying64 Try.underlying5 Try.underlying9 fun j hj => by
      have hadd : (⟨w.heap.size, 0, none⟩ : Addr).add j = ⟨w.heap.size, j, none⟩ := by unfold Addr.add; split <;> simp_all
      rw [hadd, hR.cell (by omega)]
      have hls : (bl s).length = s.size := size_bl s
      rw [List.getElem_reverse, List.getD_eq_getElem?_getD, List.getElem?_eq_getElem (by omega), Option.getD_some]
      simp only [hls]
    rw [hl] at this
    exact this
  have hB := Lib.hid (HB.out.trans (hO.below (Nat.le_refl _) (by have := HZ.out; omega)))
  clear hR hO
  go_wp2_with fail
  go_ret
  exact ⟨rfl, hB.out⟩
end Go.Proofs.Ytmmcdncaiedmgaa
