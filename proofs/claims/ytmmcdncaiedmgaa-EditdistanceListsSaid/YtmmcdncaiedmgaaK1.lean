import Derived.Test.YtmmcdncaiedmgaaI
import Derived.Test.YtmmcdncaiedmgaaT
set_option linter.unusedVariables false
set_option linter.unusedSimpArgs false
namespace Go.Proofs.Ytmmcdncaiedmgaa
open Go.RowKit

/-- the table while row `i` is filled from its end down to column `x` -/
def partR (A B : List ByteArray) (i x i' k' : Nat) : Int := if i < i' ∨ (i' = i ∧ x ≤ k') then R A B i' k' else 0
theorem partR_gt {A B : List ByteArray} {i x i' k' : Nat} (h : i < i') : partR A B i x i' k' = R A B i' k' := if_pos (.inl h)
theorem partR_ge {A B : List ByteArray} {i x k' : Nat} (h : x ≤ k') : partR A B i x i k' = R A B i k' := if_pos (.inr ⟨rfl, h⟩)
theorem partR_lt {A B : List ByteArray} {i x k' : Nat} (h : k' < x) : partR A B i x i k' = 0 := if_neg (by omega)

structure FilR (la lb : List ByteArray) (w wr : World) (i x : Nat) : Prop where
  below : Below w.heap.size w wr
  tab : Tab 61 wr w.heap.size w.heap.size (la.length + 1) (lb.length + 1) (fun i => w.heap.size + 1 + i) (partR la lb i x)

theorem filR_store {la lb : List ByteArray} {w wr : World} {i k : Nat} (q : Nat) (h : FilR la lb w wr i (k + 1)) (hi : i < la.length + 1) {v : Int} (hv : v = R la lb i k) :
    FilR la lb w ((wr.drewN q).setCell ⟨w.heap.size + 1 + i, k, none⟩ (.int .i64 v)) i k := by
  obtain ⟨hb, ht⟩ := h
  refine ⟨(drewN_below hb q).setCell (by show w.heap.size ≤ w.heap.size + 1 + i; omega) _, ((ht.drewN q).store (by decide) hi k v).congr fun i' k' hi' hk' => ?_⟩
  subst hv
  by_cases e : i' = i ∧ k' = k
  · obtain ⟨rfl, rfl⟩ := e
    rw [if_pos ⟨rfl, rfl⟩, partR_ge (Nat.le_refl _)]
  · rw [if_neg e]
    unfold partR
    by_cases h : i < i' ∨ i' = i ∧ k + 1 ≤ k'
    · rw [if_pos h, if_pos (by omega)]
    · rw [if_neg h, if_neg (by omega)]
theorem FilR.drewN {la lb : List ByteArray} {w wr : World} {i x : Nat} (h : FilR la lb w wr i x) (q : Nat) : FilR la lb w (wr.drewN q) i x := ⟨drewN_below h.below q, h.tab.drewN q⟩
/-- two stores into one cell: the second counts -/
theorem filR_store2 {la lb : List ByteArray} {w wr : World} {i k : Nat} (q q' : Nat) (h : FilR la lb w wr i (k + 1)) (hi : i < la.length + 1) {u v : Int} (hv : v = R la lb i k) :
    FilR la lb w ((((wr.drewN q).setCell ⟨w.heap.size + 1 + i, k, none⟩ (.int .i64 u)).drewN q').setCell ⟨w.heap.size + 1 + i, k, none⟩ (.int .i64 v)) i k := by
  obtain ⟨hb, ht⟩ := h
  refine ⟨(drewN_below ((drewN_below hb q).setCell (by show w.heap.size ≤ w.heap.size + 1 + i; omega) _) q').setCell (by show w.heap.size ≤ w.heap.size + 1 + i; omega) _,
    ((((ht.drewN q).store (by decide) hi k u).drewN q').store (by decide) hi k v).congr fun i' k' hi' hk' => ?_⟩
  subst hv
  by_cases e : i' = i ∧ k' = k
  · obtain ⟨rfl, rfl⟩ := e
    rw [if_pos ⟨rfl, rfl⟩, partR_ge (Nat.le_refl _)]
  · rw [if_neg e, if_neg e]
    unfold partR
    by_cases h : i < i' ∨ i' = i ∧ k + 1 ≤ k'
    · rw [if_pos h, if_pos (by omega)]
    · rw [if_neg h, if_neg (by omega)]
theorem filR_next {la lb : List ByteArray} {w wr : World} {i : Nat} (h : FilR la lb w wr (i + 1) 0) : FilR la lb w wr i lb.length := by
  obtain ⟨hb, ht⟩ := h
  refine ⟨hb, ht.congr fun i' k' hi' hk' => ?_⟩
  unfold partR
  by_cases e : i' = i ∧ lb.length ≤ k'
  · obtain ⟨rfl, h2⟩ := e
    rw [if_neg (by omega), if_pos (.inr ⟨rfl, h2⟩), R_end_right la lb i' k' h2]; rfl
  · by_cases h : i + 1 < i' ∨ i' = i + 1 ∧ 0 ≤ k'
    · rw [if_pos h, if_pos (by omega)]
    · rw [if_neg h, if_neg (by omega)]
theorem R_stepD {la lb : List ByteArray} {i k : Nat} (hi : i < la.length) (hk : k < lb.length) :
    R la lb i k = max (max (R la lb (i + 1) k) (R la lb i (k + 1))) (if la.getD i ByteArray.empty = lb.getD k ByteArray.empty then R la lb (i + 1) (k + 1) + 1 else 0) := by
  rw [R_step la lb i k hi hk]
  simp only [List.getD_eq_getElem?_getD, List.getElem?_eq_getElem hi, List.getElem?_eq_getElem hk, Option.getD_some]

/-- a row of zeros -/
theorem fil_row0 {p : Nat → Nat → Bool} {n m : Nat} {w wr : World} {r : Nat} (h : Fil p n m w wr 0 r 0) (hr : r < n) :
    Fil p n m w ((wr.alloc (.cells (madeCells #[.int .i64 0] m) 3)).setCell ⟨w.heap.size, r, none⟩ (.slice (some ⟨w.heap.size + 1 + r, 0, none⟩) m m)) 0 (r + 1) 0 := by
  obtain ⟨hb, hs, ⟨F, hF⟩, ht⟩ := h
  have hn := Has.made wr (.int .i64 0) m 3
  rw [hs] at hn
  have := Tab.push (by decide) (ht.alloc _) (hF.alloc _) hr (hn.congr (f' := fun k => .int .i64 (part p 0 0 r k)) (fun k hk => by simp [part])) (fun j hj => by omega) (by omega)
  exact ⟨(hb.alloc (by omega) _).setCell (Nat.le_refl _) _, by simp [hs]; omega, ⟨_, this.2⟩, this.1⟩

set_option maxHeartbeats 16000000 in
set_option maxRecDepth 1000000 in
theorem common_init (la lb : List ByteArray) (Aa Ab : Option Addr) (ca cb : Nat) (w : World) (hla : la.length ≤ 256) (hlb : lb.length ≤ 256) (SAa : Strs w w.heap.size Aa la) (SBb : Strs w w.heap.size Ab lb)
    {u4 u5 u17 u18 u19 u20 u21 u22 u23 u24 u25 u26 : Value} {K : Act → World → Prop} {RP : Ending → World → Prop}
    (hK : ∀ (v7 v28 v29 v30 v31 v32 v33 v34 v35 v36 v37 v38 : Value) (wx : World), FilR la lb w wx la.length 0 → K ⟨#[.slice Aa la.length ca, .slice Ab lb.length cb, undef, undef, u4, u5, .slice (some ⟨w.heap.size, 0, none⟩) (la.length + 1) (la.length + 1), v7, undef, undef, undef, undef, undef, undef, undef, undef, undef, u17, u18, u19, u20, u21, u22, u23, u24, u25, u26, .int .i64 ((la.length : Int) + 1), v28, v29, v30, v31, v32, v33, v34, v35, v36, v37, v38, undef, undef, undef, undef, undef, undef, undef, undef, undef, undef, undef, undef, undef, undef, undef, undef, undef, undef, undef, undef, undef, undef, undef, undef, undef, undef, undef, undef, undef, undef, undef, undef, undef, undef, undef, undef, undef, undef, undef, undef, undef, undef, undef, undef, undef, undef, undef, undef, undef, undef, undef, undef, undef, undef, undef, undef, undef, undef, undef, undef, undef, undef, undef, undef, undef, undef, undef, undef, undef, undef, undef, undef, undef, undef, undef, undef, undef, undef, undef, undef, undef, undef, undef, undef, undef, undef, undef, undef, undef, undef, undef, undef, undef, undef, undef, undef, undef, undef, undef, undef, undef, undef, undef, undef, undef, undef, undef, undef, undef, undef, undef, undef, undef, undef, undef, undef, undef, undef, undef, undef, undef, undef, undef, undef, undef, undef, undef, undef, undef, undef, undef, undef, undef, undef, undef, undef, undef, undef, undef, undef, undef, undef, undef, undef, undef, undef, undef, undef, undef, undef, undef, undef, undef, undef, undef, undef, undef, undef, undef, undef, undef, undef, undef], []⟩ wx) :
    Code.wp Try.prog (piece 0 Try.f31) (Exit.then K (bodyPost Try.prog Try.f31 RP)) ⟨#[.slice Aa la.length ca, .slice Ab lb.length cb, undef, undef, u4, u5, .slice (some ⟨w.heap.size, 0, none⟩) (la.length + 1) (la.length + 1), undef, undef, undef, undef, undef, undef, undef, undef, undef, undef, u17, u18, u19, u20, u21, u22, u23, u24, u25, u26, .int .i64 ((la.length : Int) + 1), .int .i64 0, undef, undef, undef, undef, undef, undef, undef, undef, undef, undef, undef, undef, undef, undef, undef, undef, undef, undef, undef, undef, undef, undef, undef, undef, undef, undef, undef, undef, undef, undef, undef, undef, undef, undef, undef, undef, undef, undef, undef, undef, undef, undef, undef, undef, undef, undef, undef, undef, undef, undef, undef, undef, undef, undef, undef, undef, undef, undef, undef, undef, undef, undef, undef, undef, undef, undef, undef, undef, undef, undef, undef, undef, undef, undef, undef, undef, undef, undef, undef, undef, undef, undef, undef, undef, undef, undef, undef, undef, undef, undef, undef, undef, undef, undef, undef, undef, undef, undef, undef, undef, undef, undef, undef, undef, undef, undef, undef, undef, undef, undef, undef, undef, undef, undef, undef, undef, undef, undef, undef, undef, undef, undef, undef, undef, undef, undef, undef, undef, undef, undef, undef, undef, undef, undef, undef, undef, undef, undef, undef, undef, undef, undef, undef, undef, undef, undef, undef, undef, undef, undef, undef, undef, undef, undef, undef, undef, undef, undef, undef, undef, undef, undef, undef, undef, undef, undef, undef, undef, undef, undef, undef, undef, undef], []⟩ (w.alloc (.cells (madeCells #[.slice none 0 0] (la.length + 1)) 61)) := by
  conv => arg 2; whnf
  clear SAa SBb
  have hmk2 := run_make_row' (P := Try.prog) 61 3 (.int .i64 0) 8 Try.underlying61 info3 rfl .i64 .i64 (lb.length + 1) (by omega) (by omega)
  rw [show ((lb.length + 1 : Nat) : Int) = (lb.length : Int) + 1 from by omega] at hmk2
  go_wp2_with fail
  go_loopg [28] (la.length + 1) (fun g c wr => ∃ i : Nat, i ≤ la.length + 1 ∧ g = la.length + 1 - i ∧ c = .int .i64 i ∧ Fil (fun _ _ => false) (la.length + 1) (lb.length + 1) w wr 0 i 0)
  case atStart =>
    go_light
    exact ⟨0, by omega, by omega, rfl, ⟨(Below.refl _ _).alloc (Nat.le_refl _) _, by simp, ⟨_, Has.made _ _ _ _⟩, Tab.none_ _ _ _ _ _ _ _ (Has.made _ _ _ _) (Nat.le_refl _) _ _⟩⟩
  case round =>
    obtain ⟨i, hi, hg, rfl, HF⟩ := hrel
    by_cases hlt : i < la.length + 1
    · have hltz : (i : Int) < (la.length : Int) + 1 := by omega
      have HF1 := fil_row0 HF hlt
      obtain ⟨F, hF⟩ := HF.top
      have c1 : ∀ o, (wr.alloc o).cell? ⟨w.heap.size, i, none⟩ = some (F i) := fun o => (hF.alloc o).cell hlt
      have f1 : ∀ o, (wr.alloc o).frozen? ⟨w.heap.size, i, none⟩ = false := fun o => (hF.alloc o).frozen i
      have hsz := HF.size
      clear hF HF
      have HF2 := Lib.hid HF1
      clear HF1
      go_wp2_with fail
      go_roundg (la.length + 1 - (i + 1))
      case measure => go_light; omega
      case rel =>
        go_light
        exact ⟨i + 1, by omega, by omega, by go_num, HF2.out⟩
    · have hi' : i = la.length + 1 := by omega
      subst hi'
      have hfin : FilR la lb w wr la.length 0 := ⟨HF.below, HF.tab.congr fun i k hi hk => by
        unfold part partR
        rw [if_neg (by omega)]
        by_cases e : la.length < i ∨ i = la.length ∧ 0 ≤ k
        · rw [if_pos e, R_end_left la lb i k (by omega)]; rfl
        · rw [if_neg e]⟩
      have HFF := Lib.hid hfin
      clear hfin HF
      go_wp2_with fail
      exact HFF.out
end Go.Proofs.Ytmmcdncaiedmgaa
