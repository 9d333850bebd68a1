import Derived.RangeFuncNested
import Derived.RangeFuncBound
import Derived.RangeFuncCalls
import Derived.RangeFuncLeaves
import Derived.Shelf.Abstract
import Derived.Shelf.RegionOpen
import Derived.WalkKit
import Derived.OwnWalkIn
import Derived.TacticsInMore
import Derived.LoopNIn
import Derived.LoopIn
import Derived.Maps.AppendAt
import Derived.Test.YtnlenhhmajecjaaF
set_option linter.unusedVariables false
set_option linter.unusedSimpArgs false
namespace Go.Proofs.Ytnlenhhmajecjaa
open Go.RowKit Go.Shelf
attribute [local go_sem] Oper.semAt_some
/-- whether the mark at `i` belongs to the cluster that begins at `f` -/
def joins (s : ByteArray) (f i : Nat) : Bool := decide (i < s.size) && (decide (kd s i = 2) && (decide (kd s f = 1) && decide (f < i)))
/-- the clusters from `f` on, with their offsets, `i` being the next end that is tried -/
def clF (s : ByteArray) : Nat → Nat → Nat → List (Nat × ByteArray)
  | 0, _, _ => []
  | g + 1, f, i => if joins s f i = true then clF s g f (i + 1) else (f, s.extract f i) :: clF s g i (i + 1)
def clusters (s : ByteArray) : List (Nat × ByteArray) := clF s s.size 0 1
def KpB (B : Nat) (W W' : World) : Prop := W'.heap[B]? = W.heap[B]?
theorem KpB.cell {B i : Nat} {W W' : World} (h : KpB B W W') : W'.cell? ⟨B, i, none⟩ = W.cell? ⟨B, i, none⟩ := by
  have h' : W'.heap[B]? = W.heap[B]? := h
  simp [World.cell?, h']
def encC (x : Nat × ByteArray) : Array Value := #[.int .i64 (x.1 : Int), .string x.2]
theorem right_any (s : ByteArray) (f i : Nat) (w : World) (hf : f < s.size) (hs : s.size ≤ 9223372036854775807) (hi : i ≤ s.size) :
    Calls Try.prog 57 #[.string s, .int .i64 f, .int .i64 i] w fun e w' => e = .returned (.bool (decide (kd s f = 1) && decide (f < i))) ∧ w' = w := by
  have hx := fun W => run_index_str (P := Try.prog) 9 s (f : Int) f rfl hf hs Try.underlying9 W
  have hk := fun W => kind_any _ (bat_lt s f) W
  have hkd : kd s f = kindN (bat s f).toNat := rfl
  rw [hkd]
  obtain ⟨k, hkk⟩ : ∃ k, kindN (bat s f).toNat = k := ⟨_, rfl⟩
  simp only [hkk] at hk ⊢
  replace hk := Lib.hid hk
  have h2 : decide ((f : Int) < (i : Int)) = decide (f < i) := by rw [Bool.eq_iff_iff]; simp only [decide_eq_true_eq]; omega
  clear hkd hkk
  by_cases h1 : k = 1
  · subst h1
    go_enter Try.func57, Try.ntmps57
    go_wp2_with (refine (hk.out _).mono ?_; rintro e w' ⟨rfl, rfl⟩)
    go_ret
    exact ⟨by simp, rfl⟩
  · have h1b : ((k : Int) == 1) = false := by simp; omega
    go_enter Try.func57, Try.ntmps57
    go_wp2_with (refine (hk.out _).mono ?_; rintro e w' ⟨rfl, rfl⟩)
    go_ret
    exact ⟨by simp [h1], rfl⟩

theorem clusters_in (n : Nat) (s : ByteArray) (w : World) :
    CallsIn Fence.wide n Try.prog 38 #[.string s] w fun e w' => e = .returned (.func (.func 56) #[] #[.pointer (some ⟨w.heap.size, 0, none⟩)]) ∧ w' = w.alloc (.cells #[.string s] 9) := by
  refine callsIn_of_wp Try.func38 rfl trivial ?_ rfl
  simp only [Try.ntmps38, List.size_toArray, List.length_cons, List.length_nil, Nat.reduceAdd, Nat.reduceSub, Array.replicate_succ, Array.replicate_zero, List.push_toArray, List.append_toArray, List.nil_append, List.cons_append]
  gi_wp2
  go_ret
  exact ⟨rfl, rfl⟩

set_option maxRecDepth 100000 in
set_option maxHeartbeats 4000000 in
theorem clusters1_in (n : Nat) (hn : 1 ≤ n) (l Bs : Nat) (s : ByteArray) (hs : s.size ≤ 1000000) (J Jx : List (Nat × ByteArray) → World → Prop)
    (hY : ∀ pre x W, (0 < x.2.size ∧ x.2.size ≤ 1000000) → J pre W → pre.length < (clusters s).length → YieldAt Fence.wide (n - 1) Try.prog l (encC x) W fun e W' =>
      (e = .returned (.bool true) ∧ J (pre ++ [x]) W' ∧ KpB Bs W W') ∨ (e = .returned (.bool false) ∧ Jx (pre ++ [x]) W'))
    (W : World) (hBs : W.cell? ⟨Bs, 0, none⟩ = some (.string s)) (h0 : J [] W) :
    CallsIn Fence.wide n Try.prog 56 #[.func (.yield l) #[] #[], .pointer (some ⟨Bs, 0, none⟩)] W fun e W' => (∃ v, e = .returned v) ∧
      ((∃ ys, ys = clusters s ∧ J ys W') ∨ (∃ pre, pre <+: clusters s ∧ Jx pre W')) := by
  refine callsIn_of_wp Try.func56 rfl trivial ?_ rfl
  simp only [Try.ntmps56, List.size_toArray, List.length_cons, List.length_nil, Nat.reduceAdd, Nat.reduceSub, Array.replicate_succ, Array.replicate_zero, List.push_toArray, List.append_toArray, List.nil_append, List.cons_append]
  gi_wp2
  gi_loopw [3, 4] (fun v3 v4 wr => ∃ (f i : Nat) (pre : List (Nat × ByteArray)), f < i ∧ i ≤ s.size + 1 ∧ v3 = .int .i64 f ∧ v4 = .int .i64 i ∧ clusters s = pre ++ clF s (s.size + 1 - i) f i ∧ J pre wr ∧ wr.cell? ⟨Bs, 0, none⟩ = some (.string s))
    (fun _ v4 _ => s.size + 1 - (intOf v4).toNat)
  case atStart =>
    exact ⟨0, 1, [], by omega, by omega, rfl, rfl, by simp [clusters], h0, hBs⟩
  case round =>
    obtain ⟨f, i, pre, hfi, his, rfl, rfl, hcl, hJs, hb⟩ := hrel
    by_cases hlt : i ≤ s.size
    · have hltz : (i : Int) ≤ (s.size : Int) := by omega
      obtain ⟨g, hg⟩ : ∃ g, s.size + 1 - i = g + 1 := ⟨s.size - i, by omega⟩
      have hg' : s.size + 1 - (i + 1) = g := by omega
      rw [hg, clF] at hcl
      have hkf := fun W => right_any s f i W (by omega) (by omega) hlt
      have hsl := fun W => run_slice_string (P := Try.prog) W 9 s .i64 .i64 (f : Int) (i : Int) Try.underlying9 (by omega) (by omega) (by omega)
      have hmsr : s.size + 1 - (i + 1) < s.size + 1 - i := by omega
      have hY' : joins s f i = false → YieldAt Fence.wide (n - 1) Try.prog l (encC (f, s.extract f i)) wr fun e W' =>
          (e = .returned (.bool true) ∧ J (pre ++ [(f, s.extract f i)]) W' ∧ KpB Bs wr W') ∨ (e = .returned (.bool false) ∧ Jx (pre ++ [(f, s.extract f i)]) W') := fun hj =>
        hY pre (f, s.extract f i) wr (by simp only [ByteArray.size_extract]; omega) hJs (by rw [hcl, if_neg (by rw [hj]; decide)]; simp)
      have hpre : joins s f i = false → (pre ++ [(f, s.extract f i)]) <+: clusters s := fun hj => by
        rw [hcl, if_neg (by rw [hj]; decide)]
        exact ⟨clF s g i (i + 1), by simp⟩
      have hnext : joins s f i = false → clusters s = (pre ++ [(f, s.extract f i)]) ++ clF s (s.size + 1 - (i + 1)) i (i + 1) := fun hj => by
        rw [hcl, if_neg (by rw [hj]; decide), hg']; simp
      have hskip : joins s f i = true → clusters s = pre ++ clF s (s.size + 1 - (i + 1)) f (i + 1) := fun hj => by
        rw [hcl, if_pos hj, hg']
      replace hY := Lib.hid hY
      replace hcl := Lib.hid hcl
      replace hpre := Lib.hid hpre
      replace hnext := Lib.hid hnext
      replace hskip := Lib.hid hskip
      replace hkf := Lib.hid hkf
      clear hg hg'
      by_cases hin : i < s.size
      · have g1 : decide ((i : Int) < (s.size : Int)) = true := by simp; omega
        have hx := fun W => run_index_str (P := Try.prog) 9 s (i : Int) i rfl hin (by omega) Try.underlying9 W
        have hk := fun W => kind_any _ (bat_lt s i) W
        have hkd : kindN (bat s i).toNat = kd s i := rfl
        rw [hkd] at hk
        replace hk := Lib.hid hk
        clear hkd
        obtain ⟨k, hkk⟩ : ∃ k, kd s i = k := ⟨_, rfl⟩
        rw [hkk] at hk
        by_cases h2 : k = 2
        · subst h2
          have hjn : joins s f i = (decide (kd s f = 1) && decide (f < i)) := by rw [joins, decide_eq_true hin, hkk]; simp
          obtain ⟨r, hr⟩ : ∃ r, (decide (kd s f = 1) && decide (f < i)) = r := ⟨_, rfl⟩
          rw [hr] at hkf hjn
          clear hr hkk
          gi_wp2
          refine ⟨trivial, ?_⟩
          refine (callsIn_wide.2 (hk.out _)).mono ?_
          rintro e w' ⟨rfl, rfl⟩
          gi_wp2
          refine ⟨trivial, ?_⟩
          refine (callsIn_wide.2 (hkf.out _)).mono ?_
          rintro e w' ⟨rfl, rfl⟩
          cases r
          · obtain ⟨fn, tmps, assign, body, hy, hR⟩ := hY' hjn
            dsimp only [encC] at hy
            clear hY'
            gi_wp2
            refine hR.mono ?_
            rintro e W3 (⟨rfl, hJ3, hk3⟩ | ⟨rfl, hJx3⟩)
            · have hb3 : W3.cell? ⟨Bs, 0, none⟩ = some (.string s) := hk3.cell.trans hb
              gi_wp2
              go_roundw
              case rel => exact ⟨i, i + 1, pre ++ [(f, s.extract f i)], by omega, by omega, rfl, by go_num, hnext.out hjn, hJ3, hb3⟩
              case measure => simp [intOf]; omega
            · gi_wp2
              refine bodyPost_ret (results_none rfl _ _ _) rfl ?_
              exact ⟨⟨_, rfl⟩, .inr ⟨_, hpre.out hjn, hJx3⟩⟩
          · clear hY'
            gi_wp2
            go_roundw
            case rel => exact ⟨f, i + 1, pre, by omega, by omega, rfl, by go_num, hskip.out hjn, hJs, hb⟩
            case measure => simp [intOf]; omega
        · have h2b : ((k : Int) == 2) = false := by simp; omega
          have hjn : joins s f i = false := by rw [joins, hkk, decide_eq_false h2]; simp
          clear hkk
          obtain ⟨fn, tmps, assign, body, hy, hR⟩ := hY' hjn
          dsimp only [encC] at hy
          clear hY'
          gi_wp2
          refine ⟨trivial, ?_⟩
          refine (callsIn_wide.2 (hk.out _)).mono ?_
          rintro e w' ⟨rfl, rfl⟩
          gi_wp2
          refine ⟨trivial, ?_⟩
          gi_wp2
          refine hR.mono ?_
          rintro e W3 (⟨rfl, hJ3, hk3⟩ | ⟨rfl, hJx3⟩)
          · have hb3 : W3.cell? ⟨Bs, 0, none⟩ = some (.string s) := hk3.cell.trans hb
            gi_wp2
            go_roundw
            case rel => exact ⟨i, i + 1, pre ++ [(f, s.extract f i)], by omega, by omega, rfl, by go_num, hnext.out hjn, hJ3, hb3⟩
            case measure => simp [intOf]; omega
          · gi_wp2
            refine bodyPost_ret (results_none rfl _ _ _) rfl ?_
            exact ⟨⟨_, rfl⟩, .inr ⟨_, hpre.out hjn, hJx3⟩⟩
      · have g1 : decide ((i : Int) < (s.size : Int)) = false := by simp; omega
        have hjn : joins s f i = false := by rw [joins, decide_eq_false hin]; rfl
        obtain ⟨fn, tmps, assign, body, hy, hR⟩ := hY' hjn
        dsimp only [encC] at hy
        clear hY'
        gi_wp2
        refine ⟨trivial, ?_⟩
        gi_wp2
        refine ⟨trivial, ?_⟩
        gi_wp2
        refine hR.mono ?_
        rintro e W3 (⟨rfl, hJ3, hk3⟩ | ⟨rfl, hJx3⟩)
        · have hb3 : W3.cell? ⟨Bs, 0, none⟩ = some (.string s) := hk3.cell.trans hb
          gi_wp2
          go_roundw
          case rel => exact ⟨i, i + 1, pre ++ [(f, s.extract f i)], by omega, by omega, rfl, by go_num, hnext.out hjn, hJ3, hb3⟩
          case measure => simp [intOf]; omega
        · gi_wp2
          refine bodyPost_ret (results_none rfl _ _ _) rfl ?_
          exact ⟨⟨_, rfl⟩, .inr ⟨_, hpre.out hjn, hJx3⟩⟩
    · have hi' : i = s.size + 1 := by omega
      subst hi'
      have hz : ¬ (((s.size + 1 : Nat) : Int) ≤ (s.size : Int)) := by omega
      replace hcl := Lib.hid hcl
      gi_wp2
      go_end0
      have he : clusters s = pre := by rw [hcl.out, Nat.sub_self, clF, List.append_nil]
      refine ⟨⟨_, rfl⟩, .inl ?_⟩
      first
        | exact ⟨pre, he.symm, hJs⟩
        | (rw [he]; exact hJs)
/-- a cluster with its offset: never empty -/
abbrev Cl := { x : Nat × ByteArray // 0 < x.2.size ∧ x.2.size ≤ 1000000 }
theorem clusters_stops (n : Nat) (hn : 1 ≤ n) (Bs : Nat) (s : ByteArray) (hs : s.size ≤ 1000000) (w : World) (hBs : Bs < w.heap.size) (hc : w.cell? ⟨Bs, 0, none⟩ = some (.string s)) :
    SeqStopsK Fence.wide n Try.prog 56 #[.pointer (some ⟨Bs, 0, none⟩)] (fun x : Cl => encC x.1) (KpB Bs) (fun ys => ys.map (fun x => x.1) = clusters s) (fun pre => pre.map (fun x => x.1) <+: clusters s) (clusters s).length w := fun l J Jx W hW _ _ hY h0 => by
  have hc' := (hW.cell (p := ⟨Bs, 0, none⟩) hBs).trans hc
  refine (clusters1_in n hn l Bs s hs (fun pre W => ∃ pc : List Cl, pc.map (fun x => x.1) = pre ∧ J pc W) (fun pre W => ∃ pc : List Cl, pc.map (fun x => x.1) = pre ∧ Jx pc W) ?_ W hc' ⟨[], rfl, h0⟩).mono ?_
  · rintro pre x W hok ⟨pc, rfl, hJ⟩ hlen
    refine (hY pc ⟨x, hok⟩ W hJ (by simpa using hlen)).mono ?_
    rintro e W' (⟨rfl, hJ', hk⟩ | ⟨rfl, hJx⟩)
    · exact .inl ⟨rfl, ⟨pc ++ [⟨x, hok⟩], by simp, hJ'⟩, hk⟩
    · exact .inr ⟨rfl, ⟨pc ++ [⟨x, hok⟩], by simp, hJx⟩⟩
  · rintro e W' ⟨hv, ⟨ys, rfl, pc, hpc, hJ⟩ | ⟨pre, hpre, pc, rfl, hJ⟩⟩
    · exact ⟨hv, .inl ⟨pc, hpc, hJ⟩⟩
    · exact ⟨hv, .inr ⟨pc, hpre, hJ⟩⟩
theorem kpB_t {B : Nat} {A C D : World} (h : KpB B A C) (k : KpB B C D) : KpB B A D := Eq.trans k h
theorem kpB_b {B n : Nat} (hB : B < n) (W : World) (l : Nat) (o o' : Obj) (hl : n ≤ l) (h : W.heap[l]? = some o) (_ : o.isCells = false) (_ : o.isWalk = false) : KpB B W (W.putObj l o') := by
  unfold KpB World.putObj
  simp only [Array.getElem?_setIfInBounds]
  rw [if_neg (by omega)]
end Go.Proofs.Ytnlenhhmajecjaa
