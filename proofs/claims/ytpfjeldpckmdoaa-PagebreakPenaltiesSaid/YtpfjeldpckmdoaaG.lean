import Derived.RangeFuncNested
import Derived.RangeFuncBound
import Derived.RangeFuncCalls
import Derived.RangeFuncLeaves
import Derived.Shelf.Abstract
import Derived.Shelf.RegionOpen
import Derived.WalkKit
import Derived.OwnWalkIn
import Derived.TacticsInMore
import Derived.LoopNIn
import Derived.LoopIn
import Derived.Maps.AppendAt
import Derived.Test.YtpfjeldpckmdoaaI
set_option linter.unusedVariables false
set_option linter.unusedSimpArgs false
namespace Go.Proofs.Ytpfjeldpckmdoaa
open Go.RowKit Go.Shelf
attribute [local go_sem] Oper.semAt_some
/-- what a round keeps: what lay below `n0`, and the two boxes of the iterator -/
def KpP (n0 Bf Bs : Nat) (W W' : World) : Prop := Below n0 W W' ∧ W'.heap[Bf]? = W.heap[Bf]? ∧ W'.heap[Bs]? = W.heap[Bs]?
theorem cell_eq {W W' : World} {b : Nat} (h : W'.heap[b]? = W.heap[b]?) (i : Nat) : W'.cell? ⟨b, i, none⟩ = W.cell? ⟨b, i, none⟩ := World.cell?_of_block h
def encP (x : Nat × Int) : Array Value := #[.int .i64 (x.1 : Int), .int .i64 x.2]
def okP (p : PP) (f : Nat) (x : Nat × Int) : Prop := f < x.1 ∧ x.1 ≤ p.n ∧ 0 ≤ x.2 ∧ x.2 ≤ 20000
theorem grown_below {W W' : World} (h : Below W.heap.size W W') : W.grownBy W' none := ⟨h.os, h.tape, h.output, h.size, fun k hk _ => h.block k hk⟩
theorem pages_in (n : Nat) (S : Nat) (f : Int) (w : World) :
    CallsIn Fence.wide n Try.prog 22 #[.pointer (some ⟨S, 0, none⟩), .int .i64 f] w fun e w' => e = .returned (.func (.func 33) #[] #[.pointer (some ⟨w.heap.size + 1, 0, none⟩), .pointer (some ⟨w.heap.size, 0, none⟩)]) ∧ w' = (w.alloc (.cells #[.pointer (some ⟨S, 0, none⟩)] 48)).alloc (.cells #[.int .i64 f] 3) := by
  refine callsIn_of_wp Try.func22 rfl trivial ?_ rfl
  simp only [Try.ntmps22, List.size_toArray, List.length_cons, List.length_nil, Nat.reduceAdd, Nat.reduceSub, Array.replicate_succ, Array.replicate_zero, List.push_toArray, List.append_toArray, List.nil_append, List.cons_append]
  gi_wp2
  go_ret
  exact ⟨rfl, rfl⟩
set_option maxRecDepth 100000 in
set_option maxHeartbeats 4000000 in
theorem pages1_in (n : Nat) (hn : 1 ≤ n) (l Bf Bs S : Nat) (p : PP) (f : Nat) (W0 : World) (hS : Sums W0 S p) (hv : Val p) (hn10 : p.n ≤ 10) (hf : f < p.n) (J Jx : List (Nat × Int) → World → Prop) (N0 : Nat) (hJ : AbidesFrom N0 J)
    (hY : ∀ pre x W, okP p f x → J pre W → pre.length < (pgs p f).length → YieldAt Fence.wide (n - 1) Try.prog l (encP x) W fun e W' =>
      (e = .returned (.bool true) ∧ J (pre ++ [x]) W' ∧ KpP W0.heap.size Bf Bs W W') ∨ (e = .returned (.bool false) ∧ Jx (pre ++ [x]) W'))
    (W : World) (hBf : W.cell? ⟨Bf, 0, none⟩ = some (.int .i64 f)) (hBs : W.cell? ⟨Bs, 0, none⟩ = some (.pointer (some ⟨S, 0, none⟩))) (hW : Below W0.heap.size W0 W) (h0 : J [] W) :
    CallsIn Fence.wide n Try.prog 33 #[.func (.yield l) #[] #[], .pointer (some ⟨Bf, 0, none⟩), .pointer (some ⟨Bs, 0, none⟩)] W fun e W' => (∃ v, e = .returned v) ∧
      ((∃ ys, ys = pgs p f ∧ J ys W') ∨ (∃ pre, pre <+: pgs p f ∧ Jx pre W')) := by
  refine callsIn_of_wp Try.func33 rfl trivial ?_ rfl
  simp only [Try.ntmps33, List.size_toArray, List.length_cons, List.length_nil, Nat.reduceAdd, Nat.reduceSub, Array.replicate_succ, Array.replicate_zero, List.push_toArray, List.append_toArray, List.nil_append, List.cons_append]
  have hfz : (0 : Int) ≤ (f : Int) := by omega
  have hfz2 : (f : Int) ≤ 10 := by omega
  gi_wp2
  gi_loopw [4] (fun v4 wr => ∃ (j : Nat) (pre : List (Nat × Int)), f < j ∧ j ≤ p.n + 1 ∧ v4 = .int .i64 j ∧ pgs p f = pre ++ pgsF p f (p.n + 1 - j) j ∧ J pre wr ∧ wr.cell? ⟨Bf, 0, none⟩ = some (.int .i64 f) ∧ wr.cell? ⟨Bs, 0, none⟩ = some (.pointer (some ⟨S, 0, none⟩)) ∧ Below W0.heap.size W0 wr)
    (fun v4 _ => p.n + 1 - (intOf v4).toNat)
  case atStart =>
    exact ⟨f + 1, [], by omega, by omega, by go_num, by rw [List.nil_append, show p.n + 1 - (f + 1) = p.n - f by omega]; rfl, h0, hBf, hBs, hW⟩
  case round =>
    clear hBf hBs hW h0
    obtain ⟨j, pre, hfj, hjn, rfl, hcl, hJs, hbf, hbs, hB⟩ := hrel
    have hSr := hS.next hB
    have hjz : (0 : Int) ≤ (j : Int) := by omega
    have hjz2 : (j : Int) ≤ 11 := by omega
    have hlen : p.lines.length = p.n := rfl
    have hx0 : ∃ A1 c1, wr.cell? ⟨S, 0, none⟩ = some (.slice A1 p.n c1) := by
      obtain ⟨A1, A2, A3, c1, c2, c3, Ab, cb, rl, cl, h⟩ := hSr
      exact ⟨A1, c1, h.x0⟩
    obtain ⟨A1, c1, x0⟩ := hx0
    by_cases hlt : j ≤ p.n
    · have hltz : (j : Int) ≤ (p.n : Int) := by omega
      obtain ⟨g, hg⟩ : ∃ g, p.n + 1 - j = g + 1 := ⟨p.n - j, by omega⟩
      have hg' : p.n + 1 - (j + 1) = g := by omega
      rw [hg, pgsF] at hcl
      have hpg := page_any p S f j wr hSr hv hn10 (by omega) (by omega) hlt
      have hbd := pg_bd hv (i := f) (j := j) (by omega) hlt
      have hcd := pg_code p f j
      have hmsr : p.n + 1 - (j + 1) < p.n + 1 - j := by omega
      obtain ⟨c, hc⟩ : ∃ c, (pg p f j).1 = c := ⟨_, rfl⟩
      obtain ⟨e0, he⟩ : ∃ c, (pg p f j).2 = c := ⟨_, rfl⟩
      rw [hc] at hpg hbd hcl
      rw [he] at hpg hcl hcd
      have hY' := Lib.hid hY
      have hJ' := Lib.hid hJ
      replace hpg := Lib.hid hpg
      have HH := Lib.hid (And.intro hJs (And.intro hbf (And.intro hbs (And.intro hB hcl))))
      clear hY hJ hJs hB hcl hc he hSr hlen
      gi_wp2
      refine ⟨trivial, ?_⟩
      refine (callsIn_wide.2 hpg.out).mono ?_
      rintro e w1 ⟨rfl, hB1⟩
      obtain ⟨hJs, hbf, hbs, hB, hcl⟩ := HH.out
      have hJ1 := hJ'.out _ _ _ none hJs (grown_below hB1) (fun r e => by cases e)
      have hlf : Bf < wr.heap.size := World.block_lt_of_cell? wr _ hbf
      have hls : Bs < wr.heap.size := World.block_lt_of_cell? wr _ hbs
      have hbf1 := (hB1.cell (p := ⟨Bf, 0, none⟩) hlf).trans hbf
      have hbs1 := (hB1.cell (p := ⟨Bs, 0, none⟩) hls).trans hbs
      have hB2 := hB.trans (hB1.mono hB.size)
      rcases hcd with rfl | rfl | rfl
      · rw [if_neg (by decide), if_pos rfl] at hcl
        obtain ⟨fn, tmps, assign, body, hy, hR⟩ := hY'.out pre (j, c) w1 ⟨hfj, hlt, hbd.1, hbd.2⟩ hJ1 (by rw [hcl]; simp)
        have hpre : (pre ++ [(j, c)]) <+: pgs p f := by rw [hcl]; exact ⟨pgsF p f g (j + 1), by simp⟩
        have hnext : pgs p f = (pre ++ [(j, c)]) ++ pgsF p f (p.n + 1 - (j + 1)) (j + 1) := by rw [hcl, hg']; simp
        dsimp only [encP] at hy
        have HP := Lib.hid (And.intro hpre (And.intro hnext hB2))
        clear hJs hbf hbs hB hcl hJ1 hpre hnext hB2 hB1 HH hg hg' x0
        gi_wp2
        refine hR.mono ?_
        rintro e W3 (⟨rfl, hJ3, hk3⟩ | ⟨rfl, hJx3⟩)
        · have q1 := (cell_eq hk3.2.1 0).trans hbf1
          have q2 := (cell_eq hk3.2.2 0).trans hbs1
          gi_wp2
          go_roundw
          case rel => exact ⟨j + 1, pre ++ [(j, c)], by omega, by omega, by go_num, HP.out.2.1, hJ3, q1, q2, HP.out.2.2.trans hk3.1⟩
          case measure => simp [intOf]; omega
        · gi_wp2
          refine bodyPost_ret (results_none rfl _ _ _) rfl ?_
          exact ⟨⟨_, rfl⟩, .inr ⟨_, HP.out.1, hJx3⟩⟩
      · rw [if_pos rfl, List.append_nil] at hcl
        have HP := Lib.hid (And.intro hcl hJ1)
        clear hJs hbf hbs hB hcl hJ1 hB2 hB1 HH hg hg' x0
        gi_wp2
        refine bodyPost_ret (results_none rfl _ _ _) rfl ?_
        exact ⟨⟨_, rfl⟩, .inl ⟨_, HP.out.1.symm, HP.out.2⟩⟩
      · rw [if_neg (by decide), if_neg (by decide)] at hcl
        have hskip : pgs p f = pre ++ pgsF p f (p.n + 1 - (j + 1)) (j + 1) := by rw [hcl, hg']
        have HP := Lib.hid (And.intro hskip (And.intro hJ1 hB2))
        clear hJs hbf hbs hB hcl hJ1 hskip hB2 hB1 HH hg hg' x0
        gi_wp2
        refine ⟨fun _ h => (by cases h), ?_⟩
        gi_wp2
        go_roundw
        case rel => exact ⟨j + 1, pre, by omega, by omega, by go_num, HP.out.1, HP.out.2.1, hbf1, hbs1, HP.out.2.2⟩
        case measure => simp [intOf]; omega
    · have hj' : j = p.n + 1 := by omega
      have hz : ¬ ((j : Int) ≤ (p.n : Int)) := by omega
      have hz' : decide ((j : Int) ≤ (p.n : Int)) = false := by simpa using hz
      rw [hj', Nat.sub_self, pgsF, List.append_nil] at hcl
      have HP := Lib.hid (And.intro hcl hJs)
      clear hcl hJs hj' hSr hB
      gi_wp2
      go_end0
      refine ⟨⟨_, rfl⟩, .inl ?_⟩
      first
        | exact ⟨_, HP.out.1.symm, HP.out.2⟩
        | (rw [HP.out.1]; exact HP.out.2)
/-- a page of a problem, with its cost -/
abbrev Pg (p : PP) (f : Nat) := { x : Nat × Int // okP p f x }
theorem pages_stops (n : Nat) (hn : 1 ≤ n) (Bf Bs S : Nat) (p : PP) (f : Nat) (W0 : World) (hS : Sums W0 S p) (hv : Val p) (hn10 : p.n ≤ 10) (hf : f < p.n) (w : World) (hBf : Bf < w.heap.size) (hBs : Bs < w.heap.size) (hcf : w.cell? ⟨Bf, 0, none⟩ = some (.int .i64 f)) (hcs : w.cell? ⟨Bs, 0, none⟩ = some (.pointer (some ⟨S, 0, none⟩))) (hB : Below W0.heap.size W0 w) :
    SeqStopsK Fence.wide n Try.prog 33 #[.pointer (some ⟨Bf, 0, none⟩), .pointer (some ⟨Bs, 0, none⟩)] (fun x : Pg p f => encP x.1) (KpP W0.heap.size Bf Bs) (fun ys => ys.map (fun x => x.1) = pgs p f) (fun pre => pre.map (fun x => x.1) <+: pgs p f) (pgs p f).length w := fun l J Jx W hW hJ _ hY h0 => by
  refine (pages1_in n hn l Bf Bs S p f W0 hS hv hn10 hf (fun pre W => ∃ pc : List (Pg p f), pc.map (fun x => x.1) = pre ∧ J pc W) (fun pre W => ∃ pc : List (Pg p f), pc.map (fun x => x.1) = pre ∧ Jx pc W) W.heap.size
    (fun s A B row hs hg hr => by obtain ⟨pc, e, hj⟩ := hs; exact ⟨pc, e, hJ pc A B row hj hg hr⟩) ?_ W ((hW.cell (p := ⟨Bf, 0, none⟩) hBf).trans hcf) ((hW.cell (p := ⟨Bs, 0, none⟩) hBs).trans hcs) (hB.trans (hW.mono hB.size)) ⟨[], rfl, h0⟩).mono ?_
  · rintro pre x W hok ⟨pc, rfl, hJ⟩ hlen
    refine (hY pc ⟨x, hok⟩ W hJ (by simpa using hlen)).mono ?_
    rintro e W' (⟨rfl, hJ', hk⟩ | ⟨rfl, hJx⟩)
    · exact .inl ⟨rfl, ⟨pc ++ [⟨x, hok⟩], by simp, hJ'⟩, hk⟩
    · exact .inr ⟨rfl, ⟨pc ++ [⟨x, hok⟩], by simp, hJx⟩⟩
  · rintro e W' ⟨hv, ⟨ys, rfl, pc, hpc, hJ⟩ | ⟨pre, hpre, pc, rfl, hJ⟩⟩
    · exact ⟨hv, .inl ⟨pc, hpc, hJ⟩⟩
    · exact ⟨hv, .inr ⟨pc, hpre, hJ⟩⟩
theorem kpP_t {n0 Bf Bs : Nat} {A C D : World} (h : KpP n0 Bf Bs A C) (k : KpP n0 Bf Bs C D) : KpP n0 Bf Bs A D := ⟨h.1.trans k.1, k.2.1.trans h.2.1, k.2.2.trans h.2.2⟩
theorem kpP_b {n0 Bf Bs n : Nat} (h0 : n0 ≤ n) (hf : Bf < n) (hs : Bs < n) (W : World) (l : Nat) (o o' : Obj) (hl : n ≤ l) (h : W.heap[l]? = some o) (_ : o.isCells = false) (_ : o.isWalk = false) : KpP n0 Bf Bs W (W.putObj l o') := by
  have e : ∀ k, k < n → (W.putObj l o').heap[k]? = W.heap[k]? := fun k hk => World.putObj_heap_other (by omega)
  exact ⟨⟨rfl, rfl, rfl, by simp, fun k hk => e k (by omega)⟩, e Bf hf, e Bs hs⟩
end Go.Proofs.Ytpfjeldpckmdoaa
