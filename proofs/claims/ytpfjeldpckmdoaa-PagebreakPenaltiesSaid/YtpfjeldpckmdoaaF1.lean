import Derived.Test.YtpfjeldpckmdoaaE
import Derived.Laws.OwnMore
import Derived.Laws.Rows
set_option linter.unusedVariables false
set_option linter.unusedSimpArgs false
namespace Go.Proofs.Ytpfjeldpckmdoaa
open Go.RowKit
/-- the sums of the first, as cells -/
def prs (f : Nat → Int) (k : Nat) : List Value := (List.range k).map fun j => .int .i64 (pre f j)
theorem prs_succ (f : Nat → Int) (k : Nat) : prs f (k + 1) = prs f k ++ [.int .i64 (pre f k)] := by simp [prs, List.range_succ]
theorem prs_get (f : Nat → Int) {k j : Nat} (h : j < k) : (prs f k).getD j undef = .int .i64 (pre f j) := by
  simp [prs, List.getD_eq_getElem?_getD, h]
theorem own_of_block {W W' : World} {base : Nat} {e : TypeId} {size n cap r : Nat} {xs : List Value} (h : W.ownsRow base e size (.slice (some ⟨r, 0, none⟩) n cap) n xs) (hb : W'.heap[r]? = W.heap[r]?) : W'.ownsRow base e size (.slice (some ⟨r, 0, none⟩) n cap) n xs := by
  obtain ⟨hl, h2⟩ := h
  refine ⟨hl, ?_⟩
  rcases h2 with ⟨h, _⟩ | ⟨g, cap', cur, hv, hg, hh, rest⟩
  · cases h
  · refine .inr ⟨g, cap', cur, hv, hg, ?_, rest⟩
    injection hv with hv; injection hv with hv; injection hv with hv
    subst hv
    exact hb.trans hh
/-- the cells of the object of sums -/
def sF (A1 A2 A3 : Option Addr) (c1 c2 c3 : Nat) (p : PP) (v5 v6 : Value) : Nat → Value
  | 0 => .slice A1 p.lines.length c1
  | 1 => .slice A2 p.notes.length c2
  | 2 => .slice A3 p.pens.length c3
  | 3 => .int .i64 p.hh
  | 4 => .int .i64 p.gap
  | 5 => v5
  | _ => v6
def upd {α : Type} (f : Nat → α) (b : Nat) (v : α) : Nat → α := fun j => if j = b then v else f j
/-- the sums while they are made: `m` blocks have their row -/
structure NS (W1 W : World) (g S : Nat) (A1 A2 A3 : Option Addr) (c1 c2 c3 : Nat) (p : PP) (Ab : Option Addr) (cb rl cl gb : Nat) (rb cc : Nat → Nat) (kl : Nat) (k : Nat → Nat) (m : Nat) (tf : Nat → Value) : Prop where
  sz : g + 1 ≤ W1.heap.size
  bel : Below (g + 1) W1 W
  gS : g < S
  ggb : 0 < p.nb → g < gb
  obj : Has W S 63 7 (sF A1 A2 A3 c1 c2 c3 p (.slice (some ⟨rl, 0, none⟩) kl cl) (.slice Ab p.nb cb))
  lin : W.ownsRow (g + 1) 3 1 (.slice (some ⟨rl, 0, none⟩) kl cl) kl (prs p.ln kl)
  ab : 0 < p.nb → Ab = some ⟨gb, 0, none⟩
  tab : 0 < p.nb → Has W gb 22 p.nb tf
  tfe : ∀ b, b < m → tf b = .slice (some ⟨rb b, 0, none⟩) (k b) (cc b)
  rows : ∀ b, b < m → W.ownsRow (g + 1) 3 1 (.slice (some ⟨rb b, 0, none⟩) (k b) (cc b)) (k b) (prs (p.nt b) (k b))
  inj : ∀ b b', b < m → b' < m → rb b = rb b' → b = b'
  ne : ∀ b, b < m → rb b ≠ rl
  mle : m ≤ p.nb
theorem row_has {W : World} {base n cap r : Nat} {xs : List Value} (h : W.ownsRow base 3 1 (.slice (some ⟨r, 0, none⟩) n cap) n xs) : Has W r 3 n (fun j => xs.getD j undef) ∧ base ≤ r ∧ r < W.heap.size := by
  have hh := own_has h
  rw [Nat.mul_one] at hh
  rcases own_forms h with ⟨h0, _⟩ | ⟨g, c, he, h1, h2, _⟩
  · cases h0
  · injection he with he; injection he with he; injection he with he
    subst he
    exact ⟨hh, h1, h2⟩
section
variable {W1 W w1 : World} {g S : Nat} {A1 A2 A3 : Option Addr} {c1 c2 c3 : Nat} {p : PP} {Ab : Option Addr} {cb rl cl gb : Nat} {rb cc : Nat → Nat} {kl : Nat} {k : Nat → Nat} {m : Nat} {tf : Nat → Value}
theorem NS.drewN (h : NS W1 W g S A1 A2 A3 c1 c2 c3 p Ab cb rl cl gb rb cc kl k m tf) (q : Nat) : NS W1 (W.drewN q) g S A1 A2 A3 c1 c2 c3 p Ab cb rl cl gb rb cc kl k m tf :=
  ⟨h.sz, drewN_below h.bel q, h.gS, h.ggb, h.obj, h.lin, h.ab, h.tab, h.tfe, h.rows, h.inj, h.ne, h.mle⟩
/-- one line more -/
theorem NS.lines (h : NS W1 W g S A1 A2 A3 c1 c2 c3 p Ab cb rl cl gb rb cc kl k m tf) (o : Obj) {r' cap' : Nat} {x : Int} (hx : x = pre p.ln kl)
    (hgrow : (W.alloc o).grownBy w1 (some rl)) (hown : w1.ownsRow (g + 1) 3 1 (.slice (some ⟨r', 0, none⟩) (kl + 1) cap') (kl + 1) (prs p.ln kl ++ [.int .i64 x])) (hat : rl = r' ∨ r' = W.heap.size + 1) :
    NS W1 (w1.setCell ⟨S, 5, none⟩ (.slice (some ⟨r', 0, none⟩) (kl + 1) cap')) g S A1 A2 A3 c1 c2 c3 p Ab cb r' cap' gb rb cc (kl + 1) k m tf := by
  obtain ⟨hl1, hl2, hl3⟩ := row_has h.lin
  have hS := h.obj.lt
  have hSrl : S ≠ rl := h.obj.ne_ hl1 (by decide)
  have hrS : S ≠ r' := by rcases hat with e | e <;> omega
  have hk : ∀ i, i < W.heap.size → i ≠ rl → w1.heap[i]? = W.heap[i]? := fun i hi hne => by
    rw [hgrow.block i (by simp; omega) (fun e => hne (by injection e)), Below.heap_alloc _ _ _ hi]
  have hk2 : ∀ i, i < W.heap.size → i ≠ rl → i ≠ S → (w1.setCell ⟨S, 5, none⟩ (.slice (some ⟨r', 0, none⟩) (kl + 1) cap')).heap[i]? = W.heap[i]? := fun i hi hne hnS => by
    rw [Below.heap_setCell _ _ _ _ hnS]; exact hk i hi hne
  have hgS := h.gS
  refine ⟨h.sz, ?_, h.gS, h.ggb, ?_, ?_, h.ab, fun hn => ?_, h.tfe, fun b hb => ?_, h.inj, fun b hb => ?_, h.mle⟩
  · refine h.bel.trans ⟨hgrow.os, hgrow.tape, hgrow.output, ?_, fun i hi => ?_⟩
    · have := hgrow.size; simp at this; simp [World.setCell]; omega
    · have := h.bel.size; have := h.sz
      exact hk2 i (by omega) (by omega) (by omega)
  · refine ((h.obj.of_block (hk S hS hSrl)).set 5 _).congr fun j hj => ?_
    by_cases e : j = 5
    · subst e; rfl
    · rw [if_neg e]
      have : j = 0 ∨ j = 1 ∨ j = 2 ∨ j = 3 ∨ j = 4 ∨ j = 6 := by omega
      rcases this with rfl | rfl | rfl | rfl | rfl | rfl <;> rfl
  · rw [prs_succ, ← hx]
    exact own_of_block hown (Below.heap_setCell _ _ _ _ (Ne.symm hrS))
  · have ht := h.tab hn
    exact ht.of_block (hk2 gb ht.lt (ht.ne_ hl1 (by decide)) (ht.ne_ h.obj (by decide)))
  · obtain ⟨q1, q2, q3⟩ := row_has (h.rows b hb)
    exact own_of_block (h.rows b hb) (hk2 (rb b) q3 (h.ne b hb) (fun e => h.obj.ne_ q1 (by decide) e.symm))
  · obtain ⟨q1, q2, q3⟩ := row_has (h.rows b hb)
    have := h.ne b hb
    rcases hat with e | e <;> omega
/-- one note more in block `b` -/
theorem NS.row (h : NS W1 W g S A1 A2 A3 c1 c2 c3 p Ab cb rl cl gb rb cc kl k m tf) (o : Obj) {b : Nat} (hb : b < m) {r' cap' : Nat} {x : Int} (hx : x = pre (p.nt b) (k b))
    (hgrow : (W.alloc o).grownBy w1 (some (rb b))) (hown : w1.ownsRow (g + 1) 3 1 (.slice (some ⟨r', 0, none⟩) (k b + 1) cap') (k b + 1) (prs (p.nt b) (k b) ++ [.int .i64 x])) (hat : rb b = r' ∨ r' = W.heap.size + 1) :
    NS W1 (w1.setCell ⟨gb, b, none⟩ (.slice (some ⟨r', 0, none⟩) (k b + 1) cap')) g S A1 A2 A3 c1 c2 c3 p Ab cb rl cl gb (upd rb b r') (upd cc b cap') kl (upd k b (k b + 1)) m (upd tf b (.slice (some ⟨r', 0, none⟩) (k b + 1) cap')) := by
  have hn : 0 < p.nb := by have := h.mle; omega
  have ht := h.tab hn
  obtain ⟨hl1, hl2, hl3⟩ := row_has (h.rows b hb)
  obtain ⟨ll1, ll2, ll3⟩ := row_has h.lin
  have hG := ht.lt
  have hSrl : gb ≠ rb b := ht.ne_ hl1 (by decide)
  have hrS : gb ≠ r' := by rcases hat with e | e <;> omega
  have hk : ∀ i, i < W.heap.size → i ≠ rb b → w1.heap[i]? = W.heap[i]? := fun i hi hne => by
    rw [hgrow.block i (by simp; omega) (fun e => hne (by injection e)), Below.heap_alloc _ _ _ hi]
  have hk2 : ∀ i, i < W.heap.size → i ≠ rb b → i ≠ gb → (w1.setCell ⟨gb, b, none⟩ (.slice (some ⟨r', 0, none⟩) (k b + 1) cap')).heap[i]? = W.heap[i]? := fun i hi hne hnS => by
    rw [Below.heap_setCell _ _ _ _ hnS]; exact hk i hi hne
  have hgS := h.ggb hn
  refine ⟨h.sz, ?_, h.gS, h.ggb, ?_, ?_, h.ab, fun _ => ?_, fun b' hb' => ?_, fun b' hb' => ?_, fun b1 b2 hb1 hb2 e => ?_, fun b' hb' => ?_, h.mle⟩
  · refine h.bel.trans ⟨hgrow.os, hgrow.tape, hgrow.output, ?_, fun i hi => ?_⟩
    · have := hgrow.size; simp at this; simp [World.setCell]; omega
    · have := h.bel.size; have := h.sz
      exact hk2 i (by omega) (by omega) (by omega)
  · exact h.obj.of_block (hk2 S h.obj.lt (h.obj.ne_ hl1 (by decide)) (h.obj.ne_ ht (by decide)))
  · exact own_of_block h.lin (hk2 rl ll3 (fun e => h.ne b hb e.symm) (fun e => ht.ne_ ll1 (by decide) e.symm))
  · exact ((ht.of_block (hk gb hG hSrl)).set b _).congr fun j hj => rfl
  · unfold upd
    by_cases e : b' = b
    · subst e; simp
    · simp only [if_neg e]; exact h.tfe b' hb'
  · unfold upd
    by_cases e : b' = b
    · subst e
      simp only [if_true]
      rw [prs_succ, ← hx]
      exact own_of_block hown (Below.heap_setCell _ _ _ _ (Ne.symm hrS))
    · simp only [if_neg e]
      obtain ⟨q1, q2, q3⟩ := row_has (h.rows b' hb')
      exact own_of_block (h.rows b' hb') (hk2 (rb b') q3 (fun e' => e (h.inj b' b hb' hb e')) (fun e' => ht.ne_ q1 (by decide) e'.symm))
  · unfold upd at e
    obtain ⟨q1, q2, q3⟩ := row_has (h.rows b1 hb1)
    obtain ⟨s1, s2, s3⟩ := row_has (h.rows b2 hb2)
    by_cases e1 : b1 = b <;> by_cases e2 : b2 = b
    · omega
    · rw [if_pos e1, if_neg e2] at e
      rcases hat with hh | hh
      · exact absurd (h.inj b2 b hb2 hb (by omega)) e2
      · omega
    · rw [if_neg e1, if_pos e2] at e
      rcases hat with hh | hh
      · exact absurd (h.inj b1 b hb1 hb (by omega)) e1
      · omega
    · rw [if_neg e1, if_neg e2] at e
      exact h.inj b1 b2 hb1 hb2 e
  · unfold upd
    by_cases e : b' = b
    · subst e
      simp only [if_true]
      have := h.ne b' hb'
      rcases hat with hh | hh <;> omega
    · simp only [if_neg e]; exact h.ne b' hb'
/-- a block gets its row -/
theorem NS.first (h : NS W1 W g S A1 A2 A3 c1 c2 c3 p Ab cb rl cl gb rb cc kl k m tf) (hm : m < p.nb) (hkm : k m = 1) :
    NS W1 ((W.alloc (.cells #[.int .i64 0] 3)).setCell ⟨gb, m, none⟩ (.slice (some ⟨W.heap.size, 0, none⟩) 1 1)) g S A1 A2 A3 c1 c2 c3 p Ab cb rl cl gb (upd rb m W.heap.size) (upd cc m 1) kl k (m + 1) (upd tf m (.slice (some ⟨W.heap.size, 0, none⟩) 1 1)) := by
  have hn : 0 < p.nb := by omega
  have ht := h.tab hn
  obtain ⟨ll1, ll2, ll3⟩ := row_has h.lin
  have hG := ht.lt
  have hk2 : ∀ i, i < W.heap.size → i ≠ gb → ((W.alloc (.cells #[.int .i64 0] 3)).setCell ⟨gb, m, none⟩ (.slice (some ⟨W.heap.size, 0, none⟩) 1 1)).heap[i]? = W.heap[i]? := fun i hi hnS => by
    rw [Below.heap_setCell _ _ _ _ hnS, Below.heap_alloc _ _ _ hi]
  have hgS := h.ggb hn
  have hsz : g + 1 ≤ W.heap.size := by have := h.bel.size; have := h.sz; omega
  refine ⟨h.sz, ?_, h.gS, h.ggb, ?_, ?_, h.ab, fun _ => ?_, fun b' hb' => ?_, fun b' hb' => ?_, fun b1 b2 hb1 hb2 e => ?_, fun b' hb' => ?_, by omega⟩
  · exact (h.bel.alloc hsz _).setCell (p := ⟨gb, m, none⟩) (by show g + 1 ≤ gb; omega) _
  · exact h.obj.of_block (hk2 S h.obj.lt (h.obj.ne_ ht (by decide)))
  · exact own_of_block h.lin (hk2 rl ll3 (fun e => ht.ne_ ll1 (by decide) e.symm))
  · exact ((ht.alloc _).set m _).congr fun j hj => rfl
  · unfold upd
    by_cases e : b' = m
    · subst e; simp [hkm]
    · simp only [if_neg e]; exact h.tfe b' (by omega)
  · unfold upd
    by_cases e : b' = m
    · subst e
      simp only [if_true]
      refine own_of_block (W := W.alloc (.cells #[.int .i64 0] 3)) ?_ (Below.heap_setCell _ _ _ _ (by show W.heap.size ≠ gb; omega))
      rw [hkm]
      exact ⟨rfl, .inr ⟨W.heap.size, 1, #[.int .i64 0], rfl, hsz, heap_alloc_new _ _, Nat.le_refl _, by decide, rfl, rfl⟩⟩
    · simp only [if_neg e]
      obtain ⟨q1, q2, q3⟩ := row_has (h.rows b' (by omega))
      exact own_of_block (h.rows b' (by omega)) (hk2 (rb b') q3 (fun e' => ht.ne_ q1 (by decide) e'.symm))
  · unfold upd at e
    by_cases e1 : b1 = m <;> by_cases e2 : b2 = m
    · omega
    · rw [if_pos e1, if_neg e2] at e
      obtain ⟨s1, s2, s3⟩ := row_has (h.rows b2 (by omega))
      omega
    · rw [if_neg e1, if_pos e2] at e
      obtain ⟨s1, s2, s3⟩ := row_has (h.rows b1 (by omega))
      omega
    · rw [if_neg e1, if_neg e2] at e
      exact h.inj b1 b2 (by omega) (by omega) e
  · unfold upd
    by_cases e : b' = m
    · subst e
      simp only [if_true]
      omega
    · simp only [if_neg e]; exact h.ne b' (by omega)
end
/-- the sums of a page problem at block `S`: what a reader sees -/
structure SumsAt (w : World) (S : Nat) (A1 A2 A3 : Option Addr) (c1 c2 c3 : Nat) (p : PP) (Ab : Option Addr) (cb rl cl : Nat) : Prop where
  lt : S < w.heap.size
  x0 : w.cell? ⟨S, 0, none⟩ = some (.slice A1 p.lines.length c1)
  x1 : w.cell? ⟨S, 1, none⟩ = some (.slice A2 p.notes.length c2)
  x2 : w.cell? ⟨S, 2, none⟩ = some (.slice A3 p.pens.length c3)
  x3 : w.cell? ⟨S, 3, none⟩ = some (.int .i64 p.hh)
  x4 : w.cell? ⟨S, 4, none⟩ = some (.int .i64 p.gap)
  x5 : w.cell? ⟨S, 5, none⟩ = some (.slice (some ⟨rl, 0, none⟩) (p.n + 1) cl)
  x6 : w.cell? ⟨S, 6, none⟩ = some (.slice Ab p.nb cb)
  pens : Ints w w.heap.size A3 p.pens
  ltl : rl < w.heap.size
  lin : ∀ j, j ≤ p.n → w.cell? ⟨rl, j, none⟩ = some (.int .i64 (pre p.ln j))
  blk : ∀ b, b < p.nb → ∃ gb r c, Ab = some ⟨gb, 0, none⟩ ∧ gb < w.heap.size ∧ r < w.heap.size ∧ w.cell? ⟨gb, b, none⟩ = some (.slice (some ⟨r, 0, none⟩) (p.n + 1) c) ∧ ∀ j, j ≤ p.n → w.cell? ⟨r, j, none⟩ = some (.int .i64 (pre (p.nt b) j))
def Sums (w : World) (S : Nat) (p : PP) : Prop := ∃ A1 A2 A3 c1 c2 c3 Ab cb rl cl, SumsAt w S A1 A2 A3 c1 c2 c3 p Ab cb rl cl
theorem Sums.next {w w' : World} {S : Nat} {p : PP} (h : Sums w S p) (hb : Below w.heap.size w w') : Sums w' S p := by
  obtain ⟨A1, A2, A3, c1, c2, c3, Ab, cb, rl, cl, h⟩ := h
  have hs := hb.size
  have hc := fun o => hb.cell (p := ⟨S, o, none⟩) h.lt
  refine ⟨A1, A2, A3, c1, c2, c3, Ab, cb, rl, cl, ⟨by have := h.lt; omega, (hc 0).trans h.x0, (hc 1).trans h.x1, (hc 2).trans h.x2, (hc 3).trans h.x3, (hc 4).trans h.x4, (hc 5).trans h.x5, (hc 6).trans h.x6, h.pens.keep hb hs, by have := h.ltl; omega, fun j hj => (hb.cell (p := ⟨rl, j, none⟩) h.ltl).trans (h.lin j hj), fun b hbb => ?_⟩⟩
  obtain ⟨gb, r, c, e, h1, h2, h3, h4⟩ := h.blk b hbb
  exact ⟨gb, r, c, e, by omega, by omega, (hb.cell (p := ⟨gb, b, none⟩) h1).trans h3, fun j hj => (hb.cell (p := ⟨r, j, none⟩) h2).trans (h4 j hj)⟩
theorem NS.sums {W1 W : World} {g S : Nat} {A1 A2 A3 : Option Addr} {c1 c2 c3 : Nat} {p : PP} {Ab : Option Addr} {cb rl cl gb : Nat} {rb cc : Nat → Nat} {k : Nat → Nat} {tf : Nat → Value}
    (h : NS W1 W g S A1 A2 A3 c1 c2 c3 p Ab cb rl cl gb rb cc (p.n + 1) k p.nb tf) (hk : ∀ b, b < p.nb → k b = p.n + 1) (hp : Ints W1 (g + 1) A3 p.pens) : Sums W S p := by
  obtain ⟨ll1, ll2, ll3⟩ := row_has h.lin
  have hs := h.bel.size
  have hz := h.sz
  refine ⟨A1, A2, A3, c1, c2, c3, Ab, cb, rl, cl, ⟨h.obj.lt, h.obj.cell (i := 0) (by omega), h.obj.cell (i := 1) (by omega), h.obj.cell (i := 2) (by omega), h.obj.cell (i := 3) (by omega), h.obj.cell (i := 4) (by omega), h.obj.cell (i := 5) (by omega), h.obj.cell (i := 6) (by omega), hp.keep h.bel (by omega), ll3, fun j hj => ?_, fun b hb => ?_⟩⟩
  · rw [ll1.cell (i := j) (by omega), prs_get _ (by omega)]
  · obtain ⟨q1, q2, q3⟩ := row_has (h.rows b hb)
    have hkb := hk b hb
    refine ⟨gb, rb b, cc b, h.ab (by omega), (h.tab (by omega)).lt, q3, ?_, fun j hj => ?_⟩
    · rw [(h.tab (by omega)).cell hb, h.tfe b hb, hkb]
    · rw [q1.cell (i := j) (by omega), prs_get _ (by omega)]
end Go.Proofs.Ytpfjeldpckmdoaa
