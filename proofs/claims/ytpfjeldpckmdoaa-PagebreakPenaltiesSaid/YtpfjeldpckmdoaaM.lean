/- Words for memory: a block that holds a row of cells (content by index), a table of integer rows, a slice that reads as a family of cells; how they are kept. -/
import Derived.WalkKit
import Derived.OwnWalk
import Derived.Deep.QuietTactic
import Derived.BigQuiet
import Derived.StillTailTactics
import Derived.Lib.Hide
import Derived.Lib.ConvBytes
import Derived.Deep.LoopGhost
import Derived.Deep.OwnRows
import Derived.Deep.Light
import Derived.Deep.DeepCutAuto
import Derived.Deep.CutBlock
import Derived.CellFam
import Derived.WalkSpells
import Derived.WalkLawsBesides
set_option linter.unusedVariables false
set_option linter.unusedSimpArgs false
namespace Go.Proofs.Ytpfjeldpckmdoaa
open Go.RowKit

/-- block `n` of a function's text -/
def pieceC (n : Nat) : Code → Option Code
  | .block m c => if m = n then some (.block m c) else pieceC n c
  | .loop c => pieceC n c
  | .scope c => pieceC n c
  | .seq a b => match pieceC n a with
    | some c => some c
    | none => pieceC n b
  | .cond _ a b => match pieceC n a with
    | some c => some c
    | none => pieceC n b
  | .rangeFunc _ _ a b => match pieceC n a with
    | some c => some c
    | none => pieceC n b
  | _ => none
noncomputable def piece (n : Nat) (f : Func) : Code := (f.body.bind (pieceC n)).getD .skip

/-- the body of the loop that a block is -/
def loopBody : Code → Code
  | .block _ c => loopBody c
  | .loop c => c
  | _ => .skip

theorem drewN_below {B : Nat} {a w : World} (h : Below B a w) (q : Nat) : Below B a (w.drewN q) := ⟨h.os, h.tape, h.output, h.size, h.block⟩
theorem quiet_below {B : Nat} {a w w' : World} (h : Below B a w) (hq : ∃ n, w' = w.drewN n) : Below B a w' := by
  obtain ⟨n, rfl⟩ := hq; exact drewN_below h n
theorem freeze_below (B : Nat) (a w : World) (ad : Addr) (n : Nat) (h : Below B a w) (hB : B ≤ ad.block) : Below B a (w.freeze ad n) := by
  unfold World.freeze
  split
  · exact h
  · refine h.trans ⟨rfl, rfl, rfl, by simp, fun k hk => ?_⟩
    simp only [Array.getElem?_modify]
    rw [if_neg (by omega)]
theorem bytesWorld_below (w : World) (e : TypeId) (s : ByteArray) : Below w.heap.size w (Lib.bytesWorld w e s) :=
  freeze_below _ _ _ _ _ (((Below.refl _ _).drew).alloc (Nat.le_refl _) _) (Nat.le_refl _)

/-- Of what was there only block `g` has changed. -/
structure Only (g : Nat) (w w' : World) : Prop where
  os : w'.os = w.os
  tape : w'.tape = w.tape
  output : w'.output = w.output
  size : w.heap.size ≤ w'.heap.size
  block : ∀ k, k ≠ g → k < w.heap.size → w'.heap[k]? = w.heap[k]?
namespace Only
variable {g : Nat} {a w w' : World}
theorem refl (g : Nat) (w : World) : Only g w w := ⟨rfl, rfl, rfl, Nat.le_refl _, fun _ _ _ => rfl⟩
theorem trans (h : Only g a w) (k : Only g w w') : Only g a w' :=
  ⟨k.os.trans h.os, k.tape.trans h.tape, k.output.trans h.output, Nat.le_trans h.size k.size, fun i hi hl => (k.block i hi (Nat.lt_of_lt_of_le hl h.size)).trans (h.block i hi hl)⟩
theorem drew (h : Only g a w) : Only g a w.drew := ⟨h.os, h.tape, h.output, h.size, h.block⟩
theorem drewN (h : Only g a w) (q : Nat) : Only g a (w.drewN q) := ⟨h.os, h.tape, h.output, h.size, h.block⟩
theorem set (h : Only g a w) (i : Nat) (v : Value) : Only g a (w.setCell ⟨g, i, none⟩ v) :=
  h.trans ⟨rfl, rfl, rfl, by simp [World.setCell], fun k hk _ => Below.heap_setCell _ _ _ _ (by exact hk)⟩
theorem alloc (h : Only g a w) (o : Obj) : Only g a (w.alloc o) :=
  h.trans ⟨rfl, rfl, rfl, by simp, fun k hk hl => Below.heap_alloc _ _ _ hl⟩
theorem below {B : Nat} (h : Only g w w') (hB : B ≤ g) (hw : B ≤ w.heap.size) : Below B w w' :=
  ⟨h.os, h.tape, h.output, h.size, fun k hk => h.block k (by omega) (by omega)⟩
theorem grown (h : Only g w w') : w.grownBy w' (some g) := ⟨h.os, h.tape, h.output, h.size, fun k hk hne => h.block k (fun e => hne (by rw [e])) hk⟩
end Only

/-- Block `g` has at least `n` cells of type `t`, none frozen; cell `i` holds `f i`. -/
def Has (w : World) (g : Nat) (t : TypeId) (n : Nat) (f : Nat → Value) : Prop :=
  ∃ c : Array Value, w.heap[g]? = some (.cells c t (0, 0)) ∧ n ≤ c.size ∧ ∀ i, i < n → c[i]? = some (f i)
namespace Has
variable {w w' : World} {g : Nat} {t : TypeId} {n : Nat} {f f' : Nat → Value}
theorem cell (h : Has w g t n f) {i : Nat} (hi : i < n) : w.cell? ⟨g, i, none⟩ = some (f i) := by
  obtain ⟨c, hb, _, hc⟩ := h
  simp [World.cell?, hb, hc i hi]
theorem frozen (h : Has w g t n f) (i : Nat) : w.frozen? ⟨g, i, none⟩ = false := by
  obtain ⟨c, hb, _, _⟩ := h
  simp [World.frozen?, hb]
theorem lt (h : Has w g t n f) : g < w.heap.size := by
  obtain ⟨c, hb, _, _⟩ := h
  exact (Array.getElem?_eq_some_iff.1 hb).1
theorem congr (h : Has w g t n f) (e : ∀ i, i < n → f i = f' i) : Has w g t n f' := by
  obtain ⟨c, hb, hn, hc⟩ := h
  exact ⟨c, hb, hn, fun i hi => by rw [hc i hi, e i hi]⟩
theorem less (h : Has w g t n f) {m : Nat} (hm : m ≤ n) : Has w g t m f := by
  obtain ⟨c, hb, hn, hc⟩ := h
  exact ⟨c, hb, by omega, fun i hi => hc i (by omega)⟩
theorem of_block (h : Has w g t n f) (e : w'.heap[g]? = w.heap[g]?) : Has w' g t n f := by
  obtain ⟨c, hb, hn, hc⟩ := h
  exact ⟨c, e.trans hb, hn, hc⟩
theorem set (h : Has w g t n f) (i : Nat) (v : Value) : Has (w.setCell ⟨g, i, none⟩ v) g t n (fun j => if j = i then v else f j) := by
  obtain ⟨c, hb, hn, hc⟩ := h
  refine ⟨c.setIfInBounds i v, ?_, by simpa using hn, fun j hj => ?_⟩
  · simp [World.setCell, Array.getElem?_modify, hb]
  · rw [Array.getElem?_setIfInBounds]
    by_cases e : j = i
    · subst e
      rw [if_pos rfl, if_pos (by omega)]
      exact congrArg some (if_pos rfl).symm
    · rw [if_neg (fun h => e h.symm)]
      exact (hc j hj).trans (congrArg some (if_neg e).symm)
theorem far (h : Has w g t n f) {a : Addr} (ha : g ≠ a.block) (v : Value) : Has (w.setCell a v) g t n f := h.of_block (Below.heap_setCell _ _ _ _ ha)
theorem alloc (h : Has w g t n f) (o : Obj) : Has (w.alloc o) g t n f := h.of_block (Below.heap_alloc _ _ _ h.lt)
theorem drew (h : Has w g t n f) : Has w.drew g t n f := h
theorem drewN (h : Has w g t n f) (q : Nat) : Has (w.drewN q) g t n f := h
theorem below {B : Nat} (h : Has w g t n f) (hb : Below B w w') (hg : g < B) : Has w' g t n f := h.of_block (hb.block g hg)
theorem grown {row : Option Nat} (h : Has w g t n f) (hb : w.grownBy w' row) (hg : some g ≠ row) : Has w' g t n f := h.of_block (hb.block g h.lt hg)
theorem ne_ {g' t' n' : Nat} {f' : Nat → Value} (h : Has w g t n f) (h' : Has w g' t' n' f') (hne : t ≠ t') : g ≠ g' := by
  rintro rfl
  obtain ⟨c, hb, _, _⟩ := h
  obtain ⟨c', hb', _, _⟩ := h'
  rw [hb] at hb'
  injection hb' with hb'
  injection hb' with _ ht
  exact hne ht
theorem made (w : World) (z : Value) (n : Nat) (t : TypeId) : Has (w.alloc (.cells (madeCells #[z] n) t)) w.heap.size t n (fun _ => z) :=
  ⟨_, heap_alloc_new _ _, by rw [size_madeCells]; exact Nat.le_refl _, fun i hi => by simp [madeCells, hi, Nat.mod_one]⟩
theorem lit (w : World) (c : Array Value) (t : TypeId) (f : Nat → Value) (hc : ∀ i, i < c.size → c[i]? = some (f i)) : Has (w.alloc (.cells c t)) w.heap.size t c.size f :=
  ⟨c, heap_alloc_new _ _, Nat.le_refl _, hc⟩
end Has

/-- A table of `n` rows of `m` integers: the row of rows is block `g` (type `T`), row `i` is block `rb i` (type 3); none lies below block `lo`. -/
structure Tab (T : TypeId) (w : World) (lo g n m : Nat) (rb : Nat → Nat) (f : Nat → Nat → Int) : Prop where
  top : Has w g T n (fun i => .slice (some ⟨rb i, 0, none⟩) m m)
  rows : ∀ i, i < n → Has w (rb i) 3 m (fun k => .int .i64 (f i k))
  inj : ∀ i j, i < n → j < n → rb i = rb j → i = j
  logo : lo ≤ g
  lor : ∀ i, i < n → lo ≤ rb i
namespace Tab
variable {T : TypeId} {w w' : World} {lo g n m : Nat} {rb : Nat → Nat} {f f' : Nat → Nat → Int}
theorem topc (h : Tab T w lo g n m rb f) {i : Nat} (hi : i < n) : w.cell? ⟨g, i, none⟩ = some (.slice (some ⟨rb i, 0, none⟩) m m) := h.top.cell hi
theorem cell (h : Tab T w lo g n m rb f) {i k : Nat} (hi : i < n) (hk : k < m) : w.cell? ⟨rb i, k, none⟩ = some (.int .i64 (f i k)) := (h.rows i hi).cell hk
theorem frozen (h : Tab T w lo g n m rb f) {i : Nat} (hi : i < n) (k : Nat) : w.frozen? ⟨rb i, k, none⟩ = false := (h.rows i hi).frozen k
theorem congr (h : Tab T w lo g n m rb f) (e : ∀ i k, i < n → k < m → f i k = f' i k) : Tab T w lo g n m rb f' :=
  ⟨h.top, fun i hi => (h.rows i hi).congr fun k hk => by rw [e i k hi hk], h.inj, h.logo, h.lor⟩
theorem of_blocks (h : Tab T w lo g n m rb f) (e0 : w'.heap[g]? = w.heap[g]?) (e : ∀ i, i < n → w'.heap[rb i]? = w.heap[rb i]?) : Tab T w' lo g n m rb f :=
  ⟨h.top.of_block e0, fun i hi => (h.rows i hi).of_block (e i hi), h.inj, h.logo, h.lor⟩
theorem drew (h : Tab T w lo g n m rb f) : Tab T w.drew lo g n m rb f := h.of_blocks rfl fun _ _ => rfl
theorem drewN (h : Tab T w lo g n m rb f) (q : Nat) : Tab T (w.drewN q) lo g n m rb f := h.of_blocks rfl fun _ _ => rfl
theorem alloc (h : Tab T w lo g n m rb f) (o : Obj) : Tab T (w.alloc o) lo g n m rb f := h.of_blocks (Below.heap_alloc _ _ _ h.top.lt) fun i hi => Below.heap_alloc _ _ _ (h.rows i hi).lt
theorem below {B : Nat} (h : Tab T w lo g n m rb f) (hb : Below B w w') (hB : w.heap.size ≤ B) : Tab T w' lo g n m rb f :=
  h.of_blocks (hb.block _ (by have := h.top.lt; omega)) fun i hi => hb.block _ (by have := (h.rows i hi).lt; omega)
/-- the row of rows is none of the rows (it has another type) -/
theorem ne_top (hT : T ≠ 3) (h : Tab T w lo g n m rb f) {i : Nat} (hi : i < n) : g ≠ rb i := h.top.ne_ (h.rows i hi) hT
theorem grown {row : Option Nat} (h : Tab T w lo g n m rb f) (hb : w.grownBy w' row) (hg : some g ≠ row) (hr : ∀ i, i < n → some (rb i) ≠ row) : Tab T w' lo g n m rb f :=
  h.of_blocks (hb.block g h.top.lt hg) fun i hi => hb.block _ (h.rows i hi).lt (hr i hi)
/-- A store into the table. -/
theorem store (hT : T ≠ 3) (h : Tab T w lo g n m rb f) {i : Nat} (hi : i < n) (k : Nat) (v : Int) :
    Tab T (w.setCell ⟨rb i, k, none⟩ (.int .i64 v)) lo g n m rb (fun i' k' => if i' = i ∧ k' = k then v else f i' k') := by
  refine ⟨h.top.far (h.ne_top hT hi) _, fun j hj => ?_, h.inj, h.logo, h.lor⟩
  by_cases e : j = i
  · subst e
    refine ((h.rows j hj).set k _).congr fun k' hk' => ?_
    by_cases e' : k' = k
    · subst e'; simp
    · simp [e']
  · refine ((h.rows j hj).far (a := ⟨rb i, k, none⟩) (fun q => e (h.inj j i hj hi q)) _).congr fun k' hk' => ?_
    simp [e]
/-- A store elsewhere, into a block of another type. -/
theorem far (h : Tab T w lo g n m rb f) {a : Addr} (h0 : g ≠ a.block) (h1 : ∀ i, i < n → rb i ≠ a.block) (v : Value) : Tab T (w.setCell a v) lo g n m rb f :=
  h.of_blocks (Below.heap_setCell _ _ _ _ h0) fun i hi => Below.heap_setCell _ _ _ _ (h1 i hi)
/-- One row more: `make` laid it behind all blocks, and it was put into the row of rows. -/
theorem none_ (w : World) (lo g m N : Nat) (v : Value) (T : TypeId) (hg : Has w g T N (fun _ => v)) (hlo : lo ≤ g) (rb : Nat → Nat) (f : Nat → Nat → Int) : Tab T w lo g 0 m rb f :=
  ⟨(hg.less (Nat.zero_le _)).congr fun i hi => absurd hi (Nat.not_lt_zero _), fun i hi => absurd hi (Nat.not_lt_zero _), fun i j hi => absurd hi (Nat.not_lt_zero _), hlo, fun i hi => absurd hi (Nat.not_lt_zero _)⟩
/-- A new row (block `rb n`, just filled as `f n`) is put into the row of rows, which has room for it. -/
theorem push {N : Nat} {F : Nat → Value} (hT : T ≠ 3) (h : Tab T w lo g n m rb f) (hg : Has w g T N F) (hN : n < N) (hrow : Has w (rb n) 3 m (fun k => .int .i64 (f n k))) (hfresh : ∀ i, i < n → rb i ≠ rb n) (hlo : lo ≤ rb n) :
    Tab T (w.setCell ⟨g, n, none⟩ (.slice (some ⟨rb n, 0, none⟩) m m)) lo g (n + 1) m rb f ∧ Has (w.setCell ⟨g, n, none⟩ (.slice (some ⟨rb n, 0, none⟩) m m)) g T N (fun j => if j = n then .slice (some ⟨rb n, 0, none⟩) m m else F j) := by
  have hs := hg.set n (.slice (some ⟨rb n, 0, none⟩) m m)
  refine ⟨⟨(hs.less (m := n + 1) (by omega)).congr fun i hi => ?_, fun i hi => ?_, fun i j hi hj e => ?_, h.logo, fun i hi => ?_⟩, hs⟩
  · by_cases e : i = n
    · subst e; rw [if_pos rfl]
    · rw [if_neg e]
      have h1 := h.top.cell (i := i) (by omega)
      have h2 := hg.cell (i := i) (by omega)
      rw [h1] at h2
      exact (Option.some.inj h2).symm
  · by_cases e : i = n
    · subst e; exact hrow.far (a := ⟨g, i, none⟩) (fun q => (hg.ne_ hrow hT) q.symm) _
    · exact (h.rows i (by omega)).far (a := ⟨g, n, none⟩) (fun q => h.ne_top hT (by omega) q.symm) _
  · by_cases e1 : i = n <;> by_cases e2 : j = n
    · omega
    · subst e1; exact absurd e.symm (hfresh j (by omega))
    · subst e2; exact absurd e (hfresh i (by omega))
    · exact h.inj i j (by omega) (by omega) e
  · by_cases e : i = n
    · subst e; exact hlo
    · exact h.lor i (by omega)
end Tab

theorem u8_beq (x y : UInt8) : ((x.toNat : Int) == (y.toNat : Int)) = (x == y) := by
  rw [Bool.eq_iff_iff]; simp; exact ⟨fun h => UInt8.toNat_inj.1 (by omega), fun h => by rw [h]⟩
theorem max_if (a b : Int) : max a b = if a < b then b else a := by
  rw [Int.max_def]; split <;> split <;> omega
/-- the bytes of a string -/
def bl (s : ByteArray) : List UInt8 := s.data.toList
/-- byte `k` of a string (0 behind its end) -/
def bat (s : ByteArray) (k : Nat) : UInt8 := (bl s).getD k 0
/-- `s[i]` at an index in bounds, for every world: to be laid ahead of a walk. -/
theorem run_index_str {P : Program} (t : TypeId) (s : ByteArray) (i : Int) (k : Nat) (hi : i = k) (hk : k < s.size) (h63 : s.size ≤ 9223372036854775807) (ht : P.underlying t = some .string) (w : World) :
    (Instr.index t (.string s) (.int .i64 i)).run P w = .ok (.int .u8 (bat s k).toNat) w := by
  subst hi
  unfold bat
  have h : s[k]? = some s[k] := getElem?_pos s k hk
  have e : s[k] = (bl s).getD k 0 := by
    show s.data[k]'(hk) = _
    simp [bl, List.getD_eq_getElem?_getD, Array.getElem_toList]
    rw [Array.getElem?_eq_getElem hk]; rfl
  have h0 : (0 : Int) ≤ (k : Int) := by omega
  have hw : IntKind.i64.wrap (k : Int) = k := by rw [IntKind.wrap_i64]; omega
  simp [Instr.index, run_underlying ht, asIntOf, hw, h, e]
theorem cells_new (w : World) (c : Array Value) (t : TypeId) : ∀ (j : Nat) (u : Value), c.toList[j]? = some u → (w.alloc (.cells c t)).cell? ((⟨w.heap.size, 0, none⟩ : Addr).add j) = some u := by
  intro j u hj
  have hadd : (⟨w.heap.size, 0, none⟩ : Addr).add j = ⟨w.heap.size, j, none⟩ := by unfold Addr.add; split <;> simp_all
  rw [hadd, World.cell?_alloc_new]
  rw [← hj, Array.getElem?_toList]

/-- `append(s, x)` of elements that were just laid in a new block, onto a row of the call's own. -/
theorem app_new {P : Program} {ops : Array Oper} {rest : List Oper} {o : Oper} {a : Act} {Q : Exit → Act → World → Prop} (w : World) (hgd : o.guard = none) (s x : Operand) (t e : TypeId)
    (ho : o.op = .call { callee := .builtin .append, args := #[s, x], argTypes := #[t, t] }) (z : Value) (size bytes : Nat) (ht : P.underlying t = some (.slice e))
    (hinfo : (P.info? e).map (fun i => (i.zero, i.size, i.bytes)) = some (some z, size, bytes)) (hzs : z.cells.size = size) (hsz : 0 < size)
    (base : Nat) (v : Value) (n : Nat) (xs : List Value) (hs : a.eval s = v) (hown : w.ownsRow base e size v n xs) (m c' : Nat) (c : Array Value)
    (hx : a.eval x = .slice (some ⟨w.heap.size, 0, none⟩) m c') (hc : c.size = m * size) (h1 : ∀ u ∈ c.toList, u.oneCell' = true)
    (h63 : n + m ≤ maxLen) (hbytes : (n + m) * bytes ≤ 140737488355328) (hbase : base ≤ w.heap.size)
    (h : ∀ v' w', w'.ownsRow base e size v' (n + m) (xs ++ c.toList) → (w.alloc (.cells c e)).grownBy w' v.ownBlock → wpList P ops Q rest (a.put o.dst v') w') :
    wpList P ops Q (o :: rest) a (w.alloc (.cells c e)) := by
  obtain ⟨i0, hi, hzz⟩ := Option.map_eq_some_iff.1 hinfo
  simp only [Prod.mk.injEq] at hzz
  obtain ⟨hz, hsi, hb⟩ := hzz
  exact wpList_append_own _ hgd s x t ho base e i0 z size bytes ht hi hz hsi hb hzs hsz v n xs hs (hown.alloc _) ⟨w.heap.size, 0, none⟩ m c' c.toList hx (by simpa using hc) (cells_new w c e) h1 h63 hbytes (by simp; omega)
    fun v' w' g1 g2 _ => h v' w' g1 g2

theorem own_has {w : World} {base : Nat} {e : TypeId} {size n cap g : Nat} {xs : List Value} (h : w.ownsRow base e size (.slice (some ⟨g, 0, none⟩) n cap) n xs) : Has w g e (n * size) (fun j => xs.getD j undef) := by
  obtain ⟨hl, h2⟩ := h
  rcases h2 with ⟨h0, _⟩ | ⟨g', cap', cur, hv, hg, hh, hnc, _, hcs, htake⟩
  · cases h0
  · injection hv with hv1 hv2 hv3
    injection hv1 with hv1
    injection hv1 with hv1
    subst hv1 hv3
    refine ⟨cur, hh, by rw [hcs]; exact Nat.mul_le_mul_right _ hnc, fun i hi => ?_⟩
    rw [← htake, ← Array.getElem?_toList]
    have hlen : i < cur.toList.length := by simp [hcs]; exact Nat.lt_of_lt_of_le hi (Nat.mul_le_mul_right _ hnc)
    simp only [List.getD_eq_getElem?_getD, List.getElem?_take_of_lt hi, List.getElem?_eq_getElem hlen, Option.getD_some]
theorem ownsRow_drewN {w : World} {base : Nat} {e : TypeId} {size n : Nat} {v : Value} {xs : List Value} (h : w.ownsRow base e size v n xs) (q : Nat) : (w.drewN q).ownsRow base e size v n xs := h
theorem app_below {base : Nat} {e : TypeId} {size n : Nat} {v : Value} {xs : List Value} {wc w w' : World} {o : Obj} (hbl : Below base wc w) (hb : base ≤ w.heap.size) (hown : w.ownsRow base e size v n xs) (hg : (w.alloc o).grownBy w' v.ownBlock) : Below base wc w' :=
  (hbl.alloc hb o).grown hg (by simp; omega) fun k hk => (hown.lt k hk).1

/-- the value of an owned row: nil or a slice at the head of a block of the call's own -/
theorem own_forms {w : World} {base : Nat} {e : TypeId} {size n : Nat} {v : Value} {xs : List Value} (h : w.ownsRow base e size v n xs) :
    (v = .slice none 0 0 ∧ n = 0 ∧ xs = []) ∨ ∃ g cap, v = .slice (some ⟨g, 0, none⟩) n cap ∧ base ≤ g ∧ g < w.heap.size ∧ n ≤ cap := by
  obtain ⟨hl, h2⟩ := h
  rcases h2 with ⟨rfl, rfl⟩ | ⟨g, cap, cur, rfl, hg, hh, hnc, _⟩
  · exact .inl ⟨rfl, rfl, List.eq_nil_of_length_eq_zero (by simpa using hl)⟩
  · exact .inr ⟨g, cap, rfl, hg, (Array.getElem?_eq_some_iff.1 hh).1, hnc⟩
end Go.Proofs.Ytpfjeldpckmdoaa
