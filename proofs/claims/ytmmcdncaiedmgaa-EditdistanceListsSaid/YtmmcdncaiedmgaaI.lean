import Derived.Test.YtmmcdncaiedmgaaProg
import Derived.Test.YtmmcdncaiedmgaaM
import Derived.Test.YtmmcdncaiedmgaaL
import Derived.Laws.StructEq
set_option linter.unusedVariables false
set_option linter.unusedSimpArgs false
namespace Go.Proofs.Ytmmcdncaiedmgaa
open Go.RowKit

/-- the slice value at `A` with `n` elements reads as the strings `l`; its memory lies below block `B` -/
def Strs (w : World) (B : Nat) (A : Option Addr) (l : List ByteArray) : Prop :=
  0 < l.length → ∃ b o, A = some ⟨b, o, none⟩ ∧ b < B ∧ ∀ j, j < l.length → w.cell? ⟨b, o + j, none⟩ = some (.string (l.getD j ByteArray.empty))
theorem Strs.keep {w w' : World} {B : Nat} {A : Option Addr} {l : List ByteArray} (h : Strs w B A l) (hk : ∀ k, k < B → w'.heap[k]? = w.heap[k]?) : Strs w' B A l := fun hn => by
  obtain ⟨b, o, hA, hb, hc⟩ := h hn
  exact ⟨b, o, hA, hb, fun j hj => (World.cell?_of_block (w := w) (hk b hb)).trans (hc j hj)⟩
theorem Strs.below {w w' : World} {B : Nat} {A : Option Addr} {l : List ByteArray} (h : Strs w B A l) (hb : Below B w w') : Strs w' B A l := h.keep fun k hk => hb.block k hk
theorem Strs.more {w : World} {B B' : Nat} {A : Option Addr} {l : List ByteArray} (h : Strs w B A l) (hB : B ≤ B') : Strs w B' A l := fun hn => by
  obtain ⟨b, o, hA, hb, hc⟩ := h hn
  exact ⟨b, o, hA, by omega, hc⟩

theorem str_beq (x y : ByteArray) : (x.toList == y.toList) = decide (x = y) := by
  rw [Bool.eq_iff_iff, beq_iff_eq, decide_eq_true_iff, ByteArray.toList_eq, ByteArray.toList_eq]
  constructor
  · intro h
    cases x; cases y
    simp only [Array.toList_inj] at h
    rw [show _ = _ from h]
  · intro h; rw [h]

theorem ret_int {k : IntKind} {a b : Int} (h : a = b) : Ending.returned (.int k a) = .returned (.int k b) := by rw [h]
theorem ret_bool {a b : Bool} (h : a = b) : Ending.returned (.bool a) = .returned (.bool b) := by rw [h]
/-- the first place of a string in a list, or -1 -/
def idxI (l : List ByteArray) (x : ByteArray) : Int := match find1 x l with | none => -1 | some t => t

theorem index_any (A : Option Addr) (c : Nat) (l : List ByteArray) (x : ByteArray) (w : World) (B : Nat) (h : Strs w B A l) (hl : l.length ≤ 1000000) :
    Calls Try.prog 49 #[.slice A l.length c, .string x] w fun e w' => e = .returned (.int .i64 (idxI l x)) ∧ w = w' := by
  go_enter Try.func49, Try.ntmps49
  go_wp2_with fail
  go_loopg [8] (l.length) (fun g s wr => ∃ i : Nat, i ≤ l.length ∧ g = l.length - i ∧ s = .int .i64 i ∧ w = wr ∧ (∀ j, j < i → l.getD j ByteArray.empty ≠ x))
  case atStart => exact ⟨0, by omega, by omega, rfl, rfl, fun j hj => absurd hj (Nat.not_lt_zero _)⟩
  case round =>
    obtain ⟨i, hi, hg, rfl, rfl, hno⟩ := hrel
    by_cases hlt : i < l.length
    · obtain ⟨b, o, rfl, hb, hc⟩ := h (by omega)
      have hltz : (i : Int) < (l.length : Int) := by omega
      have c1 := hc i hlt
      clear hc
      obtain ⟨y, hy⟩ : ∃ y, l.getD i ByteArray.empty = y := ⟨_, rfl⟩
      rw [hy] at c1
      have HY := Lib.hid (And.intro hy hno)
      clear hy hno h
      by_cases he : x = y
      · have hb1 : (x.toList == y.toList) = true := by rw [str_beq]; simpa using he
        have HE := Lib.hid he
        clear he
        go_wp2_with fail
        go_ret
        go_light
        obtain ⟨h1, h2⟩ := HY.out
        have hf : find1 x l = some i := find1_some x l i hlt (by rw [HE.out, ← h1]; simp [List.getD_eq_getElem?_getD, List.getElem?_eq_getElem hlt]) (fun j hj hji => by
          have := h2 j hji
          simpa [List.getD_eq_getElem?_getD, List.getElem?_eq_getElem hj] using this)
        exact ⟨ret_int (by rw [idxI, hf]), rfl⟩
      · have hb1 : (x.toList == y.toList) = false := by rw [str_beq]; simpa using he
        go_wp2_with fail
        go_roundg (l.length - (i + 1))
        case measure => go_light; omega
        case rel =>
          go_light
          obtain ⟨h1, h2⟩ := HY.out
          refine ⟨i + 1, by omega, by omega, by go_num, rfl, fun j hj => ?_⟩
          by_cases e : j = i
          · subst e; rw [h1]; exact fun q => he q.symm
          · exact h2 j (by omega)
    · go_wp2_with fail
      go_ret
      go_light
      have hf : find1 x l = none := find1_none x l (fun j hj => by
        have := hno j (by omega)
        simpa [List.getD_eq_getElem?_getD, List.getElem?_eq_getElem hj] using this)
      exact ⟨ret_int (by rw [idxI, hf]), rfl⟩

theorem equal_strs (A A' : Option Addr) (c c' : Nat) (l l' : List ByteArray) (w : World) (B : Nat) (h : Strs w B A l) (h' : Strs w B A' l') (hl : l.length ≤ 1000000) (hl' : l'.length ≤ 1000000) :
    Calls Try.prog 40 #[.slice A l.length c, .slice A' l'.length c'] w fun e w' => e = .returned (.bool (decide (l = l'))) ∧ ∃ n, w' = w.drewN n := by
  by_cases hlen : l.length = l'.length
  · have hb0 : ((l.length : Int) != (l'.length : Int)) = false := by simp [hlen]
    have hlen' := Lib.hid hlen
    have hle : l.length ≤ l'.length := by omega
    clear hlen
    go_enter Try.func40, Try.ntmps40
    go_wp2_with fail
    go_loopg [13] (l.length) (fun g s wr => ∃ i : Nat, i ≤ l.length ∧ g = l.length - i ∧ s = .int .i64 i ∧ (∃ n, wr = w.drewN n) ∧ (∀ j, j < i → l.getD j ByteArray.empty = l'.getD j ByteArray.empty))
    case atStart => exact ⟨0, by omega, by omega, rfl, ⟨0, rfl⟩, fun j hj => absurd hj (Nat.not_lt_zero _)⟩
    case round =>
      obtain ⟨i, hi, hg, rfl, ⟨q, rfl⟩, hyes⟩ := hrel
      by_cases hlt : i < l.length
      · obtain ⟨b, o, rfl, hb, hc⟩ := h (by omega)
        obtain ⟨b', o', rfl, hb', hc'⟩ := h' (by omega)
        have hltz : (i : Int) < (l.length : Int) := by omega
        have c1 := hc i hlt
        have c2 := hc' i (by omega)
        clear hc hc'
        obtain ⟨x, hx⟩ : ∃ y, l.getD i ByteArray.empty = y := ⟨_, rfl⟩
        obtain ⟨y, hy⟩ : ∃ y, l'.getD i ByteArray.empty = y := ⟨_, rfl⟩
        rw [hx] at c1
        rw [hy] at c2
        have HY := Lib.hid (And.intro hx (And.intro hy hyes))
        clear hx hy hyes h h'
        by_cases he : x = y
        · have hb1 : (x.toList == y.toList) = true := by rw [str_beq]; simpa using he
          have HE := Lib.hid he
          clear he
          go_wp2_with fail
          go_quiet (fail)
          go_wp2_with fail
          go_roundg (l.length - (i + 1))
          case measure => go_light; omega
          case rel =>
            go_light
            obtain ⟨h1, h2, h3⟩ := HY.out
            refine ⟨i + 1, by omega, by omega, by go_num, ⟨_, rfl⟩, fun j hj => ?_⟩
            by_cases e : j = i
            · subst e; rw [h1, h2]; exact HE.out
            · exact h3 j (by omega)
        · have hb1 : (x.toList == y.toList) = false := by rw [str_beq]; simpa using he
          have HE := Lib.hid he
          clear he
          go_wp2_with fail
          go_quiet (fail)
          go_wp2_with fail
          go_ret
          go_light
          obtain ⟨h1, h2, h3⟩ := HY.out
          exact ⟨ret_bool (by symm; rw [decide_eq_false_iff_not]; intro e; exact HE.out (by rw [← h1, ← h2, e])), _, World.drewN_drewN _ _ _⟩
      · have HY := Lib.hid hyes
        clear hyes
        go_wp2_with fail
        go_ret
        go_light
        refine ⟨ret_bool ?_, _, rfl⟩
        symm
        rw [decide_eq_true_iff]
        refine List.ext_getElem hlen'.out fun j h1 h2 => ?_
        have := HY.out j (by omega)
        simpa [List.getD_eq_getElem?_getD, List.getElem?_eq_getElem h1, List.getElem?_eq_getElem h2] using this
  · have hb0 : ((l.length : Int) != (l'.length : Int)) = true := by simp; omega
    have hlen' := Lib.hid hlen
    clear hlen
    go_enter Try.func40, Try.ntmps40
    go_wp2_with fail
    go_ret
    exact ⟨ret_bool (by symm; rw [decide_eq_false_iff_not]; intro e; exact hlen'.out (by rw [e])), 0, rfl⟩
/-- one field of a comparison of structs, the rest behind it -/
theorem eqFields_cons {P : Program} {d : Nat} {xs ys : Array Value} {f : Field} {fs : List Field} {a b : Value} {r s : Bool} {w : World} (hn : f.name ≠ "_") (ha : (part f.type xs f.offset).run P w = .ok a w) (hb : (part f.type ys f.offset).run P w = .ok b w)
    (he : (Op.equalIn d f.type a b).run P w = .ok r w) (hr : (Op.eqFields d xs ys fs).run P w = .ok s w) : (Op.eqFields d xs ys (f :: fs)).run P w = .ok (r && s) w := by
  rw [Op.eqFields, if_pos hn]
  cases r <;> simp [Sem.run_bind, ha, hb, he, hr]
theorem eqEd (w : World) (x0 y0 x1 y1 : Int) (x2 y2 : ByteArray) :
    (Op.equalIn 10000 43 (.agg #[.int .i64 x0, .int .i64 x1, .string x2]) (.agg #[.int .i64 y0, .int .i64 y1, .string y2])).run Try.prog w = .ok (x0 == y0 && (x1 == y1 && (x2.toList == y2.toList && true))) w := by
  rw [show (10000 : Nat) = 9999 + 1 from rfl]
  rw [run_equalIn_struct w 9999 43 _ _ (by kernel_rfl) (by kernel_rfl)]
  simp only [Program.fieldsOf, Try.underlying43]
  refine eqFields_cons (by decide) (by go_simp; rfl) (by go_simp; rfl) (by go_simp) ?_
  refine eqFields_cons (by decide) (by go_simp; rfl) (by go_simp; rfl) (by go_simp) ?_
  refine eqFields_cons (by decide) (by go_simp; rfl) (by go_simp; rfl) (by go_simp) ?_
  simp [Op.eqFields]

/-- the slice value at `A` reads as the edits `l`; its memory lies below block `B` -/
def Eds (w : World) (B : Nat) (A : Option Addr) (l : List Ed) : Prop :=
  0 < l.length → ∃ b o, A = some ⟨b, o, none⟩ ∧ b < B ∧ ∀ t, t < l.length → w.cell? ⟨b, o + t * 3, none⟩ = some (.int .i64 (edAt l t).at_) ∧ w.cell? ⟨b, o + t * 3 + 1, none⟩ = some (.int .i64 (edAt l t).len) ∧ w.cell? ⟨b, o + t * 3 + 2, none⟩ = some (.string (edAt l t).tx)
theorem Eds.keep {w w' : World} {B : Nat} {A : Option Addr} {l : List Ed} (h : Eds w B A l) (hk : ∀ k, k < B → w'.heap[k]? = w.heap[k]?) : Eds w' B A l := fun hn => by
  obtain ⟨b, o, hA, hb, hc⟩ := h hn
  exact ⟨b, o, hA, hb, fun j hj => ⟨(World.cell?_of_block (w := w) (hk b hb)).trans (hc j hj).1, (World.cell?_of_block (w := w) (hk b hb)).trans (hc j hj).2.1, (World.cell?_of_block (w := w) (hk b hb)).trans (hc j hj).2.2⟩⟩
theorem Eds.below {w w' : World} {B : Nat} {A : Option Addr} {l : List Ed} (h : Eds w B A l) (hb : Below B w w') : Eds w' B A l := h.keep fun k hk => hb.block k hk
theorem Eds.more {w : World} {B B' : Nat} {A : Option Addr} {l : List Ed} (h : Eds w B A l) (hB : B ≤ B') : Eds w B' A l := fun hn => by
  obtain ⟨b, o, hA, hb, hc⟩ := h hn
  exact ⟨b, o, hA, by omega, hc⟩
theorem Eds.of_has {w : World} {g : Nat} {l : List Ed} (h : Has w g 43 (l.length * 3) (ecl (edAt l))) : Eds w w.heap.size (some ⟨g, 0, none⟩) l := fun hn => by
  refine ⟨g, 0, rfl, h.lt, fun t ht => ?_⟩
  have h0 := h.cell (i := t * 3) (by omega)
  have h1 := h.cell (i := t * 3 + 1) (by omega)
  have h2 := h.cell (i := t * 3 + 2) (by omega)
  rw [ecl0] at h0
  rw [ecl1] at h1
  rw [ecl2] at h2
  rw [Nat.zero_add]
  exact ⟨h0, h1, h2⟩
theorem edAt_get {l : List Ed} {j : Nat} (h : j < l.length) : l[j] = edAt l j := by simp [edAt, List.getD_eq_getElem?_getD, List.getElem?_eq_getElem h]
theorem ed_neq {x y : Ed} (h : x ≠ y) : (x.at_ == y.at_ && (x.len == y.len && (x.tx.toList == y.tx.toList && true))) = false := by
  rw [str_beq]
  cases x; cases y
  simp only [ne_eq, Ed.mk.injEq] at h
  simp
  intro h1 h2 h3
  exact h ⟨h1, h2, h3⟩

theorem equal_eds (A A' : Option Addr) (c c' : Nat) (l l' : List Ed) (w : World) (B : Nat) (h : Eds w B A l) (h' : Eds w B A' l') (hl : l.length ≤ 1000000) (hl' : l'.length ≤ 1000000) :
    Calls Try.prog 39 #[.slice A l.length c, .slice A' l'.length c'] w fun e w' => e = .returned (.bool (decide (l = l'))) ∧ ∃ n, w' = w.drewN n := by
  by_cases hlen : l.length = l'.length
  · have hb0 : ((l.length : Int) != (l'.length : Int)) = false := by simp [hlen]
    have hlen' := Lib.hid hlen
    have hle : l.length ≤ l'.length := by omega
    clear hlen
    go_enter Try.func39, Try.ntmps39
    go_wp2_with fail
    go_loopg [13] (l.length) (fun g s wr => ∃ i : Nat, i ≤ l.length ∧ g = l.length - i ∧ s = .int .i64 i ∧ (∃ n, wr = w.drewN n) ∧ (∀ j, j < i → edAt l j = edAt l' j))
    case atStart => exact ⟨0, by omega, by omega, rfl, ⟨0, rfl⟩, fun j hj => absurd hj (Nat.not_lt_zero _)⟩
    case round =>
      obtain ⟨i, hi, hg, rfl, ⟨q, rfl⟩, hyes⟩ := hrel
      by_cases hlt : i < l.length
      · obtain ⟨b, o, rfl, hb, hc⟩ := h (by omega)
        obtain ⟨b', o', rfl, hb', hc'⟩ := h' (by omega)
        have hltz : (i : Int) < (l.length : Int) := by omega
        obtain ⟨c0, c1, c2⟩ := hc i hlt
        obtain ⟨d0, d1, d2⟩ := hc' i (by omega)
        clear hc hc'
        obtain ⟨x, hx⟩ : ∃ y, edAt l i = y := ⟨_, rfl⟩
        obtain ⟨y, hy⟩ : ∃ y, edAt l' i = y := ⟨_, rfl⟩
        rw [hx] at c0 c1 c2
        rw [hy] at d0 d1 d2
        have HY := Lib.hid (And.intro hx (And.intro hy hyes))
        clear hx hy hyes h h'
        have heq := fun W => eqEd W x.at_ y.at_ x.len y.len x.tx y.tx
        by_cases he : x = y
        · have hb1 : (x.at_ == y.at_ && (x.len == y.len && (x.tx.toList == y.tx.toList && true))) = true := by rw [he]; simp
          rw [hb1] at heq
          have HE := Lib.hid he
          clear he hb1
          go_wp2_with fail
          go_quiet (fail)
          go_wp2_with fail
          go_roundg (l.length - (i + 1))
          case measure => go_light; omega
          case rel =>
            go_light
            obtain ⟨h1, h2, h3⟩ := HY.out
            refine ⟨i + 1, by omega, by omega, by go_num, ⟨_, rfl⟩, fun j hj => ?_⟩
            by_cases e : j = i
            · subst e; rw [h1, h2]; exact HE.out
            · exact h3 j (by omega)
        · rw [ed_neq he] at heq
          have HE := Lib.hid he
          clear he
          go_wp2_with fail
          go_quiet (fail)
          go_wp2_with fail
          go_ret
          go_light
          obtain ⟨h1, h2, h3⟩ := HY.out
          exact ⟨ret_bool (by symm; rw [decide_eq_false_iff_not]; intro e; exact HE.out (by rw [← h1, ← h2, e])), _, World.drewN_drewN _ _ _⟩
      · have HY := Lib.hid hyes
        clear hyes
        go_wp2_with fail
        go_ret
        go_light
        refine ⟨ret_bool ?_, _, rfl⟩
        symm
        rw [decide_eq_true_iff]
        refine List.ext_getElem hlen'.out fun j h1 h2 => ?_
        rw [edAt_get h1, edAt_get h2]
        exact HY.out j (by omega)
  · have hb0 : ((l.length : Int) != (l'.length : Int)) = true := by simp; omega
    have hlen' := Lib.hid hlen
    clear hlen
    go_enter Try.func39, Try.ntmps39
    go_wp2_with fail
    go_ret
    exact ⟨ret_bool (by symm; rw [decide_eq_false_iff_not]; intro e; exact hlen'.out (by rw [e])), 0, rfl⟩
theorem bst {a b c : World} (h : Below a.heap.size a b) (k : Below b.heap.size b c) : Below a.heap.size a c := h.trans (k.mono h.size)
theorem max4_zero (w : World) : (Builtin.max_ #[23, 23, 23, 23] 23 #[.int .i64 0, .int .i64 0, .int .i64 0, .int .i64 0]).run Try.prog w = .ok (.int .i64 0) w := by kernel_rfl
end Go.Proofs.Ytmmcdncaiedmgaa
