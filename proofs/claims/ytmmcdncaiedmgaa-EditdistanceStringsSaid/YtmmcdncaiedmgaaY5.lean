import Derived.Test.YtmmcdncaiedmgaaY4
import Derived.Laws.AppendOwnNone
set_option linter.unusedVariables false
set_option linter.unusedSimpArgs false
namespace Go.Proofs.Ytmmcdncaiedmgaa
open Go.RowKit
theorem lev_congr {p q : Nat → Nat → Bool} {n m : Nat} (h : ∀ i k, i < n → k < m → p i k = q i k) : ∀ i k, i ≤ n → k ≤ m → lev p i k = lev q i k
  | 0, k => fun _ _ => rfl
  | i + 1, 0 => fun _ _ => rfl
  | i + 1, k + 1 => fun hi hk => by
    rw [lev_succ_succ, lev_succ_succ, lev_congr h i k (by omega) (by omega), lev_congr h i (k + 1) (by omega) hk, lev_congr h (i + 1) k hi (by omega), h i k (by omega) (by omega)]
theorem peqL_singles (a b : ByteArray) {i k : Nat} (hi : i < a.size) (hk : k < b.size) : peqL (singles a) (singles b) i k = peq a b i k := by
  have hi' : i < (bl a).length := by rw [size_bl]; exact hi
  have hk' : k < (bl b).length := by rw [size_bl]; exact hk
  unfold peqL peq bat
  rw [singles_get a i hi, singles_get b k hk, str_beq, Bool.eq_iff_iff]
  simp only [decide_eq_true_eq, beq_iff_eq, List.getD_eq_getElem?_getD, List.getElem?_eq_getElem hi', List.getElem?_eq_getElem hk', Option.getD_some]
  constructor
  · intro h
    have := congrArg bl h
    rw [bl_one a i hi', bl_one b k hk'] at this
    exact (List.cons.inj this).1
  · intro h
    apply bl_inj
    rw [bl_one a i hi', bl_one b k hk', h]
theorem lev_singles (a b : ByteArray) {i k : Nat} (hi : i ≤ a.size) (hk : k ≤ b.size) : lev (peqL (singles a) (singles b)) i k = lev (peq a b) i k :=
  lev_congr (fun _ _ h1 h2 => peqL_singles a b h1 h2) i k hi hk
theorem RTab.congr {w : World} {lo n m : Nat} {v : Value} {rs : List Nat} {f f' : Nat → Nat → Int} (h : RTab w lo v n m rs f) (e : ∀ i k, i < n → k < m → f i k = f' i k) : RTab w lo v n m rs f' :=
  ⟨h.len, h.top, fun i hi => ⟨(h.rows i hi).1, (h.rows i hi).2.congr fun k hk => by rw [e i k hi hk]⟩⟩
theorem RTab.below {w w' : World} {lo n m : Nat} {v : Value} {rs : List Nat} {f : Nat → Nat → Int} (h : RTab w lo v n m rs f) (hb : Below w.heap.size w w') : RTab w' lo v n m rs f := by
  refine ⟨h.len, h.top.kept (row := none) ⟨hb.os, hb.tape, hb.output, hb.size, fun k hk _ => hb.block k hk⟩ ?_, fun i hi => ⟨(h.rows i hi).1, (h.rows i hi).2.below hb (h.rows i hi).2.lt⟩⟩
  rcases own_forms h.top with ⟨rfl, _⟩ | ⟨g, cap, rfl, _⟩
  · exact .inl rfl
  · exact .inr (by simp [Value.ownBlock])

/-- `append([]Edit{x}, l...)`: the literal row lies on top of the heap, `l` is a row of the call's own -/
theorem app_front {ops : Array Oper} {rest : List Oper} {o : Oper} {a : Act} {Q : Exit → Act → World → Prop} (w : World) (hgd : o.guard = none) (s x : Operand)
    (ho : o.op = .call { callee := .builtin .append, args := #[s, x], argTypes := #[32, 32] }) (at_ len : Int) (tx : ByteArray) (base : Nat) (v : Value) (L : List Ed) (gl : Nat)
    (hs : a.eval s = .slice (some ⟨gl, 0, none⟩) 1 1) (hgl : gl = w.heap.size) (hx : a.eval x = v) (hown : w.ownsRow base 43 3 v L.length (edc L)) (hL : L.length ≤ 1000) (hbase : base ≤ w.heap.size)
    (h : ∀ v' w', w'.ownsRow base 43 3 v' (L.length + 1) (edc (⟨at_, len, tx⟩ :: L)) → Below w.heap.size w w' → wpList Try.prog ops Q rest (a.put o.dst v') w') :
    wpList Try.prog ops Q (o :: rest) a (w.alloc (.cells #[.int .i64 at_, .int .i64 len, .string tx] 43)) := by
  subst hgl
  obtain ⟨i0, hi, hzz⟩ := Option.map_eq_some_iff.1 info43
  simp only [Prod.mk.injEq] at hzz
  obtain ⟨hz, hsi, hb⟩ := hzz
  have hlit : (w.alloc (.cells #[.int .i64 at_, .int .i64 len, .string tx] 43)).ownsRow base 43 3 (.slice (some ⟨w.heap.size, 0, none⟩) 1 1) 1 [.int .i64 at_, .int .i64 len, .string tx] :=
    ⟨rfl, .inr ⟨_, 1, _, rfl, hbase, heap_alloc_new _ _, Nat.le_refl _, by decide, rfl, rfl⟩⟩
  rcases own_forms hown with ⟨rfl, h0, h1⟩ | ⟨g, cap, rfl, hg1, hg2, hcap⟩
  · have hL0 : L = [] := List.eq_nil_of_length_eq_zero h0
    subst hL0
    exact wpList_append_own_none hgd s x 32 ho base 43 i0 3 Try.underlying32 hi _ 1 _ hs hlit hx (h _ _ hlit ((Below.refl _ _).alloc (Nat.le_refl _) _))
  · have hH := own_has hown
    have hlen : (edc L).length = L.length * 3 := hown.1
    refine wpList_append_own _ hgd s x 32 ho base 43 i0 _ 3 32 Try.underlying32 hi hz hsi hb rfl (by decide) _ 1 _ hs hlit ⟨g, 0, none⟩ L.length cap (edc L) hx hlen ?_ ?_ (by unfold maxLen; omega) (by omega) (by simp; omega) ?_
    · intro j u hj
      have hjl : j < L.length * 3 := by
        rw [← hlen]; exact (List.getElem?_eq_some_iff.1 hj).1
      have hadd : (⟨g, 0, none⟩ : Addr).add j = ⟨g, j, none⟩ := by unfold Addr.add; split <;> simp_all
      rw [hadd, (hH.alloc _).cell hjl, List.getD_eq_getElem?_getD, hj]; rfl
    · intro u hu
      obtain ⟨e, _, he⟩ := List.mem_flatMap.1 hu
      simp only [Ed.cells, List.mem_cons, List.not_mem_nil, or_false] at he
      rcases he with rfl | rfl | rfl <;> rfl
    · intro v' w' h1 h2 _
      refine h v' w' ?_ (((Below.refl _ _).alloc (Nat.le_refl _) _).grown h2 (by simp) fun k hk => ?_)
      · rw [Nat.add_comm]
        exact h1
      · have : w.heap.size = k := Option.some.inj hk
        omega
end Go.Proofs.Ytmmcdncaiedmgaa
