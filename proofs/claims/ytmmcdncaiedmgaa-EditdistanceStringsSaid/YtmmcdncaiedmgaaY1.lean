import Derived.Test.YtmmcdncaiedmgaaI
set_option linter.unusedVariables false
set_option linter.unusedSimpArgs false
namespace Go.Proofs.Ytmmcdncaiedmgaa
open Go.RowKit
set_option maxHeartbeats 4000000 in
set_option maxRecDepth 100000 in
theorem same_eds (A A' : Option Addr) (c c' : Nat) (l l' : List Ed) (w : World) (B : Nat) (h : Eds w B A l) (h' : Eds w B A' l') (hl : l.length ≤ 1000000) (hl' : l'.length ≤ 1000000) :
    Calls Try.prog 24 #[.slice A l.length c, .slice A' l'.length c'] w fun e w' => e = .returned (.bool (decide (l = l'))) ∧ ∃ n, w' = w.drewN n := by
  by_cases hlen : l.length = l'.length
  · have hb0 : ((l.length : Int) != (l'.length : Int)) = false := by simp [hlen]
    have hlen' := Lib.hid hlen
    have hle : l.length ≤ l'.length := by omega
    clear hlen
    go_enter Try.func24, Try.ntmps24
    go_wp2_with fail
    go_loopg [5] (l.length) (fun g s wr => ∃ i : Nat, i ≤ l.length ∧ g = l.length - i ∧ s = .int .i64 i ∧ (∃ n, wr = w.drewN n) ∧ (∀ j, j < i → edAt l j = edAt l' j))
    case atStart => exact ⟨0, by omega, by omega, rfl, ⟨0, rfl⟩, fun j hj => absurd hj (Nat.not_lt_zero _)⟩
    case round =>
      obtain ⟨i, hi, hg, rfl, ⟨q, rfl⟩, hyes⟩ := hrel
      by_cases hlt : i < l.length
      · obtain ⟨b, o, rfl, hb, hc⟩ := h (by omega)
        obtain ⟨b', o', rfl, hb', hc'⟩ := h' (by omega)
        have hltz : (i : Int) < (l.length : Int) := by omega
        obtain ⟨c0, c1, c2⟩ := hc i hlt
        obtain ⟨d0, d1, d2⟩ := hc' i (by omega)
        clear hc hc'
        obtain ⟨x, hx⟩ : ∃ y, edAt l i = y := ⟨_, rfl⟩
        obtain ⟨y, hy⟩ : ∃ y, edAt l' i = y := ⟨_, rfl⟩
        rw [hx] at c0 c1 c2
        rw [hy] at d0 d1 d2
        have HY := Lib.hid (And.intro hx (And.intro hy hyes))
        clear hx hy hyes h h'
        have heq := fun W => eqEd W x.at_ y.at_ x.len y.len x.tx y.tx
        by_cases he : x = y
        · have hb1 : (x.at_ == y.at_ && (x.len == y.len && (x.tx.toList == y.tx.toList && true))) = true := by rw [he]; simp
          rw [hb1] at heq
          have HE := Lib.hid he
          clear he hb1
          go_wp2_with fail
          go_quiet (fail)
          go_wp2_with fail
          go_roundg (l.length - (i + 1))
          case measure => go_light; omega
          case rel =>
            go_light
            obtain ⟨h1, h2, h3⟩ := HY.out
            refine ⟨i + 1, by omega, by omega, by go_num, ⟨_, rfl⟩, fun j hj => ?_⟩
            by_cases e : j = i
            · subst e; rw [h1, h2]; exact HE.out
            · exact h3 j (by omega)
        · rw [ed_neq he] at heq
          have HE := Lib.hid he
          clear he
          go_wp2_with fail
          go_quiet (fail)
          go_wp2_with fail
          go_ret
          go_light
          obtain ⟨h1, h2, h3⟩ := HY.out
          exact ⟨ret_bool (by symm; rw [decide_eq_false_iff_not]; intro e; exact HE.out (by rw [← h1, ← h2, e])), _, World.drewN_drewN _ _ _⟩
      · have HY := Lib.hid hyes
        clear hyes
        go_wp2_with fail
        go_ret
        go_light
        refine ⟨ret_bool ?_, _, rfl⟩
        symm
        rw [decide_eq_true_iff]
        refine List.ext_getElem hlen'.out fun j h1 h2 => ?_
        rw [edAt_get h1, edAt_get h2]
        exact HY.out j (by omega)
  · have hb0 : ((l.length : Int) != (l'.length : Int)) = true := by simp; omega
    have hlen' := Lib.hid hlen
    clear hlen
    go_enter Try.func24, Try.ntmps24
    go_wp2_with fail
    go_ret
    exact ⟨ret_bool (by symm; rw [decide_eq_false_iff_not]; intro e; exact hlen'.out (by rw [e])), 0, rfl⟩
end Go.Proofs.Ytmmcdncaiedmgaa
