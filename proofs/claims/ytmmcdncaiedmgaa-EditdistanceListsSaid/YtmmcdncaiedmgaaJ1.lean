import Derived.Test.YtmmcdncaiedmgaaI
import Derived.Test.YtmmcdncaiedmgaaK4
set_option linter.unusedVariables false
set_option linter.unusedSimpArgs false
namespace Go.Proofs.Ytmmcdncaiedmgaa
open Go.RowKit
/-- a string that is too long -/
def longer (n : Nat) (l : List ByteArray) : Bool := l.any fun s => decide (n < s.size)
def greatW (l : List ByteArray) (n : Nat) : Bool := decide (n < l.length ∧ l.length ≤ 256 ∨ 258 < l.length) || longer 8 l
set_option maxHeartbeats 4000000 in
set_option maxRecDepth 100000 in
theorem greatw_any (l : List ByteArray) (A : Option Addr) (c n : Nat) (w : World) (h : Strs w w.heap.size A l) (hl : l.length ≤ 9223372036854775807) (hn : n ≤ 1000) :
    Calls Try.prog 28 #[.slice A l.length c, .int .i64 n] w fun e w' => e = .returned (.bool (greatW l n)) ∧ w' = w := by
  by_cases hg : n < l.length ∧ l.length ≤ 256 ∨ 258 < l.length
  · rw [greatW, decide_eq_true hg, Bool.true_or]
    by_cases h2 : l.length ≤ 256
    · have h1 : n < l.length := by omega
      have g1 : decide ((n : Int) < (l.length : Int)) = true := by simp; omega
      have g2 : decide ((l.length : Int) ≤ 256) = true := by simp; omega
      clear hg
      go_enter Try.func28, Try.ntmps28
      go_wp2_with fail
      go_ret
      exact ⟨rfl, rfl⟩
    · have g2 : decide ((l.length : Int) ≤ 256) = false := by simp; omega
      have g3 : decide ((258 : Int) < (l.length : Int)) = true := by simp; omega
      by_cases h1 : n < l.length
      · have g1 : decide ((n : Int) < (l.length : Int)) = true := by simp; omega
        clear hg
        go_enter Try.func28, Try.ntmps28
        go_wp2_with fail
        go_ret
        exact ⟨rfl, rfl⟩
      · have g1 : decide ((n : Int) < (l.length : Int)) = false := by simp; omega
        clear hg
        go_enter Try.func28, Try.ntmps28
        go_wp2_with fail
        go_ret
        exact ⟨rfl, rfl⟩
  · rw [greatW, decide_eq_false hg, Bool.false_or]
    have hK : ∀ (K : Prop), (¬ n < l.length → ¬ 258 < l.length → decide ((n : Int) < (l.length : Int)) = false → decide ((258 : Int) < (l.length : Int)) = false → K) →
        (n < l.length → ¬ l.length ≤ 256 → ¬ 258 < l.length → decide ((n : Int) < (l.length : Int)) = true → decide ((l.length : Int) ≤ 256) = false → decide ((258 : Int) < (l.length : Int)) = false → K) → K := by
      intro K h1 h2
      by_cases hh : n < l.length
      · exact h2 hh (by omega) (by omega) (by simp; omega) (by simp; omega) (by simp; omega)
      · exact h1 hh (by omega) (by simp; omega) (by simp; omega)
    clear hg
    apply hK
    all_goals
      clear hK
      intros
      go_enter Try.func28, Try.ntmps28
      go_wp2_with fail
      go_loopg [5] l.length (fun g s wr => ∃ i : Nat, i ≤ l.length ∧ g = l.length - i ∧ s = .int .i64 i ∧ w = wr ∧ (∀ j, j < i → (l.getD j ByteArray.empty).size ≤ 8))
      case atStart => exact ⟨0, by omega, by omega, rfl, rfl, fun j hj => absurd hj (Nat.not_lt_zero _)⟩
      case round =>
        obtain ⟨i, hi, hg, rfl, rfl, hno⟩ := hrel
        by_cases hlt : i < l.length
        · have hltz : (i : Int) < (l.length : Int) := by omega
          obtain ⟨b, o, rfl, hb, hc⟩ := h (by omega)
          have c1 := hc i hlt
          clear hc
          obtain ⟨y, hy⟩ : ∃ y, l.getD i ByteArray.empty = y := ⟨_, rfl⟩
          rw [hy] at c1
          have hmem : y ∈ l := by rw [← hy, List.getD_eq_getElem?_getD, List.getElem?_eq_getElem hlt]; exact List.getElem_mem hlt
          have HY := Lib.hid (And.intro hy (And.intro hno hmem))
          clear hy hno h hmem
          by_cases hs : 8 < y.size
          · have g4 : decide ((8 : Int) < (y.size : Int)) = true := by simp; omega
            go_wp2_with fail
            go_ret
            go_light
            obtain ⟨h1, h2, h3⟩ := HY.out
            refine ⟨ret_bool ?_, rfl⟩
            symm
            exact List.any_eq_true.2 ⟨y, h3, by simpa using hs⟩
          · have g4 : decide ((8 : Int) < (y.size : Int)) = false := by simp; omega
            go_wp2_with fail
            go_roundg (l.length - (i + 1))
            case measure => go_light; omega
            case rel =>
              go_light
              obtain ⟨h1, h2, h3⟩ := HY.out
              refine ⟨i + 1, by omega, by omega, by go_num, rfl, fun j hj => ?_⟩
              by_cases e : j = i
              · subst e; rw [h1]; omega
              · exact h2 j (by omega)
        · have hi' : i = l.length := by omega
          have HY := Lib.hid (And.intro hno hi')
          clear hno h hi'
          go_wp2_with fail
          go_ret
          go_light
          obtain ⟨h2, h3⟩ := HY.out
          refine ⟨ret_bool ?_, rfl⟩
          symm
          rw [longer, List.any_eq_false]
          intro x hx
          obtain ⟨j, hj, rfl⟩ := List.getElem_of_mem hx
          have := h2 j (by omega)
          rw [List.getD_eq_getElem?_getD, List.getElem?_eq_getElem hj] at this
          simpa using this

/-- what the loop of `within` finds -/
def sub? : List ByteArray → List ByteArray → Bool
  | [], _ => true
  | _ :: _, [] => false
  | x :: xs, y :: ys => if y = x then sub? xs ys else sub? (x :: xs) ys
theorem sub?_iff : ∀ (l s : List ByteArray), sub? s l = true ↔ List.Sublist s l
  | l, [] => by simp [sub?]
  | [], x :: xs => by simp [sub?]
  | y :: ys, x :: xs => by
    rw [sub?]
    by_cases e : y = x
    · subst e
      rw [if_pos rfl, sub?_iff ys xs, List.cons_sublist_cons]
    · rw [if_neg e, sub?_iff ys (x :: xs)]
      constructor
      · exact fun h => h.cons _
      · intro h
        cases h with
        | cons _ h => exact h
        | cons_cons _ h => exact absurd rfl e
theorem drop_getD {l : List ByteArray} {i : Nat} (h : i < l.length) : l.drop i = l.getD i ByteArray.empty :: l.drop (i + 1) := by
  rw [List.getD_eq_getElem?_getD, List.getElem?_eq_getElem h, Option.getD_some]
  exact List.drop_eq_getElem_cons h
set_option maxHeartbeats 4000000 in
set_option maxRecDepth 100000 in
theorem within_any (s l : List ByteArray) (A A' : Option Addr) (c c' : Nat) (w : World) (B : Nat) (h : Strs w B A s) (h' : Strs w B A' l) (hs : s.length ≤ 1000000) (hl : l.length ≤ 1000000) :
    Calls Try.prog 35 #[.slice A s.length c, .slice A' l.length c'] w fun e w' => e = .returned (.bool (sub? s l)) ∧ ∃ n, w' = w.drewN n := by
  go_enter Try.func35, Try.ntmps35
  go_wp2_with fail
  go_loopg [5, 6] l.length (fun g s5 s6 wr => ∃ k i q : Nat, k ≤ s.length ∧ i ≤ l.length ∧ g = l.length - i ∧ s5 = .int .i64 k ∧ s6 = .int .i64 i ∧ wr = w.drewN q ∧ sub? (s.drop k) (l.drop i) = sub? s l)
  case atStart => exact ⟨0, 0, 0, by omega, by omega, by omega, rfl, rfl, rfl, rfl⟩
  case round =>
    obtain ⟨k, i, q, hk, hi, hg, rfl, rfl, rfl, hsub⟩ := hrel
    by_cases hlt : i < l.length
    · have g1 : decide ((i : Int) < (l.length : Int)) = true := by simp; omega
      by_cases hkt : k < s.length
      · have g2 : decide ((k : Int) < (s.length : Int)) = true := by simp; omega
        have hiz : (i : Int) < (l.length : Int) := by omega
        have hkz : (k : Int) < (s.length : Int) := by omega
        obtain ⟨b, o, rfl, hb, hc⟩ := h (by omega)
        obtain ⟨b', o', rfl, hb', hc'⟩ := h' (by omega)
        have c1 := hc k hkt
        have c2 := hc' i hlt
        rw [drop_getD hkt, drop_getD hlt, sub?] at hsub
        obtain ⟨x, hx⟩ : ∃ y, s.getD k ByteArray.empty = y := ⟨_, rfl⟩
        obtain ⟨y, hy⟩ : ∃ y, l.getD i ByteArray.empty = y := ⟨_, rfl⟩
        rw [hx] at c1 hsub
        rw [hy] at c2 hsub
        have hdr := drop_getD hkt
        rw [hx] at hdr
        clear hc hc' hx hy h h'
        by_cases e : y = x
        · have hb1 : (y.toList == x.toList) = true := by rw [str_beq]; simpa using e
          rw [if_pos e] at hsub
          have HS := Lib.hid hsub
          clear hsub e hdr
          go_wp2_with fail
          go_quiet (fail)
          go_wp2_with fail
          go_roundg (l.length - (i + 1))
          case measure => go_light; omega
          case rel =>
            go_light
            exact ⟨k + 1, i + 1, _, by omega, by omega, by omega, by go_num, by go_num, rfl, HS.out⟩
        · have hb1 : (y.toList == x.toList) = false := by rw [str_beq]; simpa using e
          rw [if_neg e, ← hdr] at hsub
          have HS := Lib.hid hsub
          clear hsub e hdr
          go_wp2_with fail
          go_quiet (fail)
          go_wp2_with fail
          go_roundg (l.length - (i + 1))
          case measure => go_light; omega
          case rel =>
            go_light
            exact ⟨k, i + 1, _, by omega, by omega, by omega, rfl, by go_num, rfl, HS.out⟩
      · have g2 : decide ((k : Int) < (s.length : Int)) = false := by simp; omega
        have g3 : ((k : Int) == (s.length : Int)) = true := by simp; omega
        rw [List.drop_of_length_le (by omega : s.length ≤ k), sub?] at hsub
        have HS := Lib.hid hsub
        clear hsub h h'
        go_wp2_with fail
        go_ret
        go_light
        exact ⟨ret_bool HS.out, _, rfl⟩
    · have g1 : decide ((i : Int) < (l.length : Int)) = false := by simp; omega
      rw [List.drop_of_length_le (by omega : l.length ≤ i)] at hsub
      have hsb : ((k : Int) == (s.length : Int)) = sub? s l := by
        rw [← hsub, Bool.eq_iff_iff, sub?_iff, List.sublist_nil, List.drop_eq_nil_iff]
        simp; omega
      have HS := Lib.hid hsb
      clear hsub h h' hsb
      go_wp2_with fail
      go_ret
      go_light
      exact ⟨ret_bool HS.out, _, rfl⟩
end Go.Proofs.Ytmmcdncaiedmgaa
