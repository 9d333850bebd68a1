import Derived.Test.YtpfjeldpckmdoaaK
set_option linter.unusedVariables false
set_option linter.unusedSimpArgs false
namespace Go.Proofs.Ytpfjeldpckmdoaa
open Go.RowKit
set_option maxHeartbeats 4000000 in
set_option maxRecDepth 100000 in
theorem equal_any (A A' : Option Addr) (c c' : Nat) (l l' : List Int) (w : World) (B : Nat) (h : Ints w B A l) (h' : Ints w B A' l') (hl : l.length ≤ 1000000) (hl' : l'.length ≤ 1000000) :
    Calls Try.prog 18 #[.slice A l.length c, .slice A' l'.length c'] w fun e w' => e = .returned (.bool (decide (l = l'))) ∧ ∃ n, w' = w.drewN n := by
  by_cases hlen : l.length = l'.length
  · have hb0 : ((l.length : Int) != (l'.length : Int)) = false := by simp [hlen]
    have hlen' := Lib.hid hlen
    have hle : l.length ≤ l'.length := by omega
    clear hlen
    go_enter Try.func18, Try.ntmps18
    go_wp2_with fail
    go_loopg [13] (l.length) (fun g s wr => ∃ i : Nat, i ≤ l.length ∧ g = l.length - i ∧ s = .int .i64 i ∧ (∃ n, wr = w.drewN n) ∧ (∀ j, j < i → l.getD j 0 = l'.getD j 0))
    case atStart => exact ⟨0, by omega, by omega, rfl, ⟨0, rfl⟩, fun j hj => absurd hj (Nat.not_lt_zero _)⟩
    case round =>
      obtain ⟨i, hi, hg, rfl, ⟨q, rfl⟩, hyes⟩ := hrel
      by_cases hlt : i < l.length
      · obtain ⟨b, o, rfl, hb, hc⟩ := h (by omega)
        obtain ⟨b', o', rfl, hb', hc'⟩ := h' (by omega)
        have hltz : (i : Int) < (l.length : Int) := by omega
        have hltz' : (i : Int) < (l'.length : Int) := by omega
        have c0 := hc i hlt
        have d0 := hc' i (by omega)
        clear hc hc'
        obtain ⟨x, hx⟩ : ∃ y, l.getD i 0 = y := ⟨_, rfl⟩
        obtain ⟨y, hy⟩ : ∃ y, l'.getD i 0 = y := ⟨_, rfl⟩
        rw [hx] at c0
        rw [hy] at d0
        have HY := Lib.hid (And.intro hx (And.intro hy hyes))
        clear hx hy hyes h h'
        by_cases he : x = y
        · have hb2 : (x != y) = false := by simpa using he
          have HE := Lib.hid he
          clear he
          go_wp2_with fail
          go_quiet (fail)
          go_wp2_with fail
          go_roundg (l.length - (i + 1))
          case measure => go_light; omega
          case rel =>
            go_light
            obtain ⟨h1, h2, h3⟩ := HY.out
            refine ⟨i + 1, by omega, by omega, by go_num, ⟨_, rfl⟩, fun j hj => ?_⟩
            by_cases e : j = i
            · subst e; rw [h1, h2]; exact HE.out
            · exact h3 j (by omega)
        · have hb2 : (x != y) = true := by simpa using he
          have HE := Lib.hid he
          clear he
          go_wp2_with fail
          go_quiet (fail)
          go_wp2_with fail
          go_ret
          go_light
          obtain ⟨h1, h2, h3⟩ := HY.out
          exact ⟨ret_bool (by symm; rw [decide_eq_false_iff_not]; intro e; exact HE.out (by rw [← h1, ← h2, e])), _, World.drewN_drewN _ _ _⟩
      · have HY := Lib.hid hyes
        clear hyes
        go_wp2_with fail
        go_ret
        go_light
        refine ⟨ret_bool ?_, _, rfl⟩
        symm
        rw [decide_eq_true_iff]
        refine List.ext_getElem hlen'.out fun j h1 h2 => ?_
        have := HY.out j (by omega)
        simpa [List.getD_eq_getElem?_getD, List.getElem?_eq_getElem h1, List.getElem?_eq_getElem h2] using this
  · have hb0 : ((l.length : Int) != (l'.length : Int)) = true := by simp; omega
    have hlen' := Lib.hid hlen
    clear hlen
    go_enter Try.func18, Try.ntmps18
    go_wp2_with fail
    go_ret
    exact ⟨ret_bool (by symm; rw [decide_eq_false_iff_not]; intro e; exact hlen'.out (by rw [e])), 0, rfl⟩
theorem equal_v (v v' : Value) (l l' : List Int) (w : World) (h : IntsV w w.heap.size v l) (h' : IntsV w w.heap.size v' l') (hl : l.length ≤ 1000000) (hl' : l'.length ≤ 1000000) (r : Bool) (hr : decide (l = l') = r) :
    Calls Try.prog 18 #[v, v'] w fun e w' => e = .returned (.bool r) ∧ Below w.heap.size w w' := by
  obtain ⟨A, c, rfl, hs⟩ := h
  obtain ⟨A', c', rfl, hs'⟩ := h'
  refine (equal_any A A' c c' l l' w _ hs hs' hl hl').mono ?_
  rintro e w' ⟨rfl, n, rfl⟩
  exact ⟨by rw [hr], drewN_below (Below.refl _ _) _⟩
def exP (h q : Int) : PP := ⟨[10, 10, 10, 10], [[], [], [], []], [0, 0, q, 0], h, 0⟩
theorem ex1 : ends (exP 20 0) = [2, 4] ∧ ptl (exP 20 0) 0 = 0 := by decide +kernel
theorem ex2 : ends (exP 30 0) = [3, 4] ∧ ptl (exP 30 0) 0 = 0 := by decide +kernel
theorem ex3 : ends (exP 30 5) = [2, 4] ∧ ptl (exP 30 5) 0 = 3 := by decide +kernel
theorem ints_lit (w : World) (a b c d : Int) : Ints (w.alloc (.cells #[.int .i64 a, .int .i64 b, .int .i64 c, .int .i64 d] 3)) (w.heap.size + 1) (some ⟨w.heap.size, 0, none⟩) [a, b, c, d] := fun _ =>
  ⟨w.heap.size, 0, rfl, by omega, fun j hj => by
    rw [Nat.zero_add, World.cell?_alloc_new]
    have : j = 0 ∨ j = 1 ∨ j = 2 ∨ j = 3 := by simp at hj; omega
    rcases this with rfl | rfl | rfl | rfl <;> rfl⟩
theorem exP_val (h q : Int) (hh : 1 ≤ h ∧ h ≤ 1073741824) (hq : 0 ≤ q ∧ q ≤ 10000) : Val (exP h q) := by
  have hi : ∀ i, i < (exP h q).n → i = 0 ∨ i = 1 ∨ i = 2 ∨ i = 3 := fun i hi => by
    have : (exP h q).n = 4 := rfl
    omega
  refine ⟨rfl, rfl, fun i h' => ?_, fun _ => by show 0 ≤ 16; omega, fun i h' => ?_, fun i b h' hb => ?_, fun i h' => ?_, hh, ⟨Int.le_refl _, by show (0 : Int) ≤ _; omega⟩⟩
  · rcases hi i h' with rfl | rfl | rfl | rfl <;> rfl
  · rcases hi i h' with rfl | rfl | rfl | rfl <;> exact ⟨by show (0 : Int) ≤ 10; omega, by show (10 : Int) ≤ _; omega⟩
  · exact absurd hb (Nat.not_lt_zero _)
  · rcases hi i h' with rfl | rfl | rfl | rfl
    · exact ⟨Int.le_refl _, by show (0 : Int) ≤ 10000; omega⟩
    · exact ⟨Int.le_refl _, by show (0 : Int) ≤ 10000; omega⟩
    · exact hq
    · exact ⟨Int.le_refl _, by show (0 : Int) ≤ 10000; omega⟩
set_option maxHeartbeats 4000000 in
set_option maxRecDepth 100000 in
theorem example_any (h q : Int) (w : World) :
    Calls Try.prog 17 #[.int .i64 h, .int .i64 q] w fun e w' => ∃ A1 A2 A3, e = .returned (.agg #[.slice A1 4 4, .slice A2 4 4, .slice A3 4 4, .int .i64 h, .int .i64 0]) ∧ PIn w' w'.heap.size A1 A2 A3 (exP h q) ∧ Below w.heap.size w w' := by
  go_enter Try.func17, Try.ntmps17
  go_wp2_with fail
  obtain ⟨W0, hW0⟩ : ∃ W, w.alloc (.cells #[.slice (some ⟨w.heap.size + 1, 0, none⟩) 4 4, .slice (some ⟨w.heap.size + 1 + 1, 0, none⟩) 4 4, .slice (some ⟨w.heap.size + 1 + 1 + 1, 0, none⟩) 4 4, .int .i64 h, .int .i64 0] 25) = W := ⟨_, rfl⟩
  have hz : w.heap.size + 1 = W0.heap.size := by rw [← hW0]; simp
  have hz0 : Below w.heap.size w W0 := by rw [← hW0]; exact (Below.refl _ _).alloc (Nat.le_refl _) _
  have hcell : ∀ j, W0.cell? ⟨w.heap.size, j, none⟩ = (#[.slice (some ⟨w.heap.size + 1, 0, none⟩) 4 4, .slice (some ⟨w.heap.size + 1 + 1, 0, none⟩) 4 4, .slice (some ⟨w.heap.size + 1 + 1 + 1, 0, none⟩) 4 4, .int .i64 h, .int .i64 0] : Array Value)[j]? := fun j => by rw [← hW0, World.cell?_alloc_new]
  rw [hz] at hcell
  obtain ⟨W1, hW1⟩ : ∃ W, W0.alloc (.cells #[.int .i64 10, .int .i64 10, .int .i64 10, .int .i64 10] 3) = W := ⟨_, rfl⟩
  obtain ⟨W2, hW2⟩ : ∃ W, W1.alloc (.cells #[.slice none 0 0, .slice none 0 0, .slice none 0 0, .slice none 0 0] 22) = W := ⟨_, rfl⟩
  obtain ⟨W3, hW3⟩ : ∃ W, W2.alloc (.cells #[.int .i64 0, .int .i64 0, .int .i64 q, .int .i64 0] 3) = W := ⟨_, rfl⟩
  have z1 : W1.heap.size = W0.heap.size + 1 := by rw [← hW1]; simp
  have z2 : W2.heap.size = W0.heap.size + 1 + 1 := by rw [← hW2, World.size_alloc, z1]
  have z3 : W3.heap.size = W0.heap.size + 1 + 1 + 1 := by rw [← hW3, World.size_alloc, z2]
  have b1 : Below W0.heap.size W0 W1 := by rw [← hW1]; exact (Below.refl _ _).alloc (Nat.le_refl _) _
  have b2 : Below W1.heap.size W1 W2 := by rw [← hW2]; exact (Below.refl _ _).alloc (Nat.le_refl _) _
  have b3 : Below W2.heap.size W2 W3 := by rw [← hW3]; exact (Below.refl _ _).alloc (Nat.le_refl _) _
  have i1 := ints_lit W0 10 10 10 10
  have i3 := ints_lit W2 0 0 q 0
  rw [hW1] at i1
  rw [hW3] at i3
  have i2 : Rows2 W2 (W1.heap.size + 1) (some ⟨W1.heap.size, 0, none⟩) [[], [], [], []] := fun _ =>
    ⟨W1.heap.size, 0, rfl, by omega, fun j hj => ⟨.slice none 0 0, by
      rw [Nat.zero_add, ← hW2, World.cell?_alloc_new]
      have : j = 0 ∨ j = 1 ∨ j = 2 ∨ j = 3 := by simp at hj; omega
      rcases this with rfl | rfl | rfl | rfl <;> rfl, none, 0, by
      have : j = 0 ∨ j = 1 ∨ j = 2 ∨ j = 3 := by simp at hj; omega
      rcases this with rfl | rfl | rfl | rfl <;> rfl, fun h0 => by
      have : j = 0 ∨ j = 1 ∨ j = 2 ∨ j = 3 := by simp at hj; omega
      rcases this with rfl | rfl | rfl | rfl <;> exact absurd h0 (by decide)⟩⟩
  have hin : PIn W3 W3.heap.size (some ⟨W0.heap.size, 0, none⟩) (some ⟨W1.heap.size, 0, none⟩) (some ⟨W2.heap.size, 0, none⟩) (exP h q) :=
    ⟨(i1.keep (b2.mono (by omega)) (Nat.le_refl _)).keep (b3.mono (by omega)) (by omega), i2.keep (b3.mono (by omega)) (by omega), i3.keep (Below.refl _ _) (by omega)⟩
  rw [z1, z2] at hin
  have hbel : Below w.heap.size w W3 := ((hz0.trans (b1.mono (by omega))).trans (b2.mono (by omega))).trans (b3.mono (by omega))
  have HF := Lib.hid (And.intro hin hbel)
  have hc3 : ∀ j, W3.cell? ⟨w.heap.size, j, none⟩ = (#[.slice (some ⟨W0.heap.size, 0, none⟩) 4 4, .slice (some ⟨W0.heap.size + 1, 0, none⟩) 4 4, .slice (some ⟨W0.heap.size + 1 + 1, 0, none⟩) 4 4, .int .i64 h, .int .i64 0] : Array Value)[j]? := fun j => by
    rw [← hcell j]
    exact (((b1.trans (b2.mono (by omega))).trans (b3.mono (by omega)))).cell (p := ⟨w.heap.size, j, none⟩) (by show w.heap.size < _; omega)
  have h0 := hc3 0
  have h1 := hc3 1
  have h2 := hc3 2
  have h3 := hc3 3
  have h4 := hc3 4
  rw [hW0]
  simp only [hz]
  rw [hW1, hW2, hW3]
  clear hW0 hW1 hW2 hW3 hcell hc3 i1 i2 i3 b1 b2 b3 hin hbel hz0
  refine bodyPost_ret (v := .agg #[.slice (some ⟨W0.heap.size, 0, none⟩) 4 4, .slice (some ⟨W0.heap.size + 1, 0, none⟩) 4 4, .slice (some ⟨W0.heap.size + 1 + 1, 0, none⟩) 4 4, .int .i64 h, .int .i64 0]) (by simp [results, Try.f17, go_sem, h0, h1, h2, h3, h4]) rfl ?_
  exact ⟨_, _, _, rfl, HF.out.1, HF.out.2⟩
theorem exP_small (h q : Int) : Small (exP h q) := ⟨by show 4 ≤ 10; omega, by show 4 ≤ 12; omega, by show 4 ≤ 12; omega, fun i hi => by
  have : i = 0 ∨ i = 1 ∨ i = 2 ∨ i = 3 := by have : (exP h q).notes.length = 4 := rfl; omega
  rcases this with rfl | rfl | rfl | rfl <;> (show 0 ≤ 18; omega)⟩
theorem break_ex (h q : Int) (hh : 1 ≤ h ∧ h ≤ 1073741824) (hq : 0 ≤ q ∧ q ≤ 10000) (A1 A2 A3 : Option Addr) (w : World) (hin : PIn w w.heap.size A1 A2 A3 (exP h q)) (e : List Int) (k : Int) (hk : ends (exP h q) = e ∧ ptl (exP h q) 0 = k) (h0 : 0 ≤ k) :
    Calls Try.prog 10 #[.agg #[.slice A1 4 4, .slice A2 4 4, .slice A3 4 4, .int .i64 h, .int .i64 0]] w fun en w' => ∃ v, en = .returned (.tuple #[v, .int .i64 k, .int .i64 0]) ∧ IntsV w' w'.heap.size v e ∧ Below w.heap.size w w' := by
  refine (break_any A1 A2 A3 4 4 4 (exP h q) w hin (exP_small h q) (exP_val h q hh hq) (by show 4 ≤ 10; omega)).mono ?_
  rintro en w' ⟨hB, ⟨h1, v, rfl, hv⟩ | ⟨h1, rfl⟩⟩
  · rw [hk.2, hk.1] at *
    exact ⟨v, rfl, hv, hB⟩
  · omega
theorem ints_two (w : World) (a b : Int) : IntsV (w.alloc (.cells #[.int .i64 a, .int .i64 b] 3)) (w.alloc (.cells #[.int .i64 a, .int .i64 b] 3)).heap.size (.slice (some ⟨w.heap.size, 0, none⟩) 2 2) [a, b] :=
  ⟨_, 2, rfl, fun _ => ⟨w.heap.size, 0, rfl, by simp, fun j hj => by
    rw [Nat.zero_add, World.cell?_alloc_new]
    have : j = 0 ∨ j = 1 := by simp at hj; omega
    rcases this with rfl | rfl <;> rfl⟩⟩
set_option maxHeartbeats 4000000 in
set_option maxRecDepth 100000 in
theorem awake_any (w : World) : Calls Try.prog 8 #[] w fun e w' => e = .returned (.bool true) ∧ Below w.heap.size w w' := by
  have b1 := Lib.hid (fun A1 A2 A3 w h => break_ex 20 0 (by omega) (by omega) A1 A2 A3 w h _ _ ex1 (by omega))
  have b2 := Lib.hid (fun A1 A2 A3 w h => break_ex 30 0 (by omega) (by omega) A1 A2 A3 w h _ _ ex2 (by omega))
  have b3 := Lib.hid (fun A1 A2 A3 w h => break_ex 30 5 (by omega) (by omega) A1 A2 A3 w h _ _ ex3 (by omega))
  go_enter Try.func8, Try.ntmps8
  go_wp2_with fail
  refine (example_any _ _ _).mono ?_
  rintro e w1 ⟨A1, A2, A3, rfl, hin, hB⟩
  replace hin := Lib.hid hin
  go_wp2_with fail
  refine (b1.out _ _ _ _ hin.out).mono ?_
  rintro e w2 ⟨v1, rfl, hv1, hC⟩
  replace hB := bst hB hC
  clear hC hin
  go_wp2_with fail
  refine (example_any _ _ _).mono ?_
  rintro e w3 ⟨A1', A2', A3', rfl, hin, hC⟩
  replace hv1 := hv1.keep hC hC.size
  replace hB := bst hB hC
  replace hin := Lib.hid hin
  clear hC
  go_wp2_with fail
  refine (b2.out _ _ _ _ hin.out).mono ?_
  rintro e w4 ⟨v2, rfl, hv2, hC⟩
  replace hv1 := hv1.keep hC hC.size
  replace hB := bst hB hC
  clear hC hin
  go_wp2_with fail
  refine (example_any _ _ _).mono ?_
  rintro e w5 ⟨A1'', A2'', A3'', rfl, hin, hC⟩
  replace hv1 := hv1.keep hC hC.size
  replace hv2 := hv2.keep hC hC.size
  replace hB := bst hB hC
  replace hin := Lib.hid hin
  clear hC
  go_wp2_with fail
  refine (b3.out _ _ _ _ hin.out).mono ?_
  rintro e w6 ⟨v3, rfl, hv3, hC⟩
  replace hv1 := hv1.keep hC hC.size
  replace hv2 := hv2.keep hC hC.size
  replace hB := bst hB hC
  clear hC hin
  go_wp2_with fail
  have hA1 : Below w6.heap.size w6 (w6.alloc (.cells #[.int .i64 2, .int .i64 4] 3)) := (Below.refl _ _).alloc (Nat.le_refl _) _
  refine (equal_v _ _ _ _ _ (hv1.keep hA1 hA1.size) (ints_two w6 2 4) (by decide) (by decide) true (by decide)).mono ?_
  rintro e w6' ⟨rfl, hC⟩
  replace hv2 := (hv2.keep hA1 hA1.size).keep hC hC.size
  replace hv3 := (hv3.keep hA1 hA1.size).keep hC hC.size
  replace hB := bst (bst hB hA1) hC
  clear hC hA1 hv1
  go_wp2_with fail
  have hA2 : Below w6'.heap.size w6' (w6'.alloc (.cells #[.int .i64 3, .int .i64 4] 3)) := (Below.refl _ _).alloc (Nat.le_refl _) _
  refine (equal_v _ _ _ _ _ (hv2.keep hA2 hA2.size) (ints_two w6' 3 4) (by decide) (by decide) true (by decide)).mono ?_
  rintro e w6'' ⟨rfl, hC⟩
  replace hv3 := (hv3.keep hA2 hA2.size).keep hC hC.size
  replace hB := bst (bst hB hA2) hC
  clear hC hA2 hv2
  go_wp2_with fail
  have hA3 : Below w6''.heap.size w6'' (w6''.alloc (.cells #[.int .i64 2, .int .i64 4] 3)) := (Below.refl _ _).alloc (Nat.le_refl _) _
  refine (equal_v _ _ _ _ _ (hv3.keep hA3 hA3.size) (ints_two w6'' 2 4) (by decide) (by decide) true (by decide)).mono ?_
  rintro e w6''' ⟨rfl, hC⟩
  replace hB := bst (bst hB hA3) hC
  clear hC hA3 hv3
  go_wp2_with fail
  go_ret
  exact ⟨rfl, hB⟩
def Awake : Prop := ∀ w : World, Calls Try.prog 8 #[] w fun e w' => e = .returned (.bool true) ∧ Below w.heap.size w w'
end Go.Proofs.Ytpfjeldpckmdoaa
