import Derived.Test.YtnlenhhmajecjaaJ
set_option linter.unusedVariables false
set_option linter.unusedSimpArgs false
namespace Go.Proofs.Ytnlenhhmajecjaa
open Go.RowKit
/-- the slice value at `A` with `n` elements reads as the strings `l`; its memory lies below block `B` -/
def Strs (w : World) (B : Nat) (A : Option Addr) (l : List ByteArray) : Prop :=
  0 < l.length → ∃ b o, A = some ⟨b, o, none⟩ ∧ b < B ∧ ∀ j, j < l.length → w.cell? ⟨b, o + j, none⟩ = some (.string (l.getD j ByteArray.empty))
theorem Strs.below {w w' : World} {B : Nat} {A : Option Addr} {l : List ByteArray} (h : Strs w B A l) (hb : Below B w w') : Strs w' B A l := fun hn => by
  obtain ⟨b, o, hA, hb', hc⟩ := h hn
  exact ⟨b, o, hA, hb', fun j hj => (hb.cell (p := ⟨b, o + j, none⟩) hb').trans (hc j hj)⟩
theorem Strs.more {w : World} {B B' : Nat} {A : Option Addr} {l : List ByteArray} (h : Strs w B A l) (hB : B ≤ B') : Strs w B' A l := fun hn => by
  obtain ⟨b, o, hA, hb, hc⟩ := h hn
  exact ⟨b, o, hA, by omega, hc⟩
def StrV (w : World) (B : Nat) (v : Value) (l : List ByteArray) : Prop := ∃ A c, v = .slice A l.length c ∧ Strs w B A l
theorem StrV.below {w w' : World} {v : Value} {l : List ByteArray} (h : StrV w w.heap.size v l) (hb : Below w.heap.size w w') : StrV w' w'.heap.size v l := by
  obtain ⟨A, c, rfl, hs⟩ := h
  exact ⟨A, c, rfl, (hs.below hb).more hb.size⟩
theorem strV_own {w : World} {base : Nat} {v : Value} {L : List ByteArray} (h : w.ownsRow base 9 1 v L.length (L.map Value.string)) : StrV w w.heap.size v L := by
  rcases own_forms h with ⟨rfl, h0, _⟩ | ⟨g, cap, rfl, hg1, hg2, hcap⟩
  · exact ⟨none, 0, by rw [h0], fun hn => absurd hn (by omega)⟩
  · refine ⟨_, cap, rfl, fun _ => ⟨g, 0, rfl, hg2, fun j hj => ?_⟩⟩
    have := (own_has h).cell (i := j) (by omega)
    rw [Nat.zero_add, this]
    simp [List.getD_eq_getElem?_getD, List.getElem?_eq_getElem hj]
set_option maxHeartbeats 2000000 in
set_option maxRecDepth 100000 in
theorem equal_any (A A' : Option Addr) (c c' : Nat) (l l' : List ByteArray) (w : World) (B : Nat) (h : Strs w B A l) (h' : Strs w B A' l') (hl : l.length ≤ 1000000) (hl' : l'.length ≤ 1000000) :
    Calls Try.prog 26 #[.slice A l.length c, .slice A' l'.length c'] w fun e w' => e = .returned (.bool (decide (l = l'))) ∧ ∃ n, w' = w.drewN n := by
  by_cases hlen : l.length = l'.length
  · have hb0 : ((l.length : Int) != (l'.length : Int)) = false := by simp [hlen]
    have hlen' := Lib.hid hlen
    have hle : l.length ≤ l'.length := by omega
    clear hlen
    go_enter Try.func26, Try.ntmps26
    go_wp2_with fail
    go_loopg [13] (l.length) (fun g s wr => ∃ i : Nat, i ≤ l.length ∧ g = l.length - i ∧ s = .int .i64 i ∧ (∃ n, wr = w.drewN n) ∧ (∀ j, j < i → l.getD j ByteArray.empty = l'.getD j ByteArray.empty))
    case atStart => exact ⟨0, by omega, by omega, rfl, ⟨0, rfl⟩, fun j hj => absurd hj (Nat.not_lt_zero _)⟩
    case round =>
      obtain ⟨i, hi, hg, rfl, ⟨q, rfl⟩, hyes⟩ := hrel
      by_cases hlt : i < l.length
      · obtain ⟨b, o, rfl, hb, hc⟩ := h (by omega)
        obtain ⟨b', o', rfl, hb', hc'⟩ := h' (by omega)
        have hltz : (i : Int) < (l.length : Int) := by omega
        have hltz' : (i : Int) < (l'.length : Int) := by omega
        have c0 := hc i hlt
        have d0 := hc' i (by omega)
        clear hc hc'
        obtain ⟨x, hx⟩ : ∃ y, l.getD i ByteArray.empty = y := ⟨_, rfl⟩
        obtain ⟨y, hy⟩ : ∃ y, l'.getD i ByteArray.empty = y := ⟨_, rfl⟩
        rw [hx] at c0
        rw [hy] at d0
        have HY := Lib.hid (And.intro hx (And.intro hy hyes))
        clear hx hy hyes h h'
        by_cases he : x = y
        · have hb1 : (x.toList == y.toList) = true := by rw [str_beq]; simpa using he
          have hb2 : (x.toList != y.toList) = false := by rw [bne, hb1]; rfl
          have HE := Lib.hid he
          clear he
          go_wp2_with fail
          go_quiet (fail)
          go_wp2_with fail
          go_roundg (l.length - (i + 1))
          case measure => go_light; omega
          case rel =>
            go_light
            obtain ⟨h1, h2, h3⟩ := HY.out
            refine ⟨i + 1, by omega, by omega, by go_num, ⟨_, rfl⟩, fun j hj => ?_⟩
            by_cases e : j = i
            · subst e; rw [h1, h2]; exact HE.out
            · exact h3 j (by omega)
        · have hb1 : (x.toList == y.toList) = false := by rw [str_beq]; simpa using he
          have hb2 : (x.toList != y.toList) = true := by rw [bne, hb1]; rfl
          have HE := Lib.hid he
          clear he
          go_wp2_with fail
          go_quiet (fail)
          go_wp2_with fail
          go_ret
          go_light
          obtain ⟨h1, h2, h3⟩ := HY.out
          exact ⟨ret_bool (by symm; rw [decide_eq_false_iff_not]; intro e; exact HE.out (by rw [← h1, ← h2, e])), _, World.drewN_drewN _ _ _⟩
      · have HY := Lib.hid hyes
        clear hyes
        go_wp2_with fail
        go_ret
        go_light
        refine ⟨ret_bool ?_, _, rfl⟩
        symm
        rw [decide_eq_true_iff]
        refine List.ext_getElem hlen'.out fun j h1 h2 => ?_
        have := HY.out j (by omega)
        simpa [List.getD_eq_getElem?_getD, List.getElem?_eq_getElem h1, List.getElem?_eq_getElem h2] using this
  · have hb0 : ((l.length : Int) != (l'.length : Int)) = true := by simp; omega
    have hlen' := Lib.hid hlen
    clear hlen
    go_enter Try.func26, Try.ntmps26
    go_wp2_with fail
    go_ret
    exact ⟨ret_bool (by symm; rw [decide_eq_false_iff_not]; intro e; exact hlen'.out (by rw [e])), 0, rfl⟩
theorem equal_v (v v' : Value) (l l' : List ByteArray) (w : World) (h : StrV w w.heap.size v l) (h' : StrV w w.heap.size v' l') (hl : l.length ≤ 1000000) (hl' : l'.length ≤ 1000000) (r : Bool) (hr : decide (l = l') = r) :
    Calls Try.prog 26 #[v, v'] w fun e w' => e = .returned (.bool r) ∧ Below w.heap.size w w' := by
  obtain ⟨A, c, rfl, hs⟩ := h
  obtain ⟨A', c', rfl, hs'⟩ := h'
  refine (equal_any A A' c c' l l' w _ hs hs' hl hl').mono ?_
  rintro e w' ⟨rfl, n, rfl⟩
  exact ⟨by rw [hr], ⟨rfl, rfl, rfl, Nat.le_refl _, fun _ _ => rfl⟩⟩
def aw1 : ByteArray := ⟨#[101, 94, 126, 97, 39, 98]⟩
theorem aw_cl : clR ⟨#[101, 94, 126, 97, 39, 98]⟩ = [⟨#[101, 94, 126]⟩, ⟨#[97]⟩, ⟨#[39]⟩, ⟨#[98]⟩] := by decide +kernel
theorem aw_cmp : cmpD ⟨#[68, 101, 117, 115, 94]⟩ ⟨#[100, 101, 117, 115]⟩ = -1 := by decide +kernel
theorem aw_n : isN ⟨#[65, 49]⟩ = true := by decide +kernel
theorem aw_w : isW ⟨#[65, 49]⟩ = true := by decide +kernel
theorem aw_w2 : isW ⟨#[39, 97]⟩ = false := by decide +kernel
theorem aw_c : chkR ⟨#[97, 46, 94]⟩ = 11 := by decide +kernel
theorem aw_k : kindN 63 = 5 := by decide +kernel
set_option maxHeartbeats 4000000 in
set_option maxRecDepth 100000 in
theorem awake_any (w : World) : Calls Try.prog 11 #[] w fun e w' => e = .returned (.bool true) ∧ Below w.heap.size w w' := by
  have c1 := fun W => clusters_any ⟨#[101, 94, 126, 97, 39, 98]⟩ W (by decide)
  have c2 := fun W => compare_any ⟨#[68, 101, 117, 115, 94]⟩ ⟨#[100, 101, 117, 115]⟩ W (by decide) (by decide)
  have c3 := fun W => isname_any ⟨#[65, 49]⟩ W (by decide)
  have c4 := fun W => isword_any ⟨#[65, 49]⟩ W (by decide)
  have c5 := fun W => isword_any ⟨#[39, 97]⟩ W (by decide)
  have c6 := fun W => check_any ⟨#[97, 46, 94]⟩ W (by decide)
  have c7 := fun W => kind_any 63 (by decide) W
  simp only [aw_cl] at c1
  simp only [aw_cmp] at c2
  simp only [aw_n] at c3
  simp only [aw_w] at c4
  simp only [aw_w2] at c5
  simp only [aw_c] at c6
  simp only [aw_k] at c7
  replace c1 := Lib.hid c1
  replace c2 := Lib.hid c2
  replace c3 := Lib.hid c3
  replace c4 := Lib.hid c4
  replace c5 := Lib.hid c5
  replace c6 := Lib.hid c6
  replace c7 := Lib.hid c7
  go_enter Try.func11, Try.ntmps11
  go_wp2_with fail
  refine (c1.out _).mono ?_
  rintro e w1 ⟨v, rfl, hv, hB1⟩
  have hV := strV_own (L := [⟨#[101, 94, 126]⟩, ⟨#[97]⟩, ⟨#[39]⟩, ⟨#[98]⟩]) hv
  clear hv
  go_wp2_with fail
  have hBa : Below w1.heap.size w1 (w1.alloc (.cells #[.string ⟨#[101, 94, 126]⟩, .string ⟨#[97]⟩, .string ⟨#[39]⟩, .string ⟨#[98]⟩] 9)) := (Below.refl _ _).alloc (Nat.le_refl _) _
  have hV2 : StrV (w1.alloc (.cells #[.string ⟨#[101, 94, 126]⟩, .string ⟨#[97]⟩, .string ⟨#[39]⟩, .string ⟨#[98]⟩] 9)) (w1.alloc (.cells #[.string ⟨#[101, 94, 126]⟩, .string ⟨#[97]⟩, .string ⟨#[39]⟩, .string ⟨#[98]⟩] 9)).heap.size (.slice (some ⟨w1.heap.size, 0, none⟩) 4 4) [⟨#[101, 94, 126]⟩, ⟨#[97]⟩, ⟨#[39]⟩, ⟨#[98]⟩] :=
    ⟨_, 4, rfl, fun _ => ⟨w1.heap.size, 0, rfl, by simp, fun j hj => by
      rw [Nat.zero_add, World.cell?_alloc_new]
      have hj4 : j = 0 ∨ j = 1 ∨ j = 2 ∨ j = 3 := by simp at hj; omega
      rcases hj4 with rfl | rfl | rfl | rfl <;> rfl⟩⟩
  refine (equal_v _ _ _ _ _ (hV.below hBa) hV2 (by decide) (by decide) true (by decide)).mono ?_
  rintro e w2 ⟨rfl, hB2⟩
  have hB := bst (bst hB1 hBa) hB2
  clear hB1 hBa hB2 hV hV2
  go_wp2_with fail
  refine (c2.out _).mono ?_
  rintro e w3 ⟨rfl, hB3⟩
  replace hB := bst hB hB3
  clear hB3
  go_wp2_with fail
  refine (c3.out _).mono ?_
  rintro e w4 ⟨rfl, rfl⟩
  go_wp2_with fail
  refine (c4.out _).mono ?_
  rintro e w5 ⟨rfl, hB3⟩
  replace hB := bst hB hB3
  clear hB3
  go_wp2_with fail
  refine (c5.out _).mono ?_
  rintro e w6 ⟨rfl, hB3⟩
  replace hB := bst hB hB3
  clear hB3
  go_wp2_with fail
  refine (c6.out _).mono ?_
  rintro e w7 ⟨rfl, hB3⟩
  replace hB := bst hB hB3
  clear hB3
  go_wp2_with fail
  refine (c7.out _).mono ?_
  rintro e w8 ⟨rfl, rfl⟩
  go_wp2_with fail
  go_ret
  exact ⟨rfl, hB⟩
def Awake : Prop := ∀ w : World, Calls Try.prog 11 #[] w fun e w' => e = .returned (.bool true) ∧ Below w.heap.size w w'
end Go.Proofs.Ytnlenhhmajecjaa
