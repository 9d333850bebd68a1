import Derived.Test.YtmmcdncaiedmgaaK
import Derived.Test.YtmmcdncaiedmgaaC
import Derived.Test.YtmmcdncaiedmgaaD
import Derived.Test.YtmmcdncaiedmgaaI
set_option linter.unusedVariables false
set_option linter.unusedSimpArgs false
namespace Go.Proofs.Ytmmcdncaiedmgaa
open Go.RowKit

theorem lev_ex : levS ⟨#[107, 105, 116, 116, 101, 110]⟩ ⟨#[115, 105, 116, 116, 105, 110, 103]⟩ = 3 := by decide +kernel
theorem script_ex : script ⟨#[97, 98, 99]⟩ ⟨#[97, 120, 99, 100]⟩ = [⟨1, 1, ⟨#[120]⟩⟩, ⟨3, 0, ⟨#[100]⟩⟩] := by decide +kernel
theorem common_ex : common ltb [⟨#[97]⟩, ⟨#[98]⟩, ⟨#[99]⟩] [⟨#[98]⟩, ⟨#[97]⟩, ⟨#[99]⟩] = [(⟨#[97]⟩ : ByteArray), ⟨#[99]⟩] := by decide +kernel
theorem sim_ex : simS ⟨#[114, 101, 120]⟩ ⟨#[114, 101, 115]⟩ = 666 := by decide +kernel

theorem aw1 (w : World) : Calls Try.prog 13 #[.string ⟨#[107, 105, 116, 116, 101, 110]⟩, .string ⟨#[115, 105, 116, 116, 105, 110, 103]⟩] w fun e w' => e = .returned (.tuple #[.int .i64 3, .int .i64 0]) ∧ Below w.heap.size w w' :=
  (distance_ok _ _ w (by decide) (by decide)).mono fun e w' ⟨h1, h2⟩ => ⟨by rw [h1, lev_ex]; rfl, h2⟩
theorem aw4 (w : World) : Calls Try.prog 22 #[.string ⟨#[114, 101, 120]⟩, .string ⟨#[114, 101, 115]⟩] w fun e w' => e = .returned (.tuple #[.int .i64 666, .int .i64 0]) ∧ Below w.heap.size w w' :=
  (similarity_ok _ _ w (by decide) (by decide)).mono fun e w' ⟨h1, h2⟩ => ⟨by rw [h1, sim_ex]; rfl, h2⟩
def exL : List Ed := [⟨1, 1, ⟨#[120]⟩⟩, ⟨3, 0, ⟨#[100]⟩⟩]
def exC : List ByteArray := [⟨#[97]⟩, ⟨#[99]⟩]
def Aw2 (w : World) (e : Ending) (w' : World) : Prop := ∃ g cap, e = .returned (.tuple #[.slice (some ⟨g, 0, none⟩) 2 cap, .int .i64 0]) ∧ Eds w' w'.heap.size (some ⟨g, 0, none⟩) exL ∧ Below w.heap.size w w'
def Aw3 (w : World) (e : Ending) (w' : World) : Prop := ∃ g cap, e = .returned (.tuple #[.slice (some ⟨g, 0, none⟩) 2 cap, .int .i64 0]) ∧ Strs w' w'.heap.size (some ⟨g, 0, none⟩) exC ∧ Below w.heap.size w w'
theorem Strs.of_has {w : World} {g : Nat} {l : List ByteArray} (h : Has w g 9 l.length (fun j => .string (l.getD j ByteArray.empty))) : Strs w w.heap.size (some ⟨g, 0, none⟩) l := fun hn =>
  ⟨g, 0, rfl, h.lt, fun j hj => by rw [Nat.zero_add]; exact h.cell hj⟩
theorem aw2 (w : World) : Calls Try.prog 18 #[.string ⟨#[97, 98, 99]⟩, .string ⟨#[97, 120, 99, 100]⟩] w (Aw2 w) := by
  refine (script_any _ _ w (by decide) (by decide)).mono ?_
  rintro e w' ⟨v, rfl, hv, hB⟩
  rw [script_ex] at hv
  rcases hv with ⟨_, h⟩ | ⟨g, cap, rfl, hg, hH⟩
  · cases h
  · exact ⟨g, cap, rfl, Eds.of_has hH, hB⟩
theorem aw3 (A B : Option Addr) (w : World) (h1 : Strs w w.heap.size A [⟨#[97]⟩, ⟨#[98]⟩, ⟨#[99]⟩]) (h2 : Strs w w.heap.size B [⟨#[98]⟩, ⟨#[97]⟩, ⟨#[99]⟩]) : Calls Try.prog 31 #[.slice A 3 3, .slice B 3 3] w (Aw3 w) := by
  refine (common_any [⟨#[97]⟩, ⟨#[98]⟩, ⟨#[99]⟩] [⟨#[98]⟩, ⟨#[97]⟩, ⟨#[99]⟩] A B 3 3 w (by decide) (by decide) h1 h2 (by decide) (by decide)).mono ?_
  rintro e w' ⟨v, rfl, hv, hB⟩
  rw [common_ex] at hv
  rcases hv with ⟨_, h⟩ | ⟨g, cap, rfl, hg, hc, hH⟩
  · cases h
  · exact ⟨g, cap, rfl, Strs.of_has hH, hB⟩

theorem strs_lit (w : World) (a b c : ByteArray) : Strs (w.alloc (.cells #[.string a, .string b, .string c] 9)) (w.heap.size + 1) (some ⟨w.heap.size, 0, none⟩) [a, b, c] := fun _ =>
  ⟨w.heap.size, 0, rfl, by omega, fun j hj => by
    rw [World.cell?_alloc_new, Nat.zero_add]
    simp at hj
    obtain rfl | rfl | rfl : j = 0 ∨ j = 1 ∨ j = 2 := by omega
    all_goals rfl⟩

theorem strs_lit2 (w : World) (a b : ByteArray) : Strs (w.alloc (.cells #[.string a, .string b] 9)) (w.heap.size + 1) (some ⟨w.heap.size, 0, none⟩) [a, b] := fun _ =>
  ⟨w.heap.size, 0, rfl, by omega, fun j hj => by
    rw [World.cell?_alloc_new, Nat.zero_add]
    simp at hj
    obtain rfl | rfl : j = 0 ∨ j = 1 := by omega
    all_goals rfl⟩
theorem eds_lit (w : World) : Eds (w.alloc (.cells #[.int .i64 1, .int .i64 1, .string ⟨#[120]⟩, .int .i64 3, .int .i64 0, .string ⟨#[100]⟩] 43)) (w.heap.size + 1) (some ⟨w.heap.size, 0, none⟩) exL := fun _ =>
  ⟨w.heap.size, 0, rfl, by omega, fun j hj => by
    simp only [Nat.zero_add, World.cell?_alloc_new]
    have hj : j < 2 := hj
    obtain rfl | rfl : j = 0 ∨ j = 1 := by omega
    · exact ⟨rfl, rfl, rfl⟩
    · exact ⟨rfl, rfl, rfl⟩⟩
theorem equal_eds_n (A A' : Option Addr) (c c' n n' : Nat) (l l' : List Ed) (w : World) (B : Nat) (hn : l.length = n) (hn' : l'.length = n') (h : Eds w B A l) (h' : Eds w B A' l') (hl : l.length ≤ 1000000) (hl' : l'.length ≤ 1000000) :
    Calls Try.prog 39 #[.slice A n c, .slice A' n' c'] w fun e w' => e = .returned (.bool (decide (l = l'))) ∧ ∃ n, w' = w.drewN n := by
  subst hn hn'; exact equal_eds A A' c c' l l' w B h h' hl hl'
theorem equal_strs_n (A A' : Option Addr) (c c' n n' : Nat) (l l' : List ByteArray) (w : World) (B : Nat) (hn : l.length = n) (hn' : l'.length = n') (h : Strs w B A l) (h' : Strs w B A' l') (hl : l.length ≤ 1000000) (hl' : l'.length ≤ 1000000) :
    Calls Try.prog 40 #[.slice A n c, .slice A' n' c'] w fun e w' => e = .returned (.bool (decide (l = l'))) ∧ ∃ n, w' = w.drewN n := by
  subst hn hn'; exact equal_strs A A' c c' l l' w B h h' hl hl'

set_option maxHeartbeats 4000000 in
set_option maxRecDepth 100000 in
theorem awake_any (w : World) : Calls Try.prog 12 #[] w fun e w' => e = .returned (.bool true) ∧ Below w.heap.size w w' := by
  go_enter Try.func12, Try.ntmps12
  go_wp2_with fail
  refine (aw1 _).mono ?_
  rintro e w1 ⟨rfl, hB1⟩
  go_wp2_with fail
  refine (aw2 _).mono ?_
  rintro e w2 ⟨g2, cap2, rfl, hE, hB2⟩
  replace hE := Lib.hid hE
  go_wp2_with fail
  obtain ⟨W3, hW3⟩ : ∃ W3, ((w2.alloc (.cells #[.string ⟨#[97]⟩, .string ⟨#[98]⟩, .string ⟨#[99]⟩] 9)).alloc (.cells #[.string ⟨#[98]⟩, .string ⟨#[97]⟩, .string ⟨#[99]⟩] 9)) = W3 := ⟨_, rfl⟩
  have hB3 : Below w2.heap.size w2 W3 := by rw [← hW3]; exact ((Below.refl _ _).alloc (Nat.le_refl _) _).alloc (by simp) _
  have hs3 : W3.heap.size = w2.heap.size + 2 := by rw [← hW3]; simp
  have s1 : Strs W3 W3.heap.size (some ⟨w2.heap.size, 0, none⟩) [⟨#[97]⟩, ⟨#[98]⟩, ⟨#[99]⟩] := by
    rw [hs3, ← hW3]
    exact (((strs_lit w2 _ _ _).keep (w' := (w2.alloc (.cells #[.string ⟨#[97]⟩, .string ⟨#[98]⟩, .string ⟨#[99]⟩] 9)).alloc (.cells #[.string ⟨#[98]⟩, .string ⟨#[97]⟩, .string ⟨#[99]⟩] 9)) (fun k hk => Below.heap_alloc _ _ _ (by simpa using hk))).more (by omega))
  have s2 : Strs W3 W3.heap.size (some ⟨w2.heap.size + 1, 0, none⟩) [⟨#[98]⟩, ⟨#[97]⟩, ⟨#[99]⟩] := by
    rw [hs3, ← hW3]
    have := strs_lit (w2.alloc (.cells #[.string ⟨#[97]⟩, .string ⟨#[98]⟩, .string ⟨#[99]⟩] 9)) ⟨#[98]⟩ ⟨#[97]⟩ ⟨#[99]⟩
    rw [World.size_alloc] at this
    exact this
  rw [hW3]
  refine (aw3 _ _ _ s1 s2).mono ?_
  rintro e w4 ⟨g4, cap4, rfl, hC, hB4⟩
  replace hC := Lib.hid hC
  clear s1 s2 hs3 hW3
  go_wp2_with fail
  refine (aw4 _).mono ?_
  rintro e w5 ⟨rfl, hB5⟩
  have hmx := max4_zero
  go_wp2_with fail
  have hE5 : Eds (w5.alloc (.cells #[.int .i64 1, .int .i64 1, .string ⟨#[120]⟩, .int .i64 3, .int .i64 0, .string ⟨#[100]⟩] 43)) (w5.heap.size + 1) (some ⟨g2, 0, none⟩) exL :=
    ((hE.out.below ((bst (bst hB3 hB4) hB5))).keep (fun k hk => Below.heap_alloc _ _ _ (by have := (bst (bst hB3 hB4) hB5).size; omega))).more (by have := (bst (bst hB3 hB4) hB5).size; omega)
  refine (equal_eds_n _ _ _ _ 2 2 exL exL _ _ rfl rfl hE5 (eds_lit _) (by decide) (by decide)).mono ?_
  rintro e w6 ⟨rfl, q6, rfl⟩
  rw [show decide (exL = exL) = true from by simp]
  go_wp2_with fail
  obtain ⟨w7, hw7⟩ : ∃ w7, (w5.alloc (.cells #[.int .i64 1, .int .i64 1, .string ⟨#[120]⟩, .int .i64 3, .int .i64 0, .string ⟨#[100]⟩] 43)).drewN q6 = w7 := ⟨_, rfl⟩
  have hB7 : Below w5.heap.size w5 w7 := by rw [← hw7]; exact drewN_below ((Below.refl _ _).alloc (Nat.le_refl _) _) _
  have hs7 : w7.heap.size = w5.heap.size + 1 := by rw [← hw7]; exact World.size_alloc w5 _
  rw [hw7, ← hs7]
  have hC7 : Strs (w7.alloc (.cells #[.string ⟨#[97]⟩, .string ⟨#[99]⟩] 9)) (w7.heap.size + 1) (some ⟨g4, 0, none⟩) exC :=
    ((hC.out.below (bst hB5 hB7)).keep (fun k hk => Below.heap_alloc _ _ _ (by have := (bst hB5 hB7).size; omega))).more (by have := (bst hB5 hB7).size; omega)
  refine (equal_strs_n _ _ _ _ 2 2 exC exC _ _ rfl rfl hC7 (strs_lit2 _ _ _) (by decide) (by decide)).mono ?_
  rintro e w8 ⟨rfl, q8, rfl⟩
  rw [show decide (exC = exC) = true from by simp]
  have hB8 : Below w7.heap.size w7 ((w7.alloc (.cells #[.string ⟨#[97]⟩, .string ⟨#[99]⟩] 9)).drewN q8) := drewN_below ((Below.refl _ _).alloc (Nat.le_refl _) _) _
  have HB := Lib.hid (bst (bst (bst (bst (bst (bst hB1 hB2) hB3) hB4) hB5) hB7) hB8)
  clear hB1 hB2 hB3 hB4 hB5 hB7 hB8 hs7 hw7 hC7 hE5
  go_wp2_with fail
  go_ret
  exact ⟨rfl, HB.out⟩
end Go.Proofs.Ytmmcdncaiedmgaa
