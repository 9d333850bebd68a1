import Derived.Test.YtmmcdncaiedmgaaK
import Derived.Test.YtmmcdncaiedmgaaF
set_option linter.unusedVariables false
set_option linter.unusedSimpArgs false
namespace Go.Proofs.Ytmmcdncaiedmgaa
open Go.RowKit

/-- `equal[string]$1`: reads the two captured slices. -/
theorem eqs_any (pa pb : Addr) (ba oa bb ob : Nat) (na ca nb cb : Nat) (i k : Nat) (x y : ByteArray) (w : World)
    (h1 : w.cell? pa = some (.slice (some ⟨ba, oa, none⟩) na ca)) (h2 : w.cell? pb = some (.slice (some ⟨bb, ob, none⟩) nb cb))
    (hi : i < na) (hk : k < nb) (hna : na ≤ 9223372036854775807) (hnb : nb ≤ 9223372036854775807)
    (hx : w.cell? ⟨ba, oa + i, none⟩ = some (.string x)) (hy : w.cell? ⟨bb, ob + k, none⟩ = some (.string y)) :
    Calls Try.prog 55 #[.int .i64 i, .int .i64 k, .pointer (some pa), .pointer (some pb)] w fun e w' => e = .returned (.bool (x.toList == y.toList)) ∧ ∃ n, w' = w.drewN n := by
  have hiz : (i : Int) < (na : Int) := by omega
  have hkz : (k : Int) < (nb : Int) := by omega
  go_enter Try.func55, Try.ntmps55
  go_wp2
  go_quiet (fail)
  go_wp2
  go_ret
  exact ⟨rfl, _, rfl⟩

theorem equals_any (aa : Option Addr) (na ca : Nat) (ab : Option Addr) (nb cb : Nat) (w : World) :
    Calls Try.prog 44 #[.slice aa na ca, .slice ab nb cb] w fun e w' => e = .returned (.func (.func 55) #[] #[.pointer (some ⟨w.heap.size, 0, none⟩), .pointer (some ⟨w.heap.size + 1, 0, none⟩)]) ∧ w' = (w.alloc (.cells #[.slice aa na ca] 27)).alloc (.cells #[.slice ab nb cb] 27) := by
  go_enter Try.func44, Try.ntmps44
  go_wp2
  go_ret
  exact ⟨rfl, rfl⟩

def peqL (la lb : List ByteArray) (i k : Nat) : Bool := (la.getD i ByteArray.empty).toList == (lb.getD k ByteArray.empty).toList
def levL (la lb : List ByteArray) : Nat := lev (peqL la lb) la.length lb.length

set_option maxRecDepth 100000 in
theorem lists_ok (la lb : List ByteArray) (A A' : Option Addr) (c c' : Nat) (w : World) (h : Strs w w.heap.size A la) (h' : Strs w w.heap.size A' lb) (ha : la.length ≤ 256) (hb : lb.length ≤ 256) :
    Calls Try.prog 15 #[.slice A la.length c, .slice A' lb.length c'] w fun e w' => e = .returned (.tuple #[.int .i64 (levL la lb), .int .i64 0]) ∧ Below w.heap.size w w' := by
  have hd : decide (256 < max (la.length : Int) (lb.length : Int)) = false := by simp; omega
  replace h := Lib.hid h
  replace h' := Lib.hid h'
  go_enter Try.func15, Try.ntmps15
  go_wp2_with (first | (go_at_call 41; refine (long_any _ _ _).mono ?_; rintro e w' ⟨rfl, rfl⟩) | (go_at_call 44; refine (equals_any _ _ _ _ _ _ _).mono ?_; rintro e w' ⟨rfl, rfl⟩))
  refine (dist_any 55 _ _ _ _ (peqL la lb) _ ha hb (fun args w => by simp [go_sem]) ?_).mono ?_
  · intro i k w' hi hk hB'
    obtain ⟨ba, oa, rfl, hba, hca⟩ := h.out (by omega)
    obtain ⟨bb, ob, rfl, hbb, hcb⟩ := h'.out (by omega)
    have q1 := hB'.cell (p := ⟨w.heap.size, 0, none⟩) (by simp; omega)
    have q2 := hB'.cell (p := ⟨w.heap.size + 1, 0, none⟩) (by simp)
    have q3 := hB'.cell (p := ⟨ba, oa + i, none⟩) (by simp; omega)
    have q4 := hB'.cell (p := ⟨bb, ob + k, none⟩) (by simp; omega)
    rw [World.cell?_alloc_lt _ _ _ (by simp), World.cell?_alloc_new] at q1
    rw [World.cell?_alloc2_new] at q2
    rw [World.cell?_alloc_lt _ _ _ (by simp; omega), World.cell?_alloc_lt _ _ _ (by exact hba), hca i hi] at q3
    rw [World.cell?_alloc_lt _ _ _ (by simp; omega), World.cell?_alloc_lt _ _ _ (by exact hbb), hcb k hk] at q4
    exact eqs_any _ _ _ _ _ _ _ _ _ _ i k _ _ w' q1 q2 hi hk (by omega) (by omega) q3 q4
  · rintro e w' ⟨rfl, hB2⟩
    have hB3 : Below w.heap.size w w' := (((Below.refl _ _).alloc (Nat.le_refl _) _).alloc (by simp) _).trans (hB2.mono (by simp; omega))
    clear hB2
    go_wp2_with fail
    go_ret2
    exact ⟨rfl, hB3⟩

/-- the strings of one byte -/
def one (s : ByteArray) (i : Nat) : ByteArray := s.extract i (i + 1)
def singles (s : ByteArray) : List ByteArray := (List.range s.size).map (one s)

set_option maxHeartbeats 4000000 in
set_option maxRecDepth 100000 in
theorem singles_any (s : ByteArray) (w : World) (hs : s.size ≤ 256) :
    Calls Try.prog 14 #[.string s] w fun e w' => ∃ v, e = .returned v ∧ StrR w' w.heap.size v (singles s) ∧ Below w.heap.size w w' := by
  go_enter Try.func14, Try.ntmps14
  go_wp2_with fail
  go_loopg [7, 3] s.size (fun g c v wr => ∃ i : Nat, i ≤ s.size ∧ g = s.size - i ∧ c = .int .i64 i ∧ wr.ownsRow w.heap.size 9 1 v i (((List.range i).map (one s)).map Value.string) ∧ Below w.heap.size w wr)
  case atStart => exact ⟨0, by omega, by omega, rfl, World.ownsRow_nil _ _ _ _, Below.refl _ _⟩
  case round =>
    obtain ⟨i, hi, hg, rfl, hown, hbl⟩ := hrel
    have HO := Lib.hid (And.intro hown hbl)
    clear hown hbl
    by_cases hlt : i < s.size
    · have hltz : (i : Int) < (s.size : Int) := by omega
      have hsl0 := fun W => run_slice_string (P := Try.prog) W 9 s .i64 .i64 i ((i : Int) + 1) Try.underlying9 (by omega) (by omega) (by omega)
      have hsl : ∀ W, (Instr.slice 9 (.string s) (some (.int .i64 i)) (some (.int .i64 ((i : Int) + 1))) none).run Try.prog W = .ok (.string (one s i)) W := by
        intro W
        exact hsl0 W
      go_wp2_with (at_builtin; refine app_new _ rfl _ _ 27 9 rfl _ 1 16 Try.underlying27 info9 rfl (by decide) w.heap.size _ i (((List.range i).map (one s)).map Value.string) rfl (HO.out.1) 1 1 _ rfl rfl (by simp [Value.oneCell']) (by unfold maxLen; omega) (by omega) (by exact HO.out.2.size) ?_; intro v' w1 hown' hgrow)
      go_roundg (s.size - (i + 1))
      case measure => go_light; omega
      case rel =>
        go_light
        obtain ⟨z2, z3⟩ := HO.out
        refine ⟨i + 1, by omega, by omega, by go_num, ?_, app_below z3 z3.size z2 hgrow⟩
        rw [List.range_succ, List.map_append, List.map_append]; exact hown'
    · have hi' : i = s.size := by omega
      subst hi'
      go_wp2_with fail
      go_ret
      go_light
      obtain ⟨z2, z3⟩ := HO.out
      have hS : StrR wr w.heap.size u3 (singles s) := strR_of_own (by rw [singles, List.length_map, List.length_range]; exact z2)
      exact ⟨_, rfl, hS, z3⟩
end Go.Proofs.Ytmmcdncaiedmgaa
