import Derived.Test.YtnlenhhmajecjaaL
set_option linter.unusedVariables false
set_option linter.unusedSimpArgs false
namespace Go.Proofs.Ytnlenhhmajecjaa
open Go.RowKit
/-- a closure with one captured value that says `p` of a byte in the world `w` -/
def SaysC (fn : Nat) (p : UInt8 → Bool) (pv : Value) (w : World) : Prop := (∀ args w, (callFunc fn args).run Try.prog w = .ok (.enter fn args) w) ∧ ∀ (c : UInt8), Calls Try.prog fn #[.int .u8 c.toNat, pv] w fun e w' => e = .returned (.bool (p c)) ∧ w' = w
set_option maxHeartbeats 4000000 in
set_option maxRecDepth 100000 in
theorem indexfbc_any (fn : Nat) (p : UInt8 → Bool) (pv : Value) (g n cap : Nat) (M : Nat → UInt8) (w : World) (hfn : SaysC fn p pv w) (h : Bs w g n M) (hn : n ≤ 1000000) :
    Calls Try.prog 58 #[.slice (some ⟨g, 0, none⟩) n cap, .func (.func fn) #[] #[pv]] w fun e w' => (∃ r : Int, e = .returned (.int .i64 r) ∧ ((r = -1 ∧ ∀ j, j < n → p (M j) = false) ∨ ∃ k : Nat, k < n ∧ r = k ∧ p (M k) = true ∧ ∀ j, j < k → p (M j) = false)) ∧ w' = w := by
  have hcf := hfn.1
  replace hfn := Lib.hid hfn
  go_enter Try.func58, Try.ntmps58
  go_wp2_with fail
  go_loopg [8] n (fun gg s8 wr => ∃ i : Nat, i ≤ n ∧ gg = n - i ∧ s8 = .int .i64 i ∧ wr = w ∧ ∀ j, j < i → p (M j) = false)
  case atStart => exact ⟨0, by omega, by omega, rfl, rfl, fun j hj => absurd hj (Nat.not_lt_zero _)⟩
  case round =>
    obtain ⟨i, hi, hg, rfl, rfl, hno⟩ := hrel
    by_cases hlt : i < n
    · have hltz : (i : Int) < (n : Int) := by omega
      have c1 := h.cell hlt
      have hc := hfn.out.2 (M i)
      obtain ⟨b, hb⟩ : ∃ b, M i = b := ⟨_, rfl⟩
      obtain ⟨z, hz⟩ : ∃ z, p b = z := ⟨_, rfl⟩
      rw [hb] at c1 hc
      rw [hz] at hc
      replace hc := Lib.hid hc
      have HH := Lib.hid (And.intro hno (And.intro hb hz))
      clear hno hb hz h
      cases z
      · go_wp2_with (refine hc.out.mono ?_; rintro e w' ⟨rfl, rfl⟩)
        go_roundg (n - (i + 1))
        case measure => go_light; omega
        case rel =>
          go_light
          obtain ⟨h1, h2, h3⟩ := HH.out
          refine ⟨i + 1, by omega, by omega, by go_num, rfl, fun j hj => ?_⟩
          by_cases e : j = i
          · subst e; rw [h2, h3]
          · exact h1 j (by omega)
      · go_wp2_with (refine hc.out.mono ?_; rintro e w' ⟨rfl, rfl⟩)
        go_ret
        go_light
        obtain ⟨h1, h2, h3⟩ := HH.out
        exact ⟨⟨_, rfl, .inr ⟨i, hlt, rfl, by rw [h2, h3], h1⟩⟩, rfl⟩
    · have hi' : i = n := by omega
      have HH := Lib.hid (And.intro hno hi')
      clear hno hi' h
      go_wp2_with fail
      go_ret
      go_light
      exact ⟨⟨_, rfl, .inl ⟨rfl, fun j hj => HH.out.1 j (by have := HH.out.2; omega)⟩⟩, rfl⟩
theorem containsfbc_any (fn : Nat) (p : UInt8 → Bool) (pv : Value) (g n cap : Nat) (M : Nat → UInt8) (l : List UInt8) (w : World) (hfn : SaysC fn p pv w) (h : Bs w g n M) (hn : n ≤ 1000000) (hl : l.length = n) (hM : ∀ i (hi : i < l.length), M i = l[i]) :
    Calls Try.prog 40 #[.slice (some ⟨g, 0, none⟩) n cap, .func (.func fn) #[] #[pv]] w fun e w' => e = .returned (.bool (l.any p)) ∧ w' = w := by
  have hc := indexfbc_any fn p pv g n cap M w hfn h hn
  replace hc := Lib.hid hc
  go_enter Try.func40, Try.ntmps40
  go_wp2_with fail
  refine hc.out.mono ?_
  rintro e w' ⟨⟨r, rfl, hr⟩, rfl⟩
  have hb : decide (0 ≤ r) = l.any p := by
    rcases hr with ⟨rfl, hno⟩ | ⟨k, hk, rfl, hy, _⟩
    · symm
      rw [show decide ((0 : Int) ≤ -1) = false from rfl, List.any_eq_false]
      intro x hx
      obtain ⟨j, hj, rfl⟩ := List.getElem_of_mem hx
      have := hno j (by omega)
      rw [hM j hj] at this
      simp [this]
    · symm
      rw [show decide ((0 : Int) ≤ (k : Int)) = true by simp]
      exact List.any_eq_true.2 ⟨l[k], List.getElem_mem (by omega), by rw [← hM k (by omega)]; exact hy⟩
  have HB := Lib.hid hb
  clear hr hb
  go_wp2_with fail
  go_ret
  go_light
  exact ⟨ret_bool HB.out, rfl⟩

/-- the bytes of a string as a set -/
def inS (cs : ByteArray) (c : UInt8) : Bool := cs.data.toList.contains c
theorem u8_round (c : UInt8) : c.toNat.toUInt8 = c := by
  simp
theorem says48 (cs : ByteArray) (pa : Addr) (w : World) (h : w.cell? pa = some (.string cs)) : SaysC 48 (inS cs) (.pointer (some pa)) w := by
  refine ⟨fun args w => by simp [go_sem], fun c => ?_⟩
  have hi := ib_any cs c.toNat w
  rw [u8_round] at hi
  have hb : decide (0 ≤ Lib.indexByte cs.data.toList c) = inS cs c := by rw [inS, Lib.contains_iff_indexByte]
  obtain ⟨r, hr⟩ : ∃ r, Lib.indexByte cs.data.toList c = r := ⟨_, rfl⟩
  rw [hr] at hi hb
  replace hi := Lib.hid hi
  replace hb := Lib.hid hb
  clear hr
  go_enter Try.func48, Try.ntmps48
  go_wp2_with fail
  refine hi.out.mono ?_
  rintro e w' ⟨rfl, rfl⟩
  go_wp2_with fail
  go_ret
  exact ⟨ret_bool hb.out, rfl⟩
set_option maxHeartbeats 4000000 in
set_option maxRecDepth 100000 in
theorem some_any (s cs : ByteArray) (w : World) (hs : s.size ≤ 1000000) :
    Calls Try.prog 31 #[.string s, .string cs] w fun e w' => e = .returned (.bool ((bl s).any (inS cs))) ∧ Below w.heap.size w w' := by
  have hc1 := Lib.run_convert_string_bytes (P := Try.prog) (w.alloc (.cells #[.string cs] 9)) 9 46 5 s Try.underlying9 Try.underlying46 Try.underlying5
  obtain ⟨W1, hW1⟩ : ∃ W1, w.alloc (.cells #[.string cs] 9) = W1 := ⟨_, rfl⟩
  have hB1 : Below w.heap.size w W1 := by rw [← hW1]; exact (Below.refl _ _).alloc (Nat.le_refl _) _
  have hcell : W1.cell? ⟨w.heap.size, 0, none⟩ = some (.string cs) := by rw [← hW1, World.cell?_alloc_new]; rfl
  have hsz : W1.heap.size = w.heap.size + 1 := by rw [← hW1]; simp
  have hB2 := bytesWorld_below W1 5 s
  have hBs := Bs.of W1 s
  have hcell2 : (Lib.bytesWorld W1 5 s).cell? ⟨w.heap.size, 0, none⟩ = some (.string cs) := by rw [Lib.bytesWorld_old _ _ _ _ (by show w.heap.size < _; omega)]; exact hcell
  rw [hW1] at hc1
  obtain ⟨W2, hW2⟩ : ∃ W2, Lib.bytesWorld W1 5 s = W2 := ⟨_, rfl⟩
  obtain ⟨cap, hcap⟩ : ∃ x, grownCap W1 s.size 0 5 = x := ⟨_, rfl⟩
  rw [hW2] at hB2 hBs hcell2 hc1
  rw [hcap, hsz] at hc1
  rw [hsz] at hBs
  have hcn := containsfbc_any 48 (inS cs) (.pointer (some ⟨w.heap.size, 0, none⟩)) (w.heap.size + 1) s.size cap _ (bl s) W2 (says48 cs _ W2 hcell2) hBs hs (size_bl s) (bat_get s)
  have HC := Lib.hid (And.intro hcn (bst hB1 hB2))
  clear hcn hB1 hB2 hBs hcell hcell2 hsz hW2 hcap
  go_enter Try.func31, Try.ntmps31
  go_wp2_with fail
  refine HC.out.1.mono ?_
  rintro e w' ⟨rfl, rfl⟩
  go_wp2_with fail
  go_ret
  exact ⟨rfl, HC.out.2⟩
end Go.Proofs.Ytnlenhhmajecjaa
