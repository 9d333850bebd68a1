import Derived.Test.YtnlenhhmajecjaaF
set_option linter.unusedVariables false
set_option linter.unusedSimpArgs false
namespace Go.Proofs.Ytnlenhhmajecjaa
open Go.RowKit
/-- the first `n` cells of block `g` are `M` and may be written -/
def Bs (w : World) (g n : Nat) (M : Nat → UInt8) : Prop := ∃ (c : Array Value) (lo hi : Nat), w.heap[g]? = some (.cells c 5 (lo, hi)) ∧ n ≤ c.size ∧ n ≤ lo ∧ ∀ i, i < n → c[i]? = some (.int .u8 (M i).toNat)
namespace Bs
variable {w : World} {g n : Nat} {M M' : Nat → UInt8}
theorem cell (h : Bs w g n M) {i : Nat} (hi : i < n) : w.cell? ⟨g, i, none⟩ = some (.int .u8 (M i).toNat) := by
  obtain ⟨c, lo, hi', hb, _, _, hc⟩ := h
  simp [World.cell?, hb, hc i hi]
theorem frozen (h : Bs w g n M) {i : Nat} (hi : i < n) : w.frozen? ⟨g, i, none⟩ = false := by
  obtain ⟨c, lo, hi', hb, _, hl, hc⟩ := h
  simp [World.frozen?, hb]; omega
theorem congr (h : Bs w g n M) (e : ∀ i, i < n → M i = M' i) : Bs w g n M' := by
  obtain ⟨c, lo, hi, hb, h1, h2, hc⟩ := h
  exact ⟨c, lo, hi, hb, h1, h2, fun i hi => by rw [hc i hi, e i hi]⟩
theorem less (h : Bs w g n M) {m : Nat} (hm : m ≤ n) : Bs w g m M := by
  obtain ⟨c, lo, hi, hb, h1, h2, hc⟩ := h
  exact ⟨c, lo, hi, hb, by omega, by omega, fun i hi => hc i (by omega)⟩
theorem set (h : Bs w g n M) (i : Nat) (v : UInt8) : Bs (w.setCell ⟨g, i, none⟩ (.int .u8 v.toNat)) g n (fun j => if j = i then v else M j) := by
  obtain ⟨c, lo, hi, hb, hn, h2, hc⟩ := h
  refine ⟨c.setIfInBounds i (.int .u8 v.toNat), lo, hi, ?_, by simpa using hn, h2, fun j hj => ?_⟩
  · simp [World.setCell, Array.getElem?_modify, hb]
  · rw [Array.getElem?_setIfInBounds]
    by_cases e : j = i
    · subst e
      rw [if_pos rfl, if_pos (by omega)]
      simp
    · rw [if_neg (fun h => e h.symm)]
      simp only [if_neg e]
      exact hc j hj
theorem drewN (h : Bs w g n M) (q : Nat) : Bs (w.drewN q) g n M := h
theorem of (w : World) (s : ByteArray) : Bs (Lib.bytesWorld w 5 s) w.heap.size s.size (fun k => bat s k) := by
  refine ⟨_, _, _, Lib.bytesWorld_at_new w 5 s, by simp [Lib.bytesCells], by simp [Lib.bytesCells], fun i hi => ?_⟩
  have := Lib.bytesWorld_cell w 5 s i hi
  have h2 : (Lib.bytesWorld w 5 s).cell? ⟨w.heap.size, i, none⟩ = (Lib.bytesCells w 5 s)[i]? := by simp [World.cell?, Lib.bytesWorld_at_new]
  rw [← h2]
  exact this
end Bs
theorem size_bl (s : ByteArray) : (bl s).length = s.size := by simp [bl]
theorem bl_inj {a b : ByteArray} (h : bl a = bl b) : a = b := by
  cases a; cases b
  simp only [bl, Array.toList_inj] at h
  rw [h]
/-- a string out of bytes -/
def mkS (l : List UInt8) : ByteArray := ⟨l.toArray⟩
theorem bl_mkS (l : List UInt8) : bl (mkS l) = l := by simp [mkS, bl]
theorem bytes_string {w : World} {g n cap : Nat} {M : Nat → UInt8} {l : List UInt8} (h : Bs w g n M) (hl : l.length = n) (hM : ∀ i (hi : i < l.length), M i = l[i]) :
    (convert 46 9 (.slice (some ⟨g, 0, none⟩) n cap)).run Try.prog w = .ok (.string (mkS l)) w := by
  subst hl
  refine run_convert_bytes_back w 46 9 5 ⟨g, 0, none⟩ cap l Try.underlying46 Try.underlying5 Try.underlying9 fun j hj => ?_
  have hadd : (⟨g, 0, none⟩ : Addr).add j = ⟨g, j, none⟩ := by unfold Addr.add; split <;> simp_all
  rw [hadd, h.cell hj, hM j hj]

/-- a small letter for a capital one -/
def foldB (c : UInt8) : UInt8 := if 65 ≤ c.toNat ∧ c.toNat ≤ 90 then (c.toNat + 32).toUInt8 else c
def foldS (s : ByteArray) : ByteArray := mkS ((bl s).map foldB)
theorem foldB_cap {c : UInt8} (h : 65 ≤ c.toNat ∧ c.toNat ≤ 90) : (foldB c).toNat = c.toNat + 32 := by
  rw [foldB, if_pos h]
  simp only [Nat.toUInt8, UInt8.toNat_ofNat']
  omega
set_option maxHeartbeats 4000000 in
set_option maxRecDepth 100000 in
theorem fold_any (s : ByteArray) (w : World) (hs : s.size ≤ 1000000) :
    Calls Try.prog 20 #[.string s] w fun e w' => e = .returned (.string (foldS s)) ∧ Below w.heap.size w w' := by
  have hc1 := Lib.run_convert_string_bytes (P := Try.prog) w 9 46 5 s Try.underlying9 Try.underlying46 Try.underlying5
  have hB1 := bytesWorld_below w 5 s
  have hBs := Bs.of w s
  have hsz := Lib.bytesWorld_size w 5 s
  obtain ⟨W, hW⟩ : ∃ W, Lib.bytesWorld w 5 s = W := ⟨_, rfl⟩
  rw [hW] at hB1 hBs hsz hc1
  obtain ⟨cap, hcap⟩ : ∃ x, grownCap w s.size 0 5 = x := ⟨_, rfl⟩
  rw [hcap] at hc1
  have H0 := Lib.hid (And.intro hB1 (And.intro hBs hsz))
  clear hB1 hBs hsz hW hcap
  go_enter Try.func20, Try.ntmps20
  go_wp2_with fail
  go_loopg [10] s.size (fun g s10 wr => ∃ i : Nat, i ≤ s.size ∧ g = s.size - i ∧ s10 = .int .i64 i ∧ Bs wr w.heap.size s.size (fun k => if k < i then foldB (bat s k) else bat s k) ∧ Only w.heap.size W wr)
  case atStart =>
    go_light
    exact ⟨0, by omega, by omega, rfl, H0.out.2.1.congr fun k hk => by rw [if_neg (by omega)], Only.refl _ _⟩
  case round =>
    obtain ⟨i, hi, hg, rfl, hH, hO⟩ := hrel
    by_cases hlt : i < s.size
    · have hltz : (i : Int) < (s.size : Int) := by omega
      have c1 := hH.cell (i := i) hlt
      have f1 := hH.frozen (i := i) hlt
      rw [if_neg (Nat.lt_irrefl i)] at c1
      have HH := Lib.hid (And.intro hH hO)
      have hcl := bat_lt s i
      clear hH hO
      have hcap' := fun h => foldB_cap (c := bat s i) h
      have hno : ¬ (65 ≤ (bat s i).toNat ∧ (bat s i).toNat ≤ 90) → foldB (bat s i) = bat s i := fun h => if_neg h
      obtain ⟨b, hb⟩ : ∃ b, bat s i = b := ⟨_, rfl⟩
      rw [hb] at c1 hcl hcap' hno
      obtain ⟨n, hn⟩ : ∃ n, b.toNat = n := ⟨_, rfl⟩
      rw [hn] at c1 hcl hcap' hno
      have HX := Lib.hid (And.intro hb (And.intro hcap' hno))
      clear hb hcap' hno hn
      by_cases hcp : 65 ≤ n ∧ n ≤ 90
      · obtain ⟨h1, h2⟩ := hcp
        have g1 : decide ((65 : Int) ≤ (n : Int)) = true := by simp; omega
        have g2 : decide ((n : Int) ≤ 90) = true := by simp; omega
        have hw1 : IntKind.u8.wrap ((n : Int) - 65) = (n : Int) - 65 := by rw [IntKind.wrap_u8]; omega
        have hw2 : IntKind.u8.wrap ((n : Int) - 65 + 97) = (n : Int) - 65 + 97 := by rw [IntKind.wrap_u8]; omega
        go_wp2_with fail
        go_roundg (s.size - (i + 1))
        case measure => go_light; omega
        case rel =>
          go_light
          obtain ⟨q1, q2, q3⟩ := HX.out
          have hv : ((n : Int) - 65 + 97) = ((foldB b).toNat : Int) := by rw [q2 ⟨h1, h2⟩]; omega
          rw [hv]
          refine ⟨i + 1, by omega, by omega, by go_num, (HH.out.1.set i (foldB b)).congr fun k hk => ?_, HH.out.2.set _ _⟩
          by_cases e : k = i
          · subst e; rw [if_pos rfl, if_pos (by omega), q1]
          · rw [if_neg e]
            by_cases h : k < i
            · rw [if_pos h, if_pos (by omega)]
            · rw [if_neg h, if_neg (by omega)]
      · have hno := Lib.hid (HX.out.2.2 hcp)
        have hcase : decide ((65 : Int) ≤ (n : Int)) = false ∧ ¬ 65 ≤ n ∨ decide ((65 : Int) ≤ (n : Int)) = true ∧ decide ((n : Int) ≤ 90) = false ∧ ¬ n ≤ 90 := by
          by_cases h : 65 ≤ n
          · exact .inr ⟨by simp; omega, by simp; omega, by omega⟩
          · exact .inl ⟨by simp; omega, h⟩
        have hres : ∀ k, k < s.size → (if k < i then foldB (bat s k) else bat s k) = if k < i + 1 then foldB (bat s k) else bat s k := fun k hk => by
          by_cases e : k = i
          · subst e; rw [if_neg (by omega), if_pos (by omega), HX.out.1, hno.out]
          · by_cases h : k < i
            · rw [if_pos h, if_pos (by omega)]
            · rw [if_neg h, if_neg (by omega)]
        have HR := Lib.hid hres
        clear hres hcp
        rcases hcase with ⟨g1, g1'⟩ | ⟨g1, g2, g2'⟩
        all_goals
          go_wp2_with fail
          go_roundg (s.size - (i + 1))
          case measure => go_light; omega
          case rel =>
            go_light
            exact ⟨i + 1, by omega, by omega, by go_num, HH.out.1.congr HR.out, HH.out.2⟩
    · have hi' : i = s.size := by omega
      subst hi'
      have hcv := bytes_string (cap := cap) (l := (bl s).map foldB) hH (by rw [List.length_map, size_bl]) (fun k hk => by
        have hk' : k < (bl s).length := by simpa using hk
        rw [if_pos (by rw [size_bl] at hk'; exact hk'), List.getElem_map, bat, List.getD_eq_getElem?_getD, List.getElem?_eq_getElem hk', Option.getD_some])
      have HB := Lib.hid (H0.out.1.trans (hO.below (Nat.le_refl _) (by have := H0.out.2.2; omega)))
      clear hH hO
      go_wp2_with fail
      go_ret
      exact ⟨rfl, HB.out⟩
end Go.Proofs.Ytnlenhhmajecjaa
