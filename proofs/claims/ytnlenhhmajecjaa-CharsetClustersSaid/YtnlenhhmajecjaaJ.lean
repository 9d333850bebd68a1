import Derived.Test.YtnlenhhmajecjaaI
set_option linter.unusedVariables false
set_option linter.unusedSimpArgs false
namespace Go.Proofs.Ytnlenhhmajecjaa
open Go.RowKit
def ltb (x y : ByteArray) : Bool := Op.bytesLess x.toList y.toList
theorem nan_any (x : ByteArray) (w : World) : Calls Try.prog 59 #[.string x] w fun e w' => e = .returned (.bool false) ∧ w' = w := by
  have h : (x.toList != x.toList) = false := by simp
  go_enter Try.func59, Try.ntmps59
  go_wp2_with fail
  go_ret
  exact ⟨rfl, rfl⟩
def cmpS (x y : ByteArray) : Int := if ltb x y = true then -1 else if x = y then 0 else 1
theorem cmps_any (x y : ByteArray) (w : World) : Calls Try.prog 46 #[.string x, .string y] w fun e w' => e = .returned (.int .i64 (cmpS x y)) ∧ w' = w := by
  cases h1 : ltb x y
  · have h1' : Op.bytesLess x.toList y.toList = false := h1
    by_cases h2 : x = y
    · have h3 : (x.toList == y.toList) = true := by rw [str_beq]; simpa using h2
      rw [cmpS, if_neg (by simp [h1]), if_pos h2]
      clear h1 h2
      go_enter Try.func46, Try.ntmps46
      go_wp2_with (refine (nan_any _ _).mono ?_; rintro e w' ⟨rfl, rfl⟩)
      go_ret
      exact ⟨rfl, rfl⟩
    · have h3 : (x.toList == y.toList) = false := by rw [str_beq]; simpa using h2
      rw [cmpS, if_neg (by simp [h1]), if_neg h2]
      clear h1 h2
      go_enter Try.func46, Try.ntmps46
      go_wp2_with (refine (nan_any _ _).mono ?_; rintro e w' ⟨rfl, rfl⟩)
      go_ret
      exact ⟨rfl, rfl⟩
  · have h1' : Op.bytesLess x.toList y.toList = true := h1
    rw [cmpS, if_pos h1]
    clear h1
    go_enter Try.func46, Try.ntmps46
    go_wp2_with (refine (nan_any _ _).mono ?_; rintro e w' ⟨rfl, rfl⟩)
    go_ret
    exact ⟨rfl, rfl⟩
theorem cmp47_any (x y : ByteArray) (w : World) : Calls Try.prog 47 #[.string x, .string y] w fun e w' => e = .returned (.int .i64 (cmpS x y)) ∧ w' = w := by
  cases h1 : ltb x y
  · have h1' : Op.bytesLess x.toList y.toList = false := h1
    by_cases h2 : x = y
    · have h3 : (x.toList == y.toList) = true := by rw [str_beq]; simpa using h2
      rw [cmpS, if_neg (by simp [h1]), if_pos h2]
      clear h1 h2
      go_enter Try.func47, Try.ntmps47
      go_wp2_with fail
      go_ret
      exact ⟨rfl, rfl⟩
    · have h3 : (x.toList == y.toList) = false := by rw [str_beq]; simpa using h2
      rw [cmpS, if_neg (by simp [h1]), if_neg h2]
      clear h1 h2
      go_enter Try.func47, Try.ntmps47
      go_wp2_with fail
      go_ret
      exact ⟨rfl, rfl⟩
  · have h1' : Op.bytesLess x.toList y.toList = true := h1
    rw [cmpS, if_pos h1]
    clear h1
    go_enter Try.func47, Try.ntmps47
    go_wp2_with fail
    go_ret
    exact ⟨rfl, rfl⟩
theorem plain_size (s : ByteArray) : (plainS s).size ≤ s.size := by
  rw [← size_bl, ← size_bl, plainS, bl_mkS]
  exact List.length_filter_le _ _
theorem fold_size (s : ByteArray) : (foldS s).size = s.size := by
  rw [← size_bl, ← size_bl, foldS, bl_mkS, List.length_map]
theorem step44 (s : ByteArray) (w : World) (hs : s.size ≤ 1000000) : Calls Try.prog 44 #[.string s] w fun e w' => e = .returned (.string (foldS (plainS s))) ∧ Below w.heap.size w w' := by
  have hp := plain_any s w hs
  have hsz := plain_size s
  have hf := fun W => fold_any (plainS s) W (by omega)
  obtain ⟨p, hpp⟩ : ∃ p, plainS s = p := ⟨_, rfl⟩
  simp only [hpp] at hp hf ⊢
  replace hp := Lib.hid hp
  replace hf := Lib.hid hf
  clear hpp hsz
  go_enter Try.func44, Try.ntmps44
  go_wp2_with fail
  refine hp.out.mono ?_
  rintro e w1 ⟨rfl, hB1⟩
  go_wp2_with fail
  refine (hf.out _).mono ?_
  rintro e w2 ⟨rfl, hB2⟩
  have hB := Lib.hid (bst hB1 hB2)
  clear hB1 hB2
  go_wp2_with fail
  go_ret
  exact ⟨rfl, hB.out⟩
theorem step45 (s : ByteArray) (w : World) : Calls Try.prog 45 #[.string s] w fun e w' => e = .returned (.string s) ∧ Below w.heap.size w w' := by
  go_enter Try.func45, Try.ntmps45
  go_wp2_with fail
  go_ret
  exact ⟨rfl, Below.refl _ _⟩
/-- the order of the dictionary -/
def cmpD (a b : ByteArray) : Int :=
  if cmpS (foldS (plainS a)) (foldS (plainS b)) ≠ 0 then cmpS (foldS (plainS a)) (foldS (plainS b))
  else if cmpS (plainS a) (plainS b) ≠ 0 then cmpS (plainS a) (plainS b)
  else cmpS a b
set_option maxHeartbeats 8000000 in
set_option maxRecDepth 100000 in
theorem compare_any (a b : ByteArray) (w : World) (ha : a.size ≤ 1000000) (hb : b.size ≤ 1000000) :
    Calls Try.prog 29 #[.string a, .string b] w fun e w' => e = .returned (.int .i64 (cmpD a b)) ∧ Below w.heap.size w w' := by
  have s1 := fun W => step44 a W ha
  have s1' := fun W => step44 b W hb
  have s2 := fun W => plain_any a W ha
  have s2' := fun W => plain_any b W hb
  have s3 := fun W => step45 a W
  have s3' := fun W => step45 b W
  have k1 := fun W => cmps_any (foldS (plainS a)) (foldS (plainS b)) W
  have k2 := fun W => cmps_any (plainS a) (plainS b) W
  have k3 := fun W => cmps_any a b W
  unfold cmpD
  obtain ⟨pa, hpa⟩ : ∃ x, plainS a = x := ⟨_, rfl⟩
  obtain ⟨pb, hpb⟩ : ∃ x, plainS b = x := ⟨_, rfl⟩
  simp only [hpa, hpb] at s1 s1' s2 s2' k1 k2 ⊢
  obtain ⟨fa, hfa⟩ : ∃ x, foldS pa = x := ⟨_, rfl⟩
  obtain ⟨fb, hfb⟩ : ∃ x, foldS pb = x := ⟨_, rfl⟩
  simp only [hfa, hfb] at s1 s1' k1 ⊢
  obtain ⟨n1, hn1⟩ : ∃ x, cmpS fa fb = x := ⟨_, rfl⟩
  obtain ⟨n2, hn2⟩ : ∃ x, cmpS pa pb = x := ⟨_, rfl⟩
  obtain ⟨n3, hn3⟩ : ∃ x, cmpS a b = x := ⟨_, rfl⟩
  simp only [hn1, hn2, hn3] at k1 k2 k3 ⊢
  have HS := Lib.hid (And.intro s1 (And.intro s1' (And.intro s2 (And.intro s2' (And.intro s3 (And.intro s3' (And.intro k1 (And.intro k2 k3))))))))
  clear s1 s1' s2 s2' s3 s3' k1 k2 k3 hfa hfb hpa hpb hn1 hn2 hn3
  obtain ⟨res, hres⟩ : ∃ r, (if n1 ≠ 0 then n1 else if n2 ≠ 0 then n2 else n3) = r := ⟨_, rfl⟩
  rw [hres]
  replace hres := Lib.hid hres
  have hblk : ∀ i v, i < 3 → (#[Value.func (.func 44) #[] #[], Value.func (.func 22) #[] #[], Value.func (.func 45) #[] #[]] : Array Value)[i]? = some v → (w.alloc (.cells #[.func (.func 44) #[] #[], .func (.func 22) #[] #[], .func (.func 45) #[] #[]] 28)).cell? ⟨w.heap.size, i, none⟩ = some v := by
    intro i v hi hv
    rw [World.cell?_alloc_new]; exact hv
  have HB := Lib.hid hblk
  clear hblk
  go_enter Try.func29, Try.ntmps29
  go_wp2_with fail
  obtain ⟨W0, hW0⟩ : ∃ W0, w.alloc (.cells #[.func (.func 44) #[] #[], .func (.func 22) #[] #[], .func (.func 45) #[] #[]] 28) = W0 := ⟨_, rfl⟩
  have hsz0 : W0.heap.size = w.heap.size + 1 := by rw [← hW0]; simp
  have hB0 : Below w.heap.size w W0 := by rw [← hW0]; exact (Below.refl _ _).alloc (Nat.le_refl _) _
  have hcs := HB.out
  rw [hW0] at hcs ⊢
  have HC := Lib.hid (And.intro hcs (And.intro hB0 hsz0))
  clear HB hcs hB0 hW0 hsz0
  go_loopg [12] 3 (fun g s12 wr => ∃ i : Nat, i ≤ 3 ∧ g = 3 - i ∧ s12 = .int .i64 i ∧ Below W0.heap.size W0 wr ∧ (0 < i → n1 = 0) ∧ (1 < i → n2 = 0) ∧ (2 < i → n3 = 0))
  case atStart => exact ⟨0, by omega, by omega, rfl, Below.refl _ _, by omega, by omega, by omega⟩
  case round =>
    obtain ⟨i, hi, hg, rfl, hbl, z1, z2, z3⟩ := hrel
    have hcell : ∀ i v, i < 3 → (#[Value.func (.func 44) #[] #[], Value.func (.func 22) #[] #[], Value.func (.func 45) #[] #[]] : Array Value)[i]? = some v → wr.cell? ⟨w.heap.size, i, none⟩ = some v := fun i v h1 h2 =>
      (hbl.cell (p := ⟨w.heap.size, i, none⟩) (by show w.heap.size < _; have := HC.out.2.2; omega)).trans (HC.out.1 i v h1 h2)
    have hi4 : i = 0 ∨ i = 1 ∨ i = 2 ∨ i = 3 := by omega
    rcases hi4 with rfl | rfl | rfl | rfl
    · have c1 := hcell 0 _ (by omega) rfl
      have HH := Lib.hid (And.intro hbl (And.intro z1 (And.intro z2 z3)))
      clear hbl z1 z2 z3 hcell
      go_wp2_with fail
      refine (HS.out.1 _).mono ?_
      rintro e w1 ⟨rfl, hB1⟩
      go_wp2_with fail
      refine (HS.out.2.1 _).mono ?_
      rintro e w2 ⟨rfl, hB2⟩
      have hB := Lib.hid (HH.out.1.trans ((bst hB1 hB2).mono HH.out.1.size))
      clear hB1 hB2
      go_wp2_with fail
      refine (HS.out.2.2.2.2.2.2.1 _).mono ?_
      rintro e w3 ⟨rfl, rfl⟩
      by_cases hz : n1 = 0
      · subst hz
        go_wp2_with fail
        go_roundg 2
        case measure => go_light; omega
        case rel =>
          go_light
          exact ⟨1, by omega, by omega, by go_num, hB.out, by first | omega | simp, by first | omega | simp, by first | omega | simp⟩
      · have g1 : (n1 != 0) = true := by simpa using hz
        go_wp2_with fail
        go_ret
        go_light
        exact ⟨ret_int (by rw [← hres.out, if_pos hz]), HC.out.2.1.trans (hB.out.mono (by have := HC.out.2.2; omega))⟩
    · have c1 := hcell 1 _ (by omega) rfl
      have HH := Lib.hid (And.intro hbl (And.intro z1 (And.intro z2 z3)))
      clear hbl z1 z2 z3 hcell
      go_wp2_with fail
      refine (HS.out.2.2.1 _).mono ?_
      rintro e w1 ⟨rfl, hB1⟩
      go_wp2_with fail
      refine (HS.out.2.2.2.1 _).mono ?_
      rintro e w2 ⟨rfl, hB2⟩
      have hB := Lib.hid (HH.out.1.trans ((bst hB1 hB2).mono HH.out.1.size))
      clear hB1 hB2
      go_wp2_with fail
      refine (HS.out.2.2.2.2.2.2.2.1 _).mono ?_
      rintro e w3 ⟨rfl, rfl⟩
      by_cases hz : n2 = 0
      · subst hz
        go_wp2_with fail
        go_roundg 1
        case measure => go_light; omega
        case rel =>
          go_light
          exact ⟨2, by omega, by omega, by go_num, hB.out, fun _ => HH.out.2.1 (by omega), by first | omega | simp, by first | omega | simp⟩
      · have g1 : (n2 != 0) = true := by simpa using hz
        go_wp2_with fail
        go_ret
        go_light
        exact ⟨ret_int (by rw [← hres.out, if_neg (fun h => h (HH.out.2.1 (by omega))), if_pos hz]), HC.out.2.1.trans (hB.out.mono (by have := HC.out.2.2; omega))⟩
    · have c1 := hcell 2 _ (by omega) rfl
      have HH := Lib.hid (And.intro hbl (And.intro z1 (And.intro z2 z3)))
      clear hbl z1 z2 z3 hcell
      go_wp2_with fail
      refine (HS.out.2.2.2.2.1 _).mono ?_
      rintro e w1 ⟨rfl, hB1⟩
      go_wp2_with fail
      refine (HS.out.2.2.2.2.2.1 _).mono ?_
      rintro e w2 ⟨rfl, hB2⟩
      have hB := Lib.hid (HH.out.1.trans ((bst hB1 hB2).mono HH.out.1.size))
      clear hB1 hB2
      go_wp2_with fail
      refine (HS.out.2.2.2.2.2.2.2.2 _).mono ?_
      rintro e w3 ⟨rfl, rfl⟩
      by_cases hz : n3 = 0
      · subst hz
        go_wp2_with fail
        go_roundg 0
        case measure => go_light; omega
        case rel =>
          go_light
          exact ⟨3, by omega, by omega, by go_num, hB.out, fun _ => HH.out.2.1 (by omega), fun _ => HH.out.2.2.1 (by omega), by first | omega | simp⟩
      · have g1 : (n3 != 0) = true := by simpa using hz
        go_wp2_with fail
        go_ret
        go_light
        exact ⟨ret_int (by rw [← hres.out, if_neg (fun h => h (HH.out.2.1 (by omega))), if_neg (fun h => h (HH.out.2.2.1 (by omega)))]), HC.out.2.1.trans (hB.out.mono (by have := HC.out.2.2; omega))⟩
    · have HH := Lib.hid (And.intro hbl (And.intro (z1 (by omega)) (And.intro (z2 (by omega)) (z3 (by omega)))))
      clear hbl z1 z2 z3 hcell
      go_wp2_with fail
      go_ret
      go_light
      obtain ⟨h1, h2, h3, h4⟩ := HH.out
      exact ⟨ret_int (by rw [← hres.out, if_neg (fun h => h h2), if_neg (fun h => h h3), h4]), HC.out.2.1.trans (h1.mono (by have := HC.out.2.2; omega))⟩
end Go.Proofs.Ytnlenhhmajecjaa
