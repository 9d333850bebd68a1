import Derived.Test.YtnlenhhmajecjaaK
set_option linter.unusedVariables false
set_option linter.unusedSimpArgs false
namespace Go.Proofs.Ytnlenhhmajecjaa
open Go.RowKit
def vb (X : List UInt8) : List Value := X.map fun b => Value.int .u8 b.toNat
theorem info5 : (Try.prog.info? 5).map (fun i => (i.zero, i.size, i.bytes)) = some (some (.int .u8 0), 1, 1) := by kernel_rfl
/-- a row of bytes of the call's own, never nil -/
def OwnB (w : World) (base : Nat) (v : Value) (X : List UInt8) : Prop := w.ownsRow base 5 1 v X.length (vb X) ∧ ∃ g cap, v = .slice (some ⟨g, 0, none⟩) X.length cap
theorem OwnB.start (w : World) : OwnB (w.alloc (.cells #[] 5)) w.heap.size (.slice (some ⟨w.heap.size, 0, none⟩) 0 0) [] :=
  ⟨⟨rfl, .inr ⟨_, 0, _, rfl, Nat.le_refl _, heap_alloc_new _ _, Nat.le_refl _, by decide, rfl, rfl⟩⟩, _, 0, rfl⟩
theorem OwnB.push {w : World} {base : Nat} {v : Value} {X : List UInt8} {c : UInt8} (h : w.ownsRow base 5 1 v (X.length + 1) (vb X ++ #[Value.int .u8 (c.toNat : Int)].toList)) : OwnB w base v (X ++ [c]) := by
  have h1 : w.ownsRow base 5 1 v (X ++ [c]).length (vb (X ++ [c])) := by
    have e1 : (X ++ [c]).length = X.length + 1 := by simp
    have e2 : vb (X ++ [c]) = vb X ++ #[Value.int .u8 (c.toNat : Int)].toList := by simp [vb]
    rw [e1, e2]; exact h
  refine ⟨h1, ?_⟩
  rcases own_forms h1 with ⟨_, h0, _⟩ | ⟨g, cap, rfl, _⟩
  · simp at h0
  · exact ⟨g, cap, rfl⟩
theorem OwnB.string {w : World} {base : Nat} {v : Value} {X : List UInt8} (h : OwnB w base v X) : (convert 46 9 v).run Try.prog w = .ok (.string (mkS X)) w := by
  obtain ⟨h1, g, cap, rfl⟩ := h
  refine cells_string rfl fun t ht => ?_
  have := (own_has h1).cell (i := t) (by omega)
  rw [this]
  simp [vb, lat, List.getD_eq_getElem?_getD, List.getElem?_eq_getElem ht]
set_option maxHeartbeats 8000000 in
set_option maxRecDepth 100000 in
theorem rfold_any (s : ByteArray) (w : World) (hs : s.size ≤ 1000000) :
    Calls Try.prog 21 #[.string s] w fun e w' => e = .returned (.string (foldS s)) ∧ Below w.heap.size w w' := by
  have h0 := Lib.hid (OwnB.start w)
  go_enter Try.func21, Try.ntmps21
  go_wp2_with fail
  go_loopg [4, 3] s.size (fun g s4 s3 wr => ∃ i : Nat, i ≤ s.size ∧ g = s.size - i ∧ s4 = .int .i64 i ∧ OwnB wr w.heap.size s3 (((bl s).take i).map foldB) ∧ Below w.heap.size w wr)
  case atStart =>
    go_light
    exact ⟨0, by omega, by omega, rfl, by simpa using h0.out, (Below.refl _ _).alloc (Nat.le_refl _) _⟩
  case round =>
    obtain ⟨i, hi, hg, rfl, hown, hbl⟩ := hrel
    by_cases hlt : i < s.size
    · have hltz : (i : Int) < (s.size : Int) := by omega
      have hx := fun W => run_index_str (P := Try.prog) 9 s (i : Int) i rfl hlt (by omega) Try.underlying9 W
      have hcl := bat_lt s i
      have hl : (((bl s).take i).map foldB).length = i := by rw [List.length_map, List.length_take, size_bl]; omega
      have hnx : ((bl s).take (i + 1)).map foldB = ((bl s).take i).map foldB ++ [foldB (bat s i)] := by
        have h1 : i < (bl s).length := by rw [size_bl]; exact hlt
        rw [List.take_succ_eq_append_getElem h1, List.map_append, bat_get s i h1]; rfl
      have hcap := fun h => foldB_cap (c := bat s i) h
      have hno : ¬ (65 ≤ (bat s i).toNat ∧ (bat s i).toNat ≤ 90) → foldB (bat s i) = bat s i := fun h => if_neg h
      obtain ⟨X, hX⟩ : ∃ X, ((bl s).take i).map foldB = X := ⟨_, rfl⟩
      rw [hX] at hown hl hnx
      obtain ⟨b, hb⟩ : ∃ b, bat s i = b := ⟨_, rfl⟩
      obtain ⟨fb, hfb⟩ : ∃ x, foldB b = x := ⟨_, rfl⟩
      rw [hb] at hcl hcap hno hnx
      rw [hfb] at hcap hno hnx
      simp only [hb] at hx
      have HX := Lib.hid (And.intro hnx hl)
      have HO := Lib.hid (And.intro hown hbl)
      clear hX hb hfb hnx hown hbl
      have hcase : (decide ((65 : Int) ≤ (b.toNat : Int)) = true ∧ decide ((b.toNat : Int) ≤ 90) = true ∧ 65 ≤ b.toNat ∧ b.toNat ≤ 90 ∧ fb.toNat = b.toNat + 32) ∨
          (decide ((65 : Int) ≤ (b.toNat : Int)) = false ∧ ¬ 65 ≤ b.toNat ∧ fb = b) ∨ (decide ((65 : Int) ≤ (b.toNat : Int)) = true ∧ decide ((b.toNat : Int) ≤ 90) = false ∧ ¬ b.toNat ≤ 90 ∧ fb = b) := by
        by_cases h1 : 65 ≤ b.toNat
        · by_cases h2 : b.toNat ≤ 90
          · exact .inl ⟨by simp; omega, by simp; omega, h1, h2, hcap ⟨h1, h2⟩⟩
          · exact .inr (.inr ⟨by simp; omega, by simp; omega, h2, hno (by omega)⟩)
        · exact .inr (.inl ⟨by simp; omega, h1, hno (by omega)⟩)
      clear hcap hno
      obtain ⟨m, hm⟩ : ∃ m, b.toNat = m := ⟨_, rfl⟩
      rw [hm] at hcl hcase
      simp only [hm] at hx
      rcases hcase with ⟨g1, g2, p1, p2, hf⟩ | ⟨g1, p1, hf⟩ | ⟨g1, g2, p2, hf⟩
      · have hw1 : IntKind.u8.wrap ((m : Int) + 97) = (m : Int) + 97 := by rw [IntKind.wrap_u8]; omega
        have hw2 : IntKind.u8.wrap ((m : Int) + 97 - 65) = (m : Int) + 97 - 65 := by rw [IntKind.wrap_u8]; omega
        have hv : (m : Int) + 97 - 65 = (fb.toNat : Int) := by rw [hf]; omega
        replace hv := Lib.hid hv
        clear hm hf
        go_wp2_with (at_builtin; refine app_new _ rfl _ _ 46 5 rfl _ 1 1 Try.underlying46 info5 rfl (by decide) w.heap.size _ X.length (vb X) rfl (HO.out.1.1) 1 1 _ rfl rfl (by simp [Value.oneCell']) (by unfold maxLen; omega) (by omega) (by exact HO.out.2.size) ?_; intro v' w1 hown' hgrow)
        go_roundg (s.size - (i + 1))
        case measure => go_light; omega
        case rel =>
          go_light
          rw [hv.out] at hown'
          exact ⟨i + 1, by omega, by omega, by go_num, by rw [HX.out.1]; exact OwnB.push hown', app_below HO.out.2 HO.out.2.size HO.out.1.1 hgrow⟩
      all_goals
        have HF := Lib.hid (And.intro hf hm)
        clear hm hf
        go_wp2_with (at_builtin; refine app_new _ rfl _ _ 46 5 rfl _ 1 1 Try.underlying46 info5 rfl (by decide) w.heap.size _ X.length (vb X) rfl (HO.out.1.1) 1 1 _ rfl rfl (by simp [Value.oneCell']) (by unfold maxLen; omega) (by omega) (by exact HO.out.2.size) ?_; intro v' w1 hown' hgrow)
        go_roundg (s.size - (i + 1))
        case measure => go_light; omega
        case rel =>
          go_light
          rw [← HF.out.2] at hown'
          exact ⟨i + 1, by omega, by omega, by go_num, by rw [HX.out.1, HF.out.1]; exact OwnB.push hown', app_below HO.out.2 HO.out.2.size HO.out.1.1 hgrow⟩
    · have hi' : i = s.size := by omega
      subst hi'
      rw [show (bl s).take s.size = bl s by rw [← size_bl, List.take_length]] at hown
      have hfs : foldS s = mkS ((bl s).map foldB) := rfl
      obtain ⟨X, hX⟩ : ∃ X, (bl s).map foldB = X := ⟨_, rfl⟩
      rw [hX] at hown hfs
      have hcv := hown.string
      obtain ⟨_, g4, cap4, rfl⟩ := hown
      have HB := Lib.hid (And.intro hbl hfs)
      clear hbl hfs hX
      obtain ⟨n, hn⟩ : ∃ n, X.length = n := ⟨_, rfl⟩
      rw [hn] at hcv
      simp only [hn]
      clear hn
      go_wp2_with fail
      rw [HB.out.2]
      go_ret
      exact ⟨rfl, HB.out.1⟩
end Go.Proofs.Ytnlenhhmajecjaa
