import Derived.Test.YtnlenhhmajecjaaH
import Derived.Test.YtnlenhhmajecjaaE
set_option linter.unusedVariables false
set_option linter.unusedSimpArgs false
namespace Go.Proofs.Ytnlenhhmajecjaa
open Go.RowKit
theorem bst {a b c : World} (h : Below a.heap.size a b) (k : Below b.heap.size b c) : Below a.heap.size a c := h.trans (k.mono h.size)
theorem str_beq (x y : ByteArray) : (x.toList == y.toList) = decide (x = y) := by
  rw [Bool.eq_iff_iff, beq_iff_eq, decide_eq_true_iff, ByteArray.toList_eq, ByteArray.toList_eq]
  constructor
  · intro h
    cases x; cases y
    simp only [Array.toList_inj] at h
    rw [show _ = _ from h]
  · intro h; rw [h]
/-- punctuation or a space -/
def q56 (c : UInt8) : Bool := decide (kindN c.toNat = 5) || decide (kindN c.toNat = 6)
/-- a word -/
def isW (s : ByteArray) : Bool := decide (0 < s.size ∧ s.size ≤ 64) && (decide (chkR s = 0) && ((decide (kd s 0 = 1) || decide (kd s 0 = 3)) && !((bl s).any q56)))
theorem size_zero {s : ByteArray} : s = ⟨#[]⟩ ↔ s.size = 0 := by
  constructor
  · intro h; rw [h]; rfl
  · intro h; exact ByteArray.size_eq_zero_iff.1 h
theorem empty_iff (s : ByteArray) : s.toList.isEmpty = decide (s.size = 0) := by
  rw [ByteArray.toList_eq, Bool.eq_iff_iff, List.isEmpty_iff, decide_eq_true_iff, ← size_zero]
  constructor
  · intro h
    cases s
    simp only at h
    rw [Array.toList_eq_nil_iff] at h
    rw [h]
  · intro h; rw [h]
/-- `[]byte(s)` handed to ContainsFunc -/
theorem has_any (fn : Nat) (p : UInt8 → Bool) (hfn : Says fn p) (s : ByteArray) (w : World) (hs : s.size ≤ 1000000) (cap : Nat) :
    Calls Try.prog 40 #[.slice (some ⟨w.heap.size, 0, none⟩) s.size cap, .func (.func fn) #[] #[]] (Lib.bytesWorld w 5 s) fun e w' => e = .returned (.bool ((bl s).any p)) ∧ Below w.heap.size w w' := by
  refine (containsfb_any fn p hfn w.heap.size s.size cap _ (bl s) _ (Bs.of w s) hs (size_bl s) (bat_get s)).mono ?_
  rintro e w' ⟨rfl, rfl⟩
  exact ⟨rfl, bytesWorld_below w 5 s⟩
set_option maxHeartbeats 4000000 in
set_option maxRecDepth 100000 in
theorem isword_any (s : ByteArray) (w : World) (hs : s.size ≤ 9223372036854775807) :
    Calls Try.prog 16 #[.string s] w fun e w' => e = .returned (.bool (isW s)) ∧ Below w.heap.size w w' := by
  have he := empty_iff s
  by_cases h0 : s.size = 0
  · rw [decide_eq_true h0] at he
    have hr : isW s = false := by rw [isW, decide_eq_false (by omega)]; rfl
    rw [hr]
    clear hr
    go_enter Try.func16, Try.ntmps16
    go_wp2_with fail
    go_ret
    exact ⟨rfl, Below.refl _ _⟩
  · rw [decide_eq_false h0] at he
    by_cases h64 : 64 < s.size
    · have g1 : decide ((64 : Int) < (s.size : Int)) = true := by simp; omega
      have hr : isW s = false := by rw [isW, decide_eq_false (by omega)]; rfl
      rw [hr]
      clear hr
      go_enter Try.func16, Try.ntmps16
      go_wp2_with fail
      go_ret
      exact ⟨rfl, Below.refl _ _⟩
    · have g1 : decide ((64 : Int) < (s.size : Int)) = false := by simp; omega
      have hr : isW s = (decide (chkR s = 0) && ((decide (kd s 0 = 1) || decide (kd s 0 = 3)) && !((bl s).any q56))) := by rw [isW, decide_eq_true (by omega), Bool.true_and]
      have hck := check_any s w hs
      have hx := fun W => run_index_str (P := Try.prog) 9 s (0 : Int) 0 rfl (by omega) hs Try.underlying9 W
      have hk := fun W => kind_any _ (bat_lt s 0) W
      have hkd : kindN (bat s 0).toNat = kd s 0 := rfl
      have hcn := fun W => has_any 41 _ says41 s W (by omega)
      have hc1 := fun W => Lib.run_convert_string_bytes (P := Try.prog) W 9 46 5 s Try.underlying9 Try.underlying46 Try.underlying5
      have hq : (bl s).any (fun c => decide (kindN c.toNat = 5) || decide (kindN c.toNat = 6)) = (bl s).any q56 := rfl
      rw [hkd] at hk
      rw [hr]
      obtain ⟨c, hc⟩ : ∃ c, chkR s = c := ⟨_, rfl⟩
      obtain ⟨k, hkk⟩ : ∃ k, kd s 0 = k := ⟨_, rfl⟩
      obtain ⟨z, hz⟩ : ∃ z, (bl s).any q56 = z := ⟨_, rfl⟩
      simp only [hq, hz] at hcn
      rw [hc] at hck
      rw [hkk] at hk
      rw [hc, hkk, hz]
      replace hck := Lib.hid hck
      replace hk := Lib.hid hk
      replace hcn := Lib.hid hcn
      clear hr hkd hq hc hkk hz
      by_cases h1 : c = 0
      · subst h1
        rw [show decide (0 = 0) = true from rfl, Bool.true_and]
        by_cases h2 : k = 1 ∨ k = 3
        · have h2' : (decide (k = 1) || decide (k = 3)) = true := by simpa using h2
          rw [h2', Bool.true_and]
          clear h2'
          rcases h2 with rfl | rfl
          all_goals
            go_enter Try.func16, Try.ntmps16
            go_wp2_with fail
            refine hck.out.mono ?_
            rintro e w1 ⟨rfl, hB1⟩
            go_wp2_with fail
            refine (hk.out _).mono ?_
            rintro e w2 ⟨rfl, rfl⟩
            go_wp2_with fail
            refine (hcn.out _ _).mono ?_
            rintro e w3 ⟨rfl, hB3⟩
            have hB := Lib.hid (bst hB1 hB3)
            clear hB1 hB3
            go_wp2_with fail
            go_ret
            exact ⟨rfl, hB.out⟩
        · have h2' : (decide (k = 1) || decide (k = 3)) = false := by simpa using h2
          rw [h2', Bool.false_and]
          have g3 : ((k : Int) != 1) = true := by simp; omega
          have g4 : ((k : Int) != 3) = true := by simp; omega
          clear h2' h2
          go_enter Try.func16, Try.ntmps16
          go_wp2_with fail
          refine hck.out.mono ?_
          rintro e w1 ⟨rfl, hB1⟩
          go_wp2_with fail
          refine (hk.out _).mono ?_
          rintro e w2 ⟨rfl, rfl⟩
          go_wp2_with fail
          go_ret
          exact ⟨rfl, hB1⟩
      · rw [decide_eq_false h1, Bool.false_and]
        have g2 : ((c : Int) != 0) = true := by simp; omega
        go_enter Try.func16, Try.ntmps16
        go_wp2_with fail
        refine hck.out.mono ?_
        rintro e w1 ⟨rfl, hB1⟩
        go_wp2_with fail
        go_ret
        exact ⟨rfl, hB1⟩
/-- a name -/
def isN (s : ByteArray) : Bool := decide (0 < s.size ∧ s.size ≤ 16) && decide (letN s = s.size)
set_option maxRecDepth 100000 in
theorem isname_any (s : ByteArray) (w : World) (hs : s.size ≤ 9223372036854775807) :
    Calls Try.prog 18 #[.string s] w fun e w' => e = .returned (.bool (isN s)) ∧ w' = w := by
  have he := empty_iff s
  by_cases h0 : s.size = 0
  · rw [decide_eq_true h0] at he
    have hr : isN s = false := by rw [isN, decide_eq_false (by omega)]; rfl
    rw [hr]
    clear hr
    go_enter Try.func18, Try.ntmps18
    go_wp2_with fail
    go_ret
    exact ⟨rfl, rfl⟩
  · rw [decide_eq_false h0] at he
    by_cases h16 : s.size ≤ 16
    · have g1 : decide ((s.size : Int) ≤ 16) = true := by simp; omega
      have hr : isN s = decide (letN s = s.size) := by rw [isN, decide_eq_true (by omega), Bool.true_and]
      have hl := letters_any s w hs
      have hb : ((letN s : Int) == (s.size : Int)) = decide (letN s = s.size) := by rw [Bool.eq_iff_iff]; simp; omega
      rw [hr]
      obtain ⟨n, hn⟩ : ∃ n, letN s = n := ⟨_, rfl⟩
      rw [hn] at hl hb ⊢
      replace hl := Lib.hid hl
      clear hr hn
      go_enter Try.func18, Try.ntmps18
      go_wp2_with (refine hl.out.mono ?_; rintro e w1 ⟨rfl, rfl⟩)
      go_ret
      first
        | exact ⟨rfl, rfl⟩
        | exact ⟨ret_bool hb, rfl⟩
    · have g1 : decide ((s.size : Int) ≤ 16) = false := by simp; omega
      have hr : isN s = false := by rw [isN, decide_eq_false (by omega)]; rfl
      rw [hr]
      clear hr
      go_enter Try.func18, Try.ntmps18
      go_wp2_with fail
      go_ret
      exact ⟨rfl, rfl⟩
end Go.Proofs.Ytnlenhhmajecjaa
