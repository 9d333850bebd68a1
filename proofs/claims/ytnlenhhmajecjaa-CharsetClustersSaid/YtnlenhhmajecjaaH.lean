import Derived.Test.YtnlenhhmajecjaaG
import Derived.Lib.SliceRun
set_option linter.unusedVariables false
set_option linter.unusedSimpArgs false
namespace Go.Proofs.Ytnlenhhmajecjaa
open Go.RowKit
theorem ret_int {k : IntKind} {a b : Int} (h : a = b) : Ending.returned (.int k a) = .returned (.int k b) := by rw [h]
theorem ret_bool {a b : Bool} (h : a = b) : Ending.returned (.bool a) = .returned (.bool b) := by rw [h]
/-- a function value that says `p` of a byte and only reads -/
def Says (fn : Nat) (p : UInt8 → Bool) : Prop := (∀ args w, (callFunc fn args).run Try.prog w = .ok (.enter fn args) w) ∧ ∀ (c : UInt8) (w : World), Calls Try.prog fn #[.int .u8 c.toNat] w fun e w' => e = .returned (.bool (p c)) ∧ w' = w
def lat (l : List UInt8) (k : Nat) : UInt8 := l.getD k 0
set_option maxHeartbeats 4000000 in
set_option maxRecDepth 100000 in
theorem indexfb_any (fn : Nat) (p : UInt8 → Bool) (hfn : Says fn p) (g n cap : Nat) (M : Nat → UInt8) (w : World) (h : Bs w g n M) (hn : n ≤ 1000000) :
    Calls Try.prog 58 #[.slice (some ⟨g, 0, none⟩) n cap, .func (.func fn) #[] #[]] w fun e w' => (∃ r : Int, e = .returned (.int .i64 r) ∧ ((r = -1 ∧ ∀ j, j < n → p (M j) = false) ∨ ∃ k : Nat, k < n ∧ r = k ∧ p (M k) = true ∧ ∀ j, j < k → p (M j) = false)) ∧ w' = w := by
  have hcf := hfn.1
  replace hfn := Lib.hid hfn
  go_enter Try.func58, Try.ntmps58
  go_wp2_with fail
  go_loopg [8] n (fun gg s8 wr => ∃ i : Nat, i ≤ n ∧ gg = n - i ∧ s8 = .int .i64 i ∧ wr = w ∧ ∀ j, j < i → p (M j) = false)
  case atStart => exact ⟨0, by omega, by omega, rfl, rfl, fun j hj => absurd hj (Nat.not_lt_zero _)⟩
  case round =>
    obtain ⟨i, hi, hg, rfl, rfl, hno⟩ := hrel
    by_cases hlt : i < n
    · have hltz : (i : Int) < (n : Int) := by omega
      have c1 := h.cell hlt
      have hc := hfn.out.2 (M i) wr
      obtain ⟨b, hb⟩ : ∃ b, M i = b := ⟨_, rfl⟩
      obtain ⟨z, hz⟩ : ∃ z, p b = z := ⟨_, rfl⟩
      rw [hb] at c1 hc
      rw [hz] at hc
      replace hc := Lib.hid hc
      have HH := Lib.hid (And.intro hno (And.intro hb hz))
      clear hno hb hz h
      cases z
      · go_wp2_with (refine hc.out.mono ?_; rintro e w' ⟨rfl, rfl⟩)
        go_roundg (n - (i + 1))
        case measure => go_light; omega
        case rel =>
          go_light
          obtain ⟨h1, h2, h3⟩ := HH.out
          refine ⟨i + 1, by omega, by omega, by go_num, rfl, fun j hj => ?_⟩
          by_cases e : j = i
          · subst e; rw [h2, h3]
          · exact h1 j (by omega)
      · go_wp2_with (refine hc.out.mono ?_; rintro e w' ⟨rfl, rfl⟩)
        go_ret
        go_light
        obtain ⟨h1, h2, h3⟩ := HH.out
        exact ⟨⟨_, rfl, .inr ⟨i, hlt, rfl, by rw [h2, h3], h1⟩⟩, rfl⟩
    · have hi' : i = n := by omega
      have HH := Lib.hid (And.intro hno hi')
      clear hno hi' h
      go_wp2_with fail
      go_ret
      go_light
      exact ⟨⟨_, rfl, .inl ⟨rfl, fun j hj => HH.out.1 j (by have := HH.out.2; omega)⟩⟩, rfl⟩
theorem containsfb_any (fn : Nat) (p : UInt8 → Bool) (hfn : Says fn p) (g n cap : Nat) (M : Nat → UInt8) (l : List UInt8) (w : World) (h : Bs w g n M) (hn : n ≤ 1000000) (hl : l.length = n) (hM : ∀ i (hi : i < l.length), M i = l[i]) :
    Calls Try.prog 40 #[.slice (some ⟨g, 0, none⟩) n cap, .func (.func fn) #[] #[]] w fun e w' => e = .returned (.bool (l.any p)) ∧ w' = w := by
  have hc := indexfb_any fn p hfn g n cap M w h hn
  replace hc := Lib.hid hc
  go_enter Try.func40, Try.ntmps40
  go_wp2_with fail
  refine hc.out.mono ?_
  rintro e w' ⟨⟨r, rfl, hr⟩, rfl⟩
  have hb : decide (0 ≤ r) = l.any p := by
    rcases hr with ⟨rfl, hno⟩ | ⟨k, hk, rfl, hy, _⟩
    · symm
      rw [show decide ((0 : Int) ≤ -1) = false from rfl, List.any_eq_false]
      intro x hx
      obtain ⟨j, hj, rfl⟩ := List.getElem_of_mem hx
      have := hno j (by omega)
      rw [hM j hj] at this
      simp [this]
    · symm
      rw [show decide ((0 : Int) ≤ (k : Int)) = true by simp]
      exact List.any_eq_true.2 ⟨l[k], List.getElem_mem (by omega), by rw [← hM k (by omega)]; exact hy⟩
  have HB := Lib.hid hb
  clear hr hb
  go_wp2_with fail
  go_ret
  go_light
  exact ⟨ret_bool HB.out, rfl⟩
theorem says41 : Says 41 (fun c => decide (kindN c.toNat = 5) || decide (kindN c.toNat = 6)) := by
  refine ⟨fun args w => by simp [go_sem], fun c w => ?_⟩
  have hk := kind_any _ c.toNat_lt w
  obtain ⟨k, hkk⟩ : ∃ k, kindN c.toNat = k := ⟨_, rfl⟩
  simp only [hkk] at hk ⊢
  replace hk := Lib.hid hk
  clear hkk
  by_cases h5 : k = 5
  · subst h5
    go_enter Try.func41, Try.ntmps41
    go_wp2_with (refine hk.out.mono ?_; rintro e w' ⟨rfl, rfl⟩)
    go_ret
    exact ⟨rfl, rfl⟩
  · have g5 : ((k : Int) == 5) = false := by simp; omega
    by_cases h6 : k = 6
    · subst h6
      clear h5
      go_enter Try.func41, Try.ntmps41
      go_wp2_with (refine hk.out.mono ?_; rintro e w' ⟨rfl, rfl⟩)
      go_ret
      exact ⟨rfl, rfl⟩
    · have g6 : ((k : Int) == 6) = false := by simp; omega
      go_enter Try.func41, Try.ntmps41
      go_wp2_with (refine hk.out.mono ?_; rintro e w' ⟨rfl, rfl⟩)
      go_ret
      exact ⟨by rw [decide_eq_false h5, decide_eq_false h6]; rfl, rfl⟩
theorem says43 : Says 43 (fun c => decide (kindN c.toNat = 2)) := by
  refine ⟨fun args w => by simp [go_sem], fun c w => ?_⟩
  have hk := kind_any _ c.toNat_lt w
  obtain ⟨k, hkk⟩ : ∃ k, kindN c.toNat = k := ⟨_, rfl⟩
  simp only [hkk] at hk ⊢
  replace hk := Lib.hid hk
  clear hkk
  have h2 : ((k : Int) == 2) = decide (k = 2) := by rw [Bool.eq_iff_iff]; simp; omega
  go_enter Try.func43, Try.ntmps43
  go_wp2_with (refine hk.out.mono ?_; rintro e w' ⟨rfl, rfl⟩)
  go_ret
  first
    | exact ⟨rfl, rfl⟩
    | exact ⟨by rw [h2], rfl⟩
theorem setCells_below {B b : Nat} (hB : B ≤ b) : ∀ (vs : List Value) (o : Nat) (a w : World), Below B a w → Below B a (w.setCells b o vs)
  | [], _, _, _, h => h
  | v :: r, o, a, w, h => setCells_below hB r (o + 1) a _ (h.setCell hB v)
/-- the bytes that are not deleted among the first -/
def keepU (l : List UInt8) (p : UInt8 → Bool) (j : Nat) : List UInt8 := (l.take j).filter fun c => !p c
theorem keepU_succ {l : List UInt8} {p : UInt8 → Bool} {j : Nat} (h : j < l.length) : keepU l p (j + 1) = keepU l p j ++ if p l[j] = true then [] else [l[j]] := by
  unfold keepU
  rw [List.take_succ_eq_append_getElem h, List.filter_append]
  cases hp : p l[j] <;> simp [hp]
theorem keepU_le (l : List UInt8) (p : UInt8 → Bool) (j : Nat) : (keepU l p j).length ≤ j := by
  unfold keepU
  have := List.length_filter_le (fun c => !p c) (l.take j)
  rw [List.length_take] at this
  omega
theorem keepU_all {l : List UInt8} {p : UInt8 → Bool} : ∀ {j : Nat}, j ≤ l.length → (∀ t (h : t < l.length), t < j → p l[t] = false) → keepU l p j = l.take j
  | 0, _, _ => by simp [keepU]
  | j + 1, hj, h => by
    rw [keepU_succ (by omega), keepU_all (by omega) (fun t ht htj => h t ht (by omega)), h j (by omega) (by omega), List.take_succ_eq_append_getElem (by omega)]
    rfl
set_option maxHeartbeats 8000000 in
set_option maxRecDepth 100000 in
theorem deletef_any (fn : Nat) (p : UInt8 → Bool) (hfn : Says fn p) (g n cap : Nat) (M : Nat → UInt8) (l : List UInt8) (w : World) (h : Bs w g n M) (hn : n ≤ 1000000) (hcap : n ≤ cap) (hl : l.length = n) (hM : ∀ i (hi : i < l.length), M i = l[i]) :
    Calls Try.prog 42 #[.slice (some ⟨g, 0, none⟩) n cap, .func (.func fn) #[] #[]] w fun e w' => e = .returned (.slice (some ⟨g, 0, none⟩) (keepU l p n).length cap) ∧ (∀ t, t < (keepU l p n).length → w'.cell? ⟨g, t, none⟩ = some (.int .u8 (lat (keepU l p n) t).toNat)) ∧ Below g w w' := by
  have hc := indexfb_any fn p hfn g n cap M w h hn
  have hcf := hfn.1
  have hz5 : ∀ w, (zeroValue 5).run Try.prog w = .ok (.int .u8 0) w := fun w => by simp [go_sem]
  replace hc := Lib.hid hc
  replace hfn := Lib.hid hfn
  go_enter Try.func42, Try.ntmps42
  go_wp2_with fail
  refine hc.out.mono ?_
  rintro e w' ⟨⟨r, rfl, hr⟩, rfl⟩
  rcases hr with ⟨rfl, hno⟩ | ⟨k, hk, rfl, hy, hno⟩
  · have hall : keepU l p n = l := by
      rw [keepU_all (by omega) (fun t ht htn => by rw [← hM t ht]; exact hno t htn), ← hl, List.take_length]
    have HA := Lib.hid (And.intro hall h)
    clear hno hall h
    go_wp2_with fail
    go_ret
    go_light
    obtain ⟨h1, h2⟩ := HA.out
    rw [h1]
    exact ⟨by rw [hl]; rfl, fun t ht => by rw [h2.cell (by omega), hM t ht, lat, List.getD_eq_getElem?_getD, List.getElem?_eq_getElem ht]; rfl, Below.refl _ _⟩
  · have hst : keepU l p (k + 1) = l.take k := by
      rw [keepU_succ (by omega), keepU_all (by omega) (fun t ht htk => by rw [← hM t ht]; exact hno t htk), if_pos (by rw [← hM k (by omega)]; exact hy), List.append_nil]
    have hst0 : (keepU l p (k + 1)).length = k := by rw [hst, List.length_take]; omega
    have HS := Lib.hid (And.intro hst (And.intro hst0 h))
    have hkz : (k : Int) ≠ -1 := by omega
    have hkb : ((k : Int) == -1) = false := beq_eq_false_iff_ne.2 hkz
    clear hno hy hst hst0 h
    go_wp2_with fail
    go_loopg [6, 5] (n - (k + 1)) (fun gg s6 s5 wr => ∃ (i j : Nat) (M' : Nat → UInt8), j ≤ n ∧ gg = n - j ∧ s6 = .int .i64 j ∧ s5 = .int .i64 i ∧ i < j ∧ i = (keepU l p j).length ∧ Bs wr g n M' ∧ (∀ t, t < i → M' t = lat (keepU l p j) t) ∧ (∀ t, j ≤ t → t < n → M' t = M t) ∧ Below g w' wr)
    case atStart =>
      go_light
      obtain ⟨h1, h2, h3⟩ := HS.out
      refine ⟨k, k + 1, M, by omega, by omega, by first | rfl | (congr 1; done) | (congr 1; omega), rfl, by omega, h2.symm, h3, fun t ht => ?_, fun t _ _ => rfl, Below.refl _ _⟩
      rw [h1, hM t (by omega), lat, List.getD_eq_getElem?_getD, List.getElem?_take_of_lt ht, List.getElem?_eq_getElem (by omega)]
      all_goals rfl
    case round =>
      obtain ⟨i, j, M', hj, hg, rfl, rfl, hij, hik, hB, hlow, hhigh, hbl⟩ := hrel
      by_cases hlt : j < n
      · have hjz : (j : Int) < (n : Int) := by omega
        have hiz : (i : Int) < (n : Int) := by omega
        have c1 := hB.cell hlt
        have c2 := hB.cell (i := i) (by omega)
        have f2 := hB.frozen (i := i) (by omega)
        rw [hhigh j (Nat.le_refl _) hlt, hM j (by omega)] at c1
        have hcall := hfn.out.2 l[j] wr
        have hks := keepU_succ (p := p) (show j < l.length by omega)
        obtain ⟨b, hb⟩ : ∃ b, l[j] = b := ⟨_, rfl⟩
        obtain ⟨z, hz⟩ : ∃ z, p b = z := ⟨_, rfl⟩
        rw [hb] at c1 hcall hks
        rw [hz] at hcall hks
        replace hcall := Lib.hid hcall
        have HH := Lib.hid (And.intro hik (And.intro hB (And.intro hlow (And.intro hhigh (And.intro hbl hks)))))
        clear hik hB hlow hhigh hbl hks hb hz
        cases z
        · go_wp2_with (refine hcall.out.mono ?_; rintro e w' ⟨rfl, rfl⟩)
          go_roundg (n - (j + 1))
          case measure => go_light; omega
          case rel =>
            go_light
            obtain ⟨h1, h2, h3, h4, h5, h6⟩ := HH.out
            refine ⟨i + 1, j + 1, _, by omega, by omega, by go_num, by go_num, by omega, by rw [h6]; simp; omega, h2.set i b, fun t ht => ?_, fun t ht ht' => ?_, h5.setCell (Nat.le_refl _) _⟩
            · rw [h6]
              by_cases e : t = i
              · subst e
                rw [if_pos rfl, lat, List.getD_eq_getElem?_getD, List.getElem?_append_right (by omega), h1]
                simp
              · rw [if_neg e, h3 t (by omega), lat, lat, List.getD_eq_getElem?_getD, List.getD_eq_getElem?_getD, List.getElem?_append_left (by omega)]
            · rw [if_neg (by omega)]; exact h4 t (by omega) ht'
        · go_wp2_with (refine hcall.out.mono ?_; rintro e w' ⟨rfl, rfl⟩)
          go_roundg (n - (j + 1))
          case measure => go_light; omega
          case rel =>
            go_light
            obtain ⟨h1, h2, h3, h4, h5, h6⟩ := HH.out
            simp only [if_true, List.append_nil] at h6
            exact ⟨i, j + 1, M', by omega, by omega, by go_num, rfl, by omega, by rw [h6]; exact h1, h2, fun t ht => by rw [h6]; exact h3 t ht, fun t ht ht' => h4 t (by omega) ht', h5⟩
      · have hjn : j = n := by omega
        subst hjn
        have hclr := fun ty => Lib.run_clear_slice (P := Try.prog) wr 46 5 ty (.int .u8 0) Try.underlying46 hz5 rfl rfl g i (j - i) (cap - i) (by omega) (fun t ht => by rw [hB.cell (by omega)]; rfl) (fun t ht => hB.frozen (by omega))
        have HH := Lib.hid (And.intro hik (And.intro hB (And.intro hlow hbl)))
        clear hik hB hlow hhigh hbl
        go_wp2_with fail
        go_ret
        go_light
        obtain ⟨h1, h2, h3, h4⟩ := HH.out
        refine ⟨by rw [← h1]; rfl, fun t ht => ?_, setCells_below (Nat.le_refl _) _ _ _ _ h4⟩
        rw [World.cell?_setCells_out g _ i wr ⟨g, t, none⟩ (fun _ _ => .inl (by show t < i; omega)), h2.cell (by omega), h3 t (by omega)]
/-- a string without its marks -/
def plainS (s : ByteArray) : ByteArray := mkS ((bl s).filter fun c => !decide (kindN c.toNat = 2))
theorem cells_string {w : World} {g n cap : Nat} {l : List UInt8} (hl : l.length = n) (h : ∀ t, t < l.length → w.cell? ⟨g, t, none⟩ = some (.int .u8 (lat l t).toNat)) :
    (convert 46 9 (.slice (some ⟨g, 0, none⟩) n cap)).run Try.prog w = .ok (.string (mkS l)) w := by
  subst hl
  refine run_convert_bytes_back w 46 9 5 ⟨g, 0, none⟩ cap l Try.underlying46 Try.underlying5 Try.underlying9 fun j hj => ?_
  have hadd : (⟨g, 0, none⟩ : Addr).add j = ⟨g, j, none⟩ := by unfold Addr.add; split <;> simp_all
  rw [hadd, h j hj, lat, List.getD_eq_getElem?_getD, List.getElem?_eq_getElem hj]
  rfl
theorem bat_get (s : ByteArray) : ∀ i (hi : i < (bl s).length), bat s i = (bl s)[i] := fun i hi => by
  rw [bat, List.getD_eq_getElem?_getD, List.getElem?_eq_getElem hi, Option.getD_some]
theorem grownCap_ge (w : World) (n : Nat) : n ≤ grownCap w n 0 5 := by
  unfold grownCap
  exact Nat.le_add_right _ _
set_option maxHeartbeats 4000000 in
set_option maxRecDepth 100000 in
theorem plain_any (s : ByteArray) (w : World) (hs : s.size ≤ 1000000) :
    Calls Try.prog 22 #[.string s] w fun e w' => e = .returned (.string (plainS s)) ∧ Below w.heap.size w w' := by
  have hc1 := Lib.run_convert_string_bytes (P := Try.prog) w 9 46 5 s Try.underlying9 Try.underlying46 Try.underlying5
  have hB1 := bytesWorld_below w 5 s
  have hBs := Bs.of w s
  obtain ⟨W, hW⟩ : ∃ W, Lib.bytesWorld w 5 s = W := ⟨_, rfl⟩
  rw [hW] at hB1 hBs hc1
  have hcap := grownCap_ge w s.size
  obtain ⟨cap, hcp⟩ : ∃ x, grownCap w s.size 0 5 = x := ⟨_, rfl⟩
  rw [hcp] at hc1 hcap
  have hd := deletef_any 43 _ says43 w.heap.size s.size cap _ (bl s) W hBs hs hcap (size_bl s) (bat_get s)
  have hk : keepU (bl s) (fun c => decide (kindN c.toNat = 2)) s.size = (bl s).filter fun c => !decide (kindN c.toNat = 2) := by
    unfold keepU; rw [← size_bl, List.take_length]
  rw [hk] at hd
  have H0 := Lib.hid (And.intro hB1 hd)
  clear hB1 hBs hW hcp hd hk
  go_enter Try.func22, Try.ntmps22
  go_wp2_with fail
  refine H0.out.2.mono ?_
  rintro e w' ⟨rfl, hcl, hB⟩
  have hcv := cells_string (cap := cap) rfl hcl
  have HB := Lib.hid (H0.out.1.trans hB)
  clear hcl hB
  go_wp2_with fail
  go_ret
  exact ⟨rfl, HB.out⟩
end Go.Proofs.Ytnlenhhmajecjaa
