import Derived.Test.YtnlenhhmajecjaaAA
import Derived.Test.YtnlenhhmajecjaaK
import Derived.Test.YtnlenhhmajecjaaSh
set_option linter.unusedVariables false
set_option linter.unusedSimpArgs false
namespace Go.Proofs.Ytnlenhhmajecjaa
open Go.RowKit
/-- a function value that says `p` of a string and makes memory -/
def SaysS (fn : Nat) (p : ByteArray → Bool) : Prop := (∀ args w, (callFunc fn args).run Try.prog w = .ok (.enter fn args) w) ∧ ∀ (c : ByteArray) (w : World), c.size ≤ 1000000 → Calls Try.prog fn #[.string c] w fun e w' => e = .returned (.bool (p c)) ∧ Below w.heap.size w w'
theorem says36 : SaysS 36 (fun c => decide ((plainS c).size ≠ 1)) := by
  refine ⟨fun args w => by simp [go_sem], fun c w hc => ?_⟩
  have hp := plain_any c w hc
  obtain ⟨p, hpp⟩ : ∃ p, plainS c = p := ⟨_, rfl⟩
  simp only [hpp] at hp ⊢
  replace hp := Lib.hid hp
  clear hpp
  go_enter Try.func36, Try.ntmps36
  go_wp2_with (refine hp.out.mono ?_; rintro e w1 ⟨rfl, hB⟩)
  go_ret
  exact ⟨ret_bool (by rw [Bool.eq_iff_iff]; simp; omega), hB⟩
set_option maxHeartbeats 4000000 in
set_option maxRecDepth 100000 in
theorem indexfs_any (fn : Nat) (p : ByteArray → Bool) (hfn : SaysS fn p) (A : Option Addr) (cap : Nat) (l : List ByteArray) (w : World) (h : Strs w w.heap.size A l) (hsz : ∀ x ∈ l, x.size ≤ 1000000) (hn : l.length ≤ 1000000) :
    Calls Try.prog 54 #[.slice A l.length cap, .func (.func fn) #[] #[]] w fun e w' => (∃ r : Int, e = .returned (.int .i64 r) ∧ decide (0 ≤ r) = l.any p) ∧ Below w.heap.size w w' := by
  have hcf := hfn.1
  replace hfn := Lib.hid hfn
  replace hsz := Lib.hid hsz
  replace h := Lib.hid h
  go_enter Try.func54, Try.ntmps54
  go_wp2_with fail
  go_loopg [8] (l.length) (fun gg s8 wr => ∃ i : Nat, i ≤ l.length ∧ gg = l.length - i ∧ s8 = .int .i64 i ∧ Below w.heap.size w wr ∧ ∀ j, j < i → p (l.getD j ByteArray.empty) = false)
  case atStart => exact ⟨0, by omega, by omega, rfl, Below.refl _ _, fun j hj => absurd hj (Nat.not_lt_zero _)⟩
  case round =>
    obtain ⟨i, hi, hg, rfl, hbl, hno⟩ := hrel
    by_cases hlt : i < l.length
    · have hltz : (i : Int) < (l.length : Int) := by omega
      obtain ⟨b, o, rfl, hb, hc⟩ := (h.out.below hbl) (by omega)
      have c1 := hc i hlt
      have hmem : l.getD i ByteArray.empty ∈ l := by rw [List.getD_eq_getElem?_getD, List.getElem?_eq_getElem hlt]; exact List.getElem_mem hlt
      have hcall := fun W => hfn.out.2 (l.getD i ByteArray.empty) W (hsz.out _ hmem)
      have hany : p (l.getD i ByteArray.empty) = true → l.any p = true := fun e => List.any_eq_true.2 ⟨_, hmem, e⟩
      have hstep : p (l.getD i ByteArray.empty) = false → ∀ j, j < i + 1 → p (l.getD j ByteArray.empty) = false := fun e j hj => by
        by_cases ej : j = i
        · subst ej; exact e
        · exact hno j (by omega)
      obtain ⟨x, hx⟩ : ∃ x, l.getD i ByteArray.empty = x := ⟨_, rfl⟩
      rw [hx] at c1 hany hstep
      simp only [hx] at hcall
      obtain ⟨z, hz⟩ : ∃ z, p x = z := ⟨_, rfl⟩
      simp only [hz] at hcall hany hstep
      replace hcall := Lib.hid hcall
      have HH := Lib.hid (And.intro hany (And.intro hstep hbl))
      clear hno hx hz hc hmem hany hstep hbl
      cases z
      · go_wp2_with fail
        refine (hcall.out _).mono ?_
        rintro e w1 ⟨rfl, hB⟩
        go_wp2_with fail
        go_roundg (l.length - (i + 1))
        case measure => go_light; omega
        case rel =>
          go_light
          exact ⟨i + 1, by omega, by omega, by go_num, bst HH.out.2.2 hB, HH.out.2.1 trivial⟩
      · go_wp2_with fail
        refine (hcall.out _).mono ?_
        rintro e w1 ⟨rfl, hB⟩
        go_wp2_with fail
        go_ret
        go_light
        exact ⟨⟨_, rfl, by rw [HH.out.1 trivial]; simp⟩, bst HH.out.2.2 hB⟩
    · have hi' : i = l.length := by omega
      have HH := Lib.hid (And.intro hno (And.intro hi' hbl))
      clear hno hi' hbl
      go_wp2_with fail
      go_ret
      go_light
      refine ⟨⟨_, rfl, ?_⟩, HH.out.2.2⟩
      symm
      rw [show decide ((0 : Int) ≤ -1) = false from rfl, List.any_eq_false]
      intro x hx
      obtain ⟨j, hj, rfl⟩ := List.getElem_of_mem hx
      have := HH.out.1 j (by have := HH.out.2.1; omega)
      rw [List.getD_eq_getElem?_getD, List.getElem?_eq_getElem hj] at this
      simpa using this
theorem containsfs_any (fn : Nat) (p : ByteArray → Bool) (hfn : SaysS fn p) (A : Option Addr) (cap : Nat) (l : List ByteArray) (w : World) (h : Strs w w.heap.size A l) (hsz : ∀ x ∈ l, x.size ≤ 1000000) (hn : l.length ≤ 1000000) :
    Calls Try.prog 35 #[.slice A l.length cap, .func (.func fn) #[] #[]] w fun e w' => e = .returned (.bool (l.any p)) ∧ Below w.heap.size w w' := by
  have hc := indexfs_any fn p hfn A cap l w h hsz hn
  replace hc := Lib.hid hc
  go_enter Try.func35, Try.ntmps35
  go_wp2_with fail
  refine hc.out.mono ?_
  rintro e w' ⟨⟨r, rfl, hr⟩, hB⟩
  have HB := Lib.hid hr
  clear hr
  go_wp2_with fail
  go_ret
  go_light
  exact ⟨ret_bool HB.out, hB⟩
theorem containsfs_v (fn : Nat) (p : ByteArray → Bool) (hfn : SaysS fn p) (v : Value) (l : List ByteArray) (w : World) (h : StrV w w.heap.size v l) (hsz : ∀ x ∈ l, x.size ≤ 1000000) (hn : l.length ≤ 1000000) (r : Bool) (hr : l.any p = r) :
    Calls Try.prog 35 #[v, .func (.func fn) #[] #[]] w fun e w' => e = .returned (.bool r) ∧ Below w.heap.size w w' := by
  obtain ⟨A, c, rfl, hs⟩ := h
  rw [← hr]
  exact containsfs_any fn p hfn A c l w hs hsz hn
theorem join_v (v : Value) (cap : Nat) (l : List ByteArray) (w : World) (base : Nat) (h : w.ownsRow base 9 1 v l.length (l.map Value.string)) (hn : l.length ≤ 1000000) (r : ByteArray) (hr : Lib.join (l.map (·.data.toList)) (ByteArray.mk #[]).data.toList = bl r) (hr2 : r.size ≤ 1000000) :
    Calls Try.prog 33 #[v, .string ⟨#[]⟩] w fun e w' => e = .returned (.string r) ∧ Below w.heap.size w w' := by
  rcases own_forms h with ⟨rfl, h0, _⟩ | ⟨g, c, rfl, hg1, hg2, hcap⟩
  · have hl : l = [] := List.eq_nil_of_length_eq_zero h0
    subst hl
    have e : r = ⟨#[]⟩ := by
      apply bl_inj; rw [← hr]; rfl
    subst e
    refine (Try.strings_Join_none none 0 _ w).mono ?_
    rintro e w' ⟨rfl, rfl⟩
    exact ⟨rfl, Below.refl _ _⟩
  · have hz := size_bl r
    refine (Try.strings_Join g 0 c l ⟨#[]⟩ w (fun j x hj => ?_) hg2 (by omega) hcap (by rw [hr]; omega)).mono ?_
    · have hlt : j < l.length := (List.getElem?_eq_some_iff.1 hj).1
      rw [Nat.zero_add, (own_has h).cell (i := j) (by omega), List.getD_eq_getElem?_getD, List.getElem?_map, hj]
      rfl
    · rintro e w' ⟨rfl, hB⟩
      refine ⟨?_, hB⟩
      rw [hr]
      have : (⟨(bl r).toArray⟩ : ByteArray) = r := by simp [bl]
      rw [this]
theorem contains_v (v : Value) (l : List ByteArray) (w : World) (base : Nat) (h : w.ownsRow base 9 1 v l.length (l.map Value.string)) (hn : l.length ≤ 1000000) (x : ByteArray) (r : Bool) (hr : Lib.containsS l x = r) :
    Calls Try.prog 34 #[v, .string x] w fun e w' => e = .returned (.bool r) ∧ w' = w := by
  rcases own_forms h with ⟨rfl, h0, _⟩ | ⟨g, c, rfl, hg1, hg2, hcap⟩
  · have hl : l = [] := List.eq_nil_of_length_eq_zero h0
    subst hl
    have e : r = false := by rw [← hr]; rfl
    subst e
    exact Try.slices_Contains_string_empty none 0 x w
  · have := Try.slices_Contains_string g 0 l.length c l x w (Nat.le_refl _) (by omega) (fun j hj => by
      rw [Nat.zero_add, (own_has h).cell (i := j) (by omega), List.getD_eq_getElem?_getD, List.getElem?_map, List.getElem?_eq_getElem hj, List.getD_eq_getElem?_getD, List.getElem?_eq_getElem hj]
      rfl)
    rw [List.take_length, hr] at this
    exact this
theorem own_keep {W W' : World} {b : Nat} {e : TypeId} {size n : Nat} {v : Value} {xs : List Value} (h : W.ownsRow b e size v n xs) (hb : Below W.heap.size W W') : W'.ownsRow b e size v n xs := by
  obtain ⟨hl, h2⟩ := h
  refine ⟨hl, ?_⟩
  rcases h2 with h | ⟨g, cap, cur, hv, hg, hh, rest⟩
  · exact .inl h
  · exact .inr ⟨g, cap, cur, hv, hg, (hb.block g (Array.getElem?_eq_some_iff.1 hh).1).trans hh, rest⟩
theorem own_len {W : World} {b : Nat} {e : TypeId} {size n : Nat} {v : Value} {xs : List Value} (h : W.ownsRow b e size v n xs) : ∃ A c, v = .slice A n c := by
  rcases own_forms h with ⟨rfl, rfl, _⟩ | ⟨g, cap, rfl, _⟩
  · exact ⟨_, _, rfl⟩
  · exact ⟨_, _, rfl⟩
set_option maxHeartbeats 8000000 in
set_option maxRecDepth 100000 in
theorem clusters_walk (haw : Awake) (s : ByteArray) (w : World) (hs : s.size ≤ 9223372036854775807) :
    Calls Try.prog 9 #[.string s] w fun e w' => e = .returned (.bool true) ∧ Below w.heap.size w w' := by
  replace haw := Lib.hid haw
  by_cases h80 : 80 < s.size
  · have g1 : decide ((80 : Int) < (s.size : Int)) = true := by simp; omega
    go_enter Try.func9, Try.ntmps9
    go_wp2_with fail
    refine (haw.out _).mono ?_
    rintro e w9 ⟨rfl, hB9⟩
    go_wp2_with fail
    go_ret
    exact ⟨rfl, hB9⟩
  · have g1 : decide ((80 : Int) < (s.size : Int)) = false := by simp; omega
    have hsz : s.size ≤ 65536 := by omega
    have c1 := fun W => clusters_any s W hsz
    have c2 := fun W => check_any s W hs
    have c3 := fun W => plain_any s W (by omega)
    have hj := cl_join s
    have he := cl_empty s
    have hin : ∀ x ∈ clR s, x.size ≤ 1000000 := fun x hx => by have := cl_size hx; omega
    have hlen : (clR s).length ≤ 1000000 := by have := clusters_len s; rw [clR, List.length_map]; omega
    have hcnt := fun h => cl_count (s := s) hsz h
    have hany := fun h => cl_any (s := s) hsz h
    obtain ⟨L, hL⟩ : ∃ x, clR s = x := ⟨_, rfl⟩
    obtain ⟨p, hp⟩ : ∃ x, plainS s = x := ⟨_, rfl⟩
    obtain ⟨k, hk⟩ : ∃ x, chkR s = x := ⟨_, rfl⟩
    simp only [hL, hp, hk] at c1 c2 c3 hj he hin hlen hcnt hany
    have e1 : (s.toList != s.toList) = false := by simp
    have HC := Lib.hid (And.intro c1 (And.intro c2 (And.intro c3 (And.intro hj (And.intro he (And.intro hin (And.intro hlen (And.intro hcnt hany))))))))
    have hss := Lib.hid hsz
    clear c1 c2 c3 hj he hin hlen hcnt hany hL hp hk
    by_cases h0 : k = 0
    · obtain ⟨hcnt, hany⟩ := HC.out.2.2.2.2.2.2.2
      have hcnt' := hcnt h0
      have hany' := hany h0
      have HN := Lib.hid (And.intro hcnt' hany')
      have e3 : ((p.size : Int) == (p.size : Int)) = true := by simp
      subst h0
      clear hcnt hany hcnt' hany'
      go_enter Try.func9, Try.ntmps9
      go_wp2_with fail
      refine (HC.out.1 _).mono ?_
      rintro e w1 ⟨v, rfl, hrow, hB⟩
      have HV := Lib.hid hrow
      clear hrow
      go_wp2_with fail
      refine (join_v v 0 L _ _ HV.out HC.out.2.2.2.2.2.2.1 s HC.out.2.2.2.1 (by omega)).mono ?_
      rintro e w2 ⟨rfl, hC⟩
      replace hB := bst hB hC
      have HV2 := Lib.hid (own_keep HV.out hC)
      clear hC HV
      go_wp2_with fail
      refine (contains_v v L _ _ HV2.out HC.out.2.2.2.2.2.2.1 _ false HC.out.2.2.2.2.1).mono ?_
      rintro e w3 ⟨rfl, rfl⟩
      go_wp2_with fail
      refine (HC.out.2.1 _).mono ?_
      rintro e w4 ⟨rfl, hC⟩
      replace hB := bst hB hC
      have HV4 := Lib.hid (own_keep HV2.out hC)
      clear hC HV2
      go_wp2_with fail
      refine (containsfs_v 36 _ says36 v L _ (strV_own HV4.out) HC.out.2.2.2.2.2.1 HC.out.2.2.2.2.2.2.1 false HN.out.2).mono ?_
      rintro e w5 ⟨rfl, hC⟩
      replace hB := bst hB hC
      clear hC
      obtain ⟨A, c, hv⟩ := own_len HV4.out
      rw [HN.out.1] at hv
      subst hv
      clear HV4
      go_wp2_with fail
      refine (HC.out.2.2.1 _).mono ?_
      rintro e w6 ⟨rfl, hC⟩
      replace hB := bst hB hC
      clear hC
      go_wp2_with fail
      refine (haw.out _).mono ?_
      rintro e w9 ⟨rfl, hB9⟩
      go_wp2_with fail
      go_ret
      exact ⟨rfl, bst hB hB9⟩
    · have g0 : ((k : Int) != 0) = true := by simp; omega
      go_enter Try.func9, Try.ntmps9
      go_wp2_with fail
      refine (HC.out.1 _).mono ?_
      rintro e w1 ⟨v, rfl, hrow, hB⟩
      have HV := Lib.hid hrow
      clear hrow
      go_wp2_with fail
      refine (join_v v 0 L _ _ HV.out HC.out.2.2.2.2.2.2.1 s HC.out.2.2.2.1 (by omega)).mono ?_
      rintro e w2 ⟨rfl, hC⟩
      replace hB := bst hB hC
      have HV2 := Lib.hid (own_keep HV.out hC)
      clear hC HV
      go_wp2_with fail
      refine (contains_v v L _ _ HV2.out HC.out.2.2.2.2.2.2.1 _ false HC.out.2.2.2.2.1).mono ?_
      rintro e w3 ⟨rfl, rfl⟩
      go_wp2_with fail
      refine (HC.out.2.1 _).mono ?_
      rintro e w4 ⟨rfl, hC⟩
      replace hB := bst hB hC
      have HV4 := Lib.hid (own_keep HV2.out hC)
      clear hC HV2
      go_wp2_with fail
      refine (haw.out _).mono ?_
      rintro e w9 ⟨rfl, hB9⟩
      go_wp2_with fail
      go_ret
      exact ⟨rfl, bst hB hB9⟩
end Go.Proofs.Ytnlenhhmajecjaa
