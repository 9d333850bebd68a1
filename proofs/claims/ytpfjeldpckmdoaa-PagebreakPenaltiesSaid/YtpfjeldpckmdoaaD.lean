import Derived.Test.YtpfjeldpckmdoaaC
set_option linter.unusedVariables false
set_option linter.unusedSimpArgs false
namespace Go.Proofs.Ytpfjeldpckmdoaa
open Go.RowKit
/-- the slice value at `A` reads as the numbers `l`; its memory lies below block `B` -/
def Ints (w : World) (B : Nat) (A : Option Addr) (l : List Int) : Prop :=
  0 < l.length → ∃ b o, A = some ⟨b, o, none⟩ ∧ b < B ∧ ∀ j, j < l.length → w.cell? ⟨b, o + j, none⟩ = some (.int .i64 (l.getD j 0))
theorem Ints.keep {w w' : World} {B B' : Nat} {A : Option Addr} {l : List Int} (h : Ints w B A l) (hb : Below B w w') (hB : B ≤ B') : Ints w' B' A l := fun hn => by
  obtain ⟨b, o, hA, hb', hc⟩ := h hn
  exact ⟨b, o, hA, by omega, fun j hj => (hb.cell (p := ⟨b, o + j, none⟩) hb').trans (hc j hj)⟩
def IntsV (w : World) (B : Nat) (v : Value) (l : List Int) : Prop := ∃ A c, v = .slice A l.length c ∧ Ints w B A l
theorem IntsV.keep {w w' : World} {B B' : Nat} {v : Value} {l : List Int} (h : IntsV w B v l) (hb : Below B w w') (hB : B ≤ B') : IntsV w' B' v l := by
  obtain ⟨A, c, rfl, hs⟩ := h
  exact ⟨A, c, rfl, hs.keep hb hB⟩
def Rows2 (w : World) (B : Nat) (A : Option Addr) (L : List (List Int)) : Prop :=
  0 < L.length → ∃ b o, A = some ⟨b, o, none⟩ ∧ b < B ∧ ∀ j, j < L.length → ∃ v, w.cell? ⟨b, o + j, none⟩ = some v ∧ IntsV w B v (L.getD j [])
theorem Rows2.keep {w w' : World} {B B' : Nat} {A : Option Addr} {L : List (List Int)} (h : Rows2 w B A L) (hb : Below B w w') (hB : B ≤ B') : Rows2 w' B' A L := fun hn => by
  obtain ⟨b, o, hA, hb', hc⟩ := h hn
  refine ⟨b, o, hA, by omega, fun j hj => ?_⟩
  obtain ⟨v, h1, h2⟩ := hc j hj
  exact ⟨v, (hb.cell (p := ⟨b, o + j, none⟩) hb').trans h1, h2.keep hb hB⟩
/-- the slices of a page problem -/
structure PIn (w : World) (B : Nat) (A1 A2 A3 : Option Addr) (p : PP) : Prop where
  i1 : Ints w B A1 p.lines
  i2 : Rows2 w B A2 p.notes
  i3 : Ints w B A3 p.pens
theorem PIn.keep {w w' : World} {B B' : Nat} {A1 A2 A3 : Option Addr} {p : PP} (h : PIn w B A1 A2 A3 p) (hb : Below B w w') (hB : B ≤ B') : PIn w' B' A1 A2 A3 p :=
  ⟨h.i1.keep hb hB, h.i2.keep hb hB, h.i3.keep hb hB⟩
theorem PIn.next {w w' : World} {A1 A2 A3 : Option Addr} {p : PP} (h : PIn w w.heap.size A1 A2 A3 p) (hb : Below w.heap.size w w') : PIn w' w'.heap.size A1 A2 A3 p := h.keep hb hb.size
def lenB (x : Int) : Bool := decide (0 ≤ x) && decide (x ≤ 1073741824)
def badL (x : Int) : Bool := !lenB x
def badP (x : Int) : Bool := decide (x < 0) || decide (10000 < x)
theorem length_any (x : Int) (w : World) : Calls Try.prog 28 #[.int .i64 x] w fun e w' => e = .returned (.bool (lenB x)) ∧ w' = w := by
  have h0 : lenB x = (decide (0 ≤ x) && decide (x ≤ 1073741824)) := rfl
  rw [h0]
  clear h0
  by_cases h : 0 ≤ x
  · go_enter Try.func28, Try.ntmps28
    go_wp2_with fail
    go_ret
    exact ⟨ret_bool (by simp [h]), rfl⟩
  · have hd : decide (0 ≤ x) = false := by simpa using h
    go_enter Try.func28, Try.ntmps28
    go_wp2_with fail
    go_ret
    exact ⟨ret_bool (by simp [hd]), rfl⟩
/-- a function value that says `q` of a number and only reads -/
def SaysI (fn : Nat) (q : Int → Bool) : Prop := (∀ args w, (callFunc fn args).run Try.prog w = .ok (.enter fn args) w) ∧ ∀ (x : Int) (w : World), Calls Try.prog fn #[.int .i64 x] w fun e w' => e = .returned (.bool (q x)) ∧ w' = w
theorem says27 : SaysI 27 badL := by
  refine ⟨fun args w => by simp [go_sem], fun x w => ?_⟩
  have hl := length_any x w
  have hb : badL x = !lenB x := rfl
  rw [hb]
  obtain ⟨b, hbb⟩ : ∃ b, lenB x = b := ⟨_, rfl⟩
  simp only [hbb] at hl ⊢
  replace hl := Lib.hid hl
  clear hb hbb
  go_enter Try.func27, Try.ntmps27
  go_wp2_with (refine hl.out.mono ?_; rintro e w' ⟨rfl, rfl⟩)
  go_ret
  exact ⟨rfl, rfl⟩
theorem says32 : SaysI 32 badP := by
  refine ⟨fun args w => by simp [go_sem], fun x w => ?_⟩
  have hb : badP x = (decide (x < 0) || decide (10000 < x)) := rfl
  rw [hb]
  clear hb
  by_cases h : x < 0
  · go_enter Try.func32, Try.ntmps32
    go_wp2_with fail
    go_ret
    exact ⟨ret_bool (by simp [h]), rfl⟩
  · have hd : decide (x < 0) = false := by simpa using h
    go_enter Try.func32, Try.ntmps32
    go_wp2_with fail
    go_ret
    exact ⟨ret_bool (by simp [hd]), rfl⟩
set_option maxHeartbeats 4000000 in
set_option maxRecDepth 100000 in
theorem indexf_any (fn : Nat) (q : Int → Bool) (hfn : SaysI fn q) (A : Option Addr) (cap : Nat) (l : List Int) (w : World) (B : Nat) (h : Ints w B A l) (hn : l.length ≤ 1000000) :
    Calls Try.prog 35 #[.slice A l.length cap, .func (.func fn) #[] #[]] w fun e w' => (∃ r : Int, e = .returned (.int .i64 r) ∧ decide (0 ≤ r) = l.any q) ∧ w' = w := by
  have hcf := hfn.1
  replace hfn := Lib.hid hfn
  replace h := Lib.hid h
  go_enter Try.func35, Try.ntmps35
  go_wp2_with fail
  go_loopg [8] (l.length) (fun gg s8 wr => ∃ i : Nat, i ≤ l.length ∧ gg = l.length - i ∧ s8 = .int .i64 i ∧ wr = w ∧ ∀ j, j < i → q (l.getD j 0) = false)
  case atStart => exact ⟨0, by omega, by omega, rfl, rfl, fun j hj => absurd hj (Nat.not_lt_zero _)⟩
  case round =>
    obtain ⟨i, hi, hg, rfl, rfl, hno⟩ := hrel
    by_cases hlt : i < l.length
    · have hltz : (i : Int) < (l.length : Int) := by omega
      obtain ⟨b, o, rfl, hb, hc⟩ := h.out (by omega)
      have c1 := hc i hlt
      have hmem : l.getD i 0 ∈ l := by rw [List.getD_eq_getElem?_getD, List.getElem?_eq_getElem hlt]; exact List.getElem_mem hlt
      have hcall := fun W => hfn.out.2 (l.getD i 0) W
      have hany : q (l.getD i 0) = true → l.any q = true := fun e => List.any_eq_true.2 ⟨_, hmem, e⟩
      have hstep : q (l.getD i 0) = false → ∀ j, j < i + 1 → q (l.getD j 0) = false := fun e j hj => by
        by_cases ej : j = i
        · subst ej; exact e
        · exact hno j (by omega)
      obtain ⟨x, hx⟩ : ∃ x, l.getD i 0 = x := ⟨_, rfl⟩
      rw [hx] at c1 hany hstep
      simp only [hx] at hcall
      obtain ⟨z, hz⟩ : ∃ z, q x = z := ⟨_, rfl⟩
      simp only [hz] at hcall hany hstep
      replace hcall := Lib.hid hcall
      have HH := Lib.hid (And.intro hany hstep)
      clear hno hx hz hc hmem hany hstep
      cases z
      · go_wp2_with (refine (hcall.out _).mono ?_; rintro e w1 ⟨rfl, rfl⟩)
        go_roundg (l.length - (i + 1))
        case measure => go_light; omega
        case rel =>
          go_light
          exact ⟨i + 1, by omega, by omega, by go_num, rfl, HH.out.2 trivial⟩
      · go_wp2_with (refine (hcall.out _).mono ?_; rintro e w1 ⟨rfl, rfl⟩)
        go_ret
        go_light
        exact ⟨⟨_, rfl, by rw [HH.out.1 trivial]; simp⟩, rfl⟩
    · have hi' : i = l.length := by omega
      have HH := Lib.hid (And.intro hno hi')
      clear hno hi'
      go_wp2_with fail
      go_ret
      go_light
      refine ⟨⟨_, rfl, ?_⟩, rfl⟩
      symm
      rw [show decide ((0 : Int) ≤ -1) = false from rfl, List.any_eq_false]
      intro x hx
      obtain ⟨j, hj, rfl⟩ := List.getElem_of_mem hx
      have := HH.out.1 j (by have := HH.out.2; omega)
      rw [List.getD_eq_getElem?_getD, List.getElem?_eq_getElem hj] at this
      simpa using this
theorem containsf_any (fn : Nat) (q : Int → Bool) (hfn : SaysI fn q) (A : Option Addr) (cap : Nat) (l : List Int) (w : World) (B : Nat) (h : Ints w B A l) (hn : l.length ≤ 1000000) (r : Bool) (hr : l.any q = r) :
    Calls Try.prog 29 #[.slice A l.length cap, .func (.func fn) #[] #[]] w fun e w' => e = .returned (.bool r) ∧ w' = w := by
  subst hr
  have hc := indexf_any fn q hfn A cap l w B h hn
  replace hc := Lib.hid hc
  go_enter Try.func29, Try.ntmps29
  go_wp2_with fail
  refine hc.out.mono ?_
  rintro e w' ⟨⟨r, rfl, hr⟩, rfl⟩
  have HB := Lib.hid hr
  clear hr
  go_wp2_with fail
  go_ret
  go_light
  exact ⟨ret_bool HB.out, rfl⟩
/-- the closure of a row: whether one of its numbers is no length -/
theorem row31 (pa : Addr) (A : Option Addr) (cap : Nat) (l : List Int) (w : World) (B : Nat) (h : Ints w B A l) (hn : l.length ≤ 1000000) (hpa : w.cell? pa = some (.func (.func 27) #[] #[])) :
    Calls Try.prog 31 #[.slice A l.length cap, .pointer (some pa)] w fun e w' => e = .returned (.bool (l.any badL)) ∧ w' = w := by
  have hc := containsf_any 27 badL says27 A cap l w B h hn _ rfl
  replace hc := Lib.hid hc
  go_enter Try.func31, Try.ntmps31
  go_wp2_with (refine hc.out.mono ?_; rintro e w' ⟨rfl, rfl⟩)
  go_ret
  exact ⟨rfl, rfl⟩
set_option maxHeartbeats 4000000 in
set_option maxRecDepth 100000 in
theorem indexr_any (pa : Addr) (A : Option Addr) (cap : Nat) (L : List (List Int)) (w : World) (B : Nat) (h : Rows2 w B A L) (hn : L.length ≤ 1000000) (hz : ∀ j, j < L.length → (L.getD j []).length ≤ 1000000) (hpa : w.cell? pa = some (.func (.func 27) #[] #[])) :
    Calls Try.prog 36 #[.slice A L.length cap, .func (.func 31) #[] #[.pointer (some pa)]] w fun e w' => (∃ r : Int, e = .returned (.int .i64 r) ∧ decide (0 ≤ r) = L.any (fun l => l.any badL)) ∧ w' = w := by
  have hcf : ∀ args w, (callFunc 31 args).run Try.prog w = .ok (.enter 31 args) w := fun args w => by simp [go_sem]
  replace h := Lib.hid h
  replace hpa := Lib.hid hpa
  replace hz := Lib.hid hz
  go_enter Try.func36, Try.ntmps36
  go_wp2_with fail
  go_loopg [8] (L.length) (fun gg s8 wr => ∃ i : Nat, i ≤ L.length ∧ gg = L.length - i ∧ s8 = .int .i64 i ∧ wr = w ∧ ∀ j, j < i → (L.getD j []).any badL = false)
  case atStart => exact ⟨0, by omega, by omega, rfl, rfl, fun j hj => absurd hj (Nat.not_lt_zero _)⟩
  case round =>
    obtain ⟨i, hi, hg, rfl, rfl, hno⟩ := hrel
    by_cases hlt : i < L.length
    · have hltz : (i : Int) < (L.length : Int) := by omega
      obtain ⟨b, o, rfl, hb, hc⟩ := h.out (by omega)
      obtain ⟨v, c1, A', c', rfl, hI⟩ := hc i hlt
      have hmem : L.getD i [] ∈ L := by rw [List.getD_eq_getElem?_getD, List.getElem?_eq_getElem hlt]; exact List.getElem_mem hlt
      have hcall := row31 pa A' c' _ wr B hI (hz.out i hlt) hpa.out
      have hany : (L.getD i []).any badL = true → L.any (fun l => l.any badL) = true := fun e => List.any_eq_true.2 ⟨_, hmem, e⟩
      have hstep : (L.getD i []).any badL = false → ∀ j, j < i + 1 → (L.getD j []).any badL = false := fun e j hj => by
        by_cases ej : j = i
        · subst ej; exact e
        · exact hno j (by omega)
      obtain ⟨z, hzz⟩ : ∃ z, (L.getD i []).any badL = z := ⟨_, rfl⟩
      simp only [hzz] at hcall hany hstep
      obtain ⟨m, hm⟩ : ∃ m, (L.getD i []).length = m := ⟨_, rfl⟩
      simp only [hm] at hcall c1
      replace hcall := Lib.hid hcall
      have HH := Lib.hid (And.intro hany hstep)
      clear hno hzz hm hc hmem hany hstep hI
      cases z
      · go_wp2_with (refine hcall.out.mono ?_; rintro e w1 ⟨rfl, rfl⟩)
        go_roundg (L.length - (i + 1))
        case measure => go_light; omega
        case rel =>
          go_light
          exact ⟨i + 1, by omega, by omega, by go_num, rfl, HH.out.2 trivial⟩
      · go_wp2_with (refine hcall.out.mono ?_; rintro e w1 ⟨rfl, rfl⟩)
        go_ret
        go_light
        exact ⟨⟨_, rfl, by rw [HH.out.1 trivial]; simp⟩, rfl⟩
    · have hi' : i = L.length := by omega
      have HH := Lib.hid (And.intro hno hi')
      clear hno hi'
      go_wp2_with fail
      go_ret
      go_light
      refine ⟨⟨_, rfl, ?_⟩, rfl⟩
      symm
      rw [show decide ((0 : Int) ≤ -1) = false from rfl, List.any_eq_false]
      intro x hx
      obtain ⟨j, hj, rfl⟩ := List.getElem_of_mem hx
      have := HH.out.1 j (by have := HH.out.2; omega)
      rw [List.getD_eq_getElem?_getD, List.getElem?_eq_getElem hj] at this
      simpa using this
theorem containsr_any (pa : Addr) (A : Option Addr) (cap : Nat) (L : List (List Int)) (w : World) (B : Nat) (h : Rows2 w B A L) (hn : L.length ≤ 1000000) (hz : ∀ j, j < L.length → (L.getD j []).length ≤ 1000000) (hpa : w.cell? pa = some (.func (.func 27) #[] #[])) (r : Bool) (hr : L.any (fun l => l.any badL) = r) :
    Calls Try.prog 30 #[.slice A L.length cap, .func (.func 31) #[] #[.pointer (some pa)]] w fun e w' => e = .returned (.bool r) ∧ w' = w := by
  subst hr
  have hc := indexr_any pa A cap L w B h hn hz hpa
  replace hc := Lib.hid hc
  go_enter Try.func30, Try.ntmps30
  go_wp2_with fail
  refine hc.out.mono ?_
  rintro e w' ⟨⟨r, rfl, hr⟩, rfl⟩
  have HB := Lib.hid hr
  clear hr
  go_wp2_with fail
  go_ret
  go_light
  exact ⟨ret_bool HB.out, rfl⟩
end Go.Proofs.Ytpfjeldpckmdoaa
