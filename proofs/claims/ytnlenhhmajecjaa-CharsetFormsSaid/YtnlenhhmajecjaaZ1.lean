import Derived.Test.YtnlenhhmajecjaaZ
set_option linter.unusedVariables false
set_option linter.unusedSimpArgs false
namespace Go.Proofs.Ytnlenhhmajecjaa
open Go.RowKit
set_option maxHeartbeats 8000000 in
set_option maxRecDepth 100000 in
theorem rclusters_any (s : ByteArray) (w : World) (hs : s.size ≤ 65536) :
    Calls Try.prog 28 #[.string s] w fun e w' => ∃ v, e = .returned v ∧ w'.ownsRow w.heap.size 9 1 v (clR s).length ((clR s).map Value.string) ∧ Below w.heap.size w w' := by
  have h0 : (w.alloc (.cells #[] 9)).ownsRow w.heap.size 9 1 (.slice (some ⟨w.heap.size, 0, none⟩) 0 0) 0 [] :=
    ⟨rfl, .inr ⟨_, 0, _, rfl, Nat.le_refl _, heap_alloc_new _ _, Nat.le_refl _, by decide, rfl, rfl⟩⟩
  replace h0 := Lib.hid h0
  have hr39 := fun W => right39_any s W hs
  replace hr39 := Lib.hid hr39
  go_enter Try.func28, Try.ntmps28
  go_wp2_with fail
  refine (hr39.out _).mono ?_
  rintro e w1 ⟨v4, rfl, hown4, hB4⟩
  have hsz1 : w.heap.size + 1 ≤ w1.heap.size := by have := hB4.size; simp at this; omega
  have hrow : w1.ownsRow w.heap.size 9 1 (.slice (some ⟨w.heap.size, 0, none⟩) 0 0) 0 [] := by
    have e1 : w1.heap[w.heap.size]? = (w.alloc (.cells #[] 9)).heap[w.heap.size]? := hB4.block _ (by simp)
    exact ⟨rfl, .inr ⟨_, 0, _, rfl, Nat.le_refl _, by rw [e1]; exact heap_alloc_new _ _, Nat.le_refl _, by decide, rfl, rfl⟩⟩
  have hB1 : Below w.heap.size w w1 := ((Below.refl _ w).alloc (Nat.le_refl _) _).trans (hB4.mono (by simp))
  have h4 : 0 < s.size → ∃ g4 c4, v4 = .slice (some ⟨g4, 0, none⟩) s.size c4 ∧ g4 < w1.heap.size ∧ w.heap.size < g4 ∧ Has w1 g4 4 s.size (fun j => .bool (rgt s j)) := by
    intro hp
    rcases own_forms hown4 with ⟨_, hz, _⟩ | ⟨g4, c4, rfl, hg1, hg2, _⟩
    · omega
    · refine ⟨g4, c4, rfl, hg2, by simp at hg1; omega, ?_⟩
      have hh := own_has hown4
      rw [Nat.mul_one] at hh
      exact hh.congr fun j hj => by simp [rowB, List.getD_eq_getElem?_getD, hj]
  replace h4 := Lib.hid h4
  have HW := Lib.hid (And.intro hB1 hsz1)
  replace hrow := Lib.hid hrow
  clear hown4 hB4 hsz1 hB1
  go_wp2_with fail
  go_loopg [5, 3] s.size (fun g s5 s3 wr => ∃ (i : Nat) (L : List ByteArray), i ≤ s.size ∧ g = s.size - i ∧ s5 = .int .i64 i ∧ ClI s i L ∧ L.length ≤ i ∧ wr.ownsRow w.heap.size 9 1 s3 L.length (L.map Value.string) ∧ Below w.heap.size w wr ∧ KeepB w.heap.size w1.heap.size w1 wr ∧ OutB w.heap.size w1.heap.size s3)
  case atStart =>
    go_light
    exact ⟨0, [], by omega, by omega, rfl, ClI.start s, by simp, by simpa using hrow.out, HW.out.1, ⟨Nat.le_refl _, fun _ _ _ => rfl⟩, .inl rfl⟩
  case round =>
    obtain ⟨i, L, hi, hg, rfl, hcl, hLi, hown, hbl, hkb, hob⟩ := hrel
    by_cases hlt : i < s.size
    · have hltz : (i : Int) < (s.size : Int) := by omega
      obtain ⟨g4, c4, rfl, hg4, hg4', hh4⟩ := h4.out (by omega)
      have cc := (hkb.cell hg4' hg4).trans (hh4.cell (i := i) hlt)
      have hsl : ∀ W, (Instr.slice 9 (.string s) (some (.int .i64 (i : Int))) (some (.int .i64 ((i : Int) + 1))) none).run Try.prog W = .ok (.string (s.extract i (i + 1))) W := fun W => by
        have h := run_slice_string (P := Try.prog) W 9 s .i64 .i64 (i : Int) ((i : Int) + 1) Try.underlying9 (by omega) (by omega) (by omega)
        have e1 : (i : Int).toNat = i := by omega
        have e2 : ((i : Int) + 1).toNat = i + 1 := by omega
        rw [e1, e2] at h
        exact h
      have hxz : (s.extract i (i + 1)).size ≤ 65536 := by rw [ByteArray.size_extract]; omega
      obtain ⟨r, hr⟩ : ∃ r, rgt s i = r := ⟨_, rfl⟩
      have hjoin := fun h => hcl.join hlt h
      have hnext := fun h => hcl.next hlt h
      rw [hr] at cc hjoin hnext
      obtain ⟨x, hx⟩ : ∃ x, s.extract i (i + 1) = x := ⟨_, rfl⟩
      rw [hx] at hjoin hnext hxz
      simp only [hx] at hsl
      clear hx hr hh4
      cases r
      · have HH := Lib.hid (And.intro (hnext rfl) (And.intro hown (And.intro hbl (And.intro hkb hob))))
        clear hjoin hnext hown hbl hkb hob hcl
        go_wp2_with (at_builtin; refine app_at _ rfl _ _ 31 9 rfl (.string ⟨#[]⟩) 1 16 Try.underlying31 info9 rfl (by decide) w.heap.size _ L.length (L.map Value.string) rfl HH.out.2.1 1 1 _ rfl rfl (by simp [Value.oneCell']) (by unfold maxLen; omega) (by omega) (by exact HH.out.2.2.1.size) ?_; intro v' w2 hown' hgrow hat)
        go_roundg (s.size - (i + 1))
        case measure => go_light; omega
        case rel =>
          go_light
          obtain ⟨q1, q2, q3, q4, q5⟩ := HH.out
          exact ⟨i + 1, L ++ [x], by omega, by omega, by go_num, q1, by simp; omega, by simpa using hown', app_below q3 q3.size q2 hgrow, q4.app q5 hgrow, q5.app q4.1 hat⟩
      · obtain ⟨L0, c, rfl, hcz', hnew⟩ := hjoin rfl
        rcases own_forms hown with ⟨_, hbad, _⟩ | ⟨g3, cap3, rfl, hg31, hg32, hcap3⟩
        · simp at hbad
        · have hlen : (L0 ++ [c]).length = L0.length + 1 := by simp
          have hcz : c.size ≤ 65536 := by omega
          have c3 := (own_has hown).cell (i := L0.length) (by simp)
          have f3 := (own_has hown).frozen L0.length
          have hgz : ((L0 ++ [c]).map Value.string).getD L0.length undef = .string c := by simp [List.getD_eq_getElem?_getD]
          rw [hgz] at c3
          have hadd : ∀ W, (Op.stringOp .add c x).run Try.prog W = .ok (.string (c ++ x)) W := fun W => run_string_add_sum W c x (by omega)
          simp only [hlen] at hown hob hLi hcap3 ⊢
          have HH := Lib.hid (And.intro hnew (And.intro hown (And.intro hbl (And.intro hkb hob))))
          clear hjoin hnext hown hbl hkb hob hcl hnew hgz hlen
          obtain ⟨m, hm⟩ : ∃ m, L0.length = m := ⟨_, rfl⟩
          rw [hm] at hLi hcap3 c3 f3
          simp only [hm]
          replace hm := Lib.hid hm
          have hm0 : (0 : Int) ≤ (m : Int) := by omega
          have hm1 : (m : Int) < (m : Int) + 1 := by omega
          go_wp2_with fail
          go_region
          all_goals go_wp2_with fail
          go_roundg (s.size - (i + 1))
          case measure => go_light; omega
          case rel =>
            go_light
            obtain ⟨q1, q2, q3, q4, q5⟩ := HH.out
            have e := hm.out
            have q2' := own_last (d := c ++ x) q2
            rw [e] at q2' q5
            refine ⟨i + 1, L0 ++ [c ++ x], by omega, by omega, by go_num, q1, by simp; omega, ?_, ?_, ?_, ?_⟩
            · rw [show (L0 ++ [c ++ x]).length = m + 1 by simp [e]]; exact q2'
            · exact (q3.setCell (p := ⟨g3, m, none⟩) hg31 _).drew
            · exact q4.set q5
            · exact q5
    · have hi' : i = s.size := by omega
      subst hi'
      have hd := hcl.done
      have HH := Lib.hid (And.intro hd (And.intro hown hbl))
      clear hcl hd hown hbl hkb hob
      go_wp2_with fail
      go_ret
      go_light
      obtain ⟨q1, q2, q3⟩ := HH.out
      rw [← q1]
      exact ⟨_, rfl, q2, q3⟩
end Go.Proofs.Ytnlenhhmajecjaa
