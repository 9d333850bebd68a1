import Derived.Test.YtmmcdncaiedmgaaL2
set_option linter.unusedVariables false
set_option linter.unusedSimpArgs false
namespace Go.Proofs.Ytmmcdncaiedmgaa
open Go.RowKit
set_option maxHeartbeats 16000000 in
set_option maxRecDepth 1000000 in
theorem lengths_any (la lb : List ByteArray) (Aa Ab : Option Addr) (ca cb : Nat) (w : World) (hla : la.length ≤ 256) (hlb : lb.length ≤ 256) (SA : Strs w w.heap.size Aa la) (SB : Strs w w.heap.size Ab lb) :
    Calls Try.prog 50 #[.slice Aa la.length ca, .slice Ab lb.length cb] w fun e w' => e = .returned (.slice (some ⟨w.heap.size, 0, none⟩) (la.length + 1) (la.length + 1)) ∧ ∃ g, LTab la lb w w' 0 0 g := by
  have hmk1 := run_make_row' (P := Try.prog) 60 61 (.slice none 0 0) 24 Try.underlying60 info61 rfl .i64 .i64 (la.length + 1) (by omega) (by omega)
  rw [show ((la.length + 1 : Nat) : Int) = (la.length : Int) + 1 from by omega] at hmk1
  have hmk2 := run_make_row' (P := Try.prog) 61 3 (.int .i64 0) 8 Try.underlying61 info3 rfl .i64 .i64 (lb.length + 1) (by omega) (by omega)
  rw [show ((lb.length + 1 : Nat) : Int) = (lb.length : Int) + 1 from by omega] at hmk2
  have hwr1 : IntKind.i64.wrap ((la.length : Int) + 1) = (la.length : Int) + 1 := by rw [IntKind.wrap_i64]; omega
  have hwr2 : IntKind.i64.wrap ((lb.length : Int) + 1) = (lb.length : Int) + 1 := by rw [IntKind.wrap_i64]; omega
  have hT0 : LTab la lb w (w.alloc (.cells (madeCells #[.slice none 0 0] (la.length + 1)) 61)) (la.length + 1) 0 (fun _ => 0) :=
    ⟨(Below.refl _ _).alloc (Nat.le_refl _) _, by simp, (Has.made w (.slice none 0 0) (la.length + 1) 61).congr fun j hj => by rw [if_neg (by omega)], fun j h1 h2 => absurd h2 (by omega), fun h => absurd h (by omega), fun k h1 h2 => by rw [R_end_left la lb _ _ (by omega)]; rfl⟩
  replace hT0 := Lib.hid hT0
  go_enter Try.func50, Try.ntmps50
  go_wp2_with fail
  clear hmk1 hwr1
  go_loopg [6] (la.length + 1) (fun gi s6 wr => gi ≤ la.length + 1 ∧ s6 = .int .i64 ((gi : Int) - 1) ∧ ∃ g, LTab la lb w wr gi 0 g)
  case atStart => go_light; exact ⟨Nat.le_refl _, by congr 1; omega, _, hT0.out⟩
  case round =>
    clear hT0
    obtain ⟨hgi, rfl, g0, HT⟩ := hrel
    by_cases h0 : 0 < gk
    · obtain ⟨i, rfl⟩ : ∃ i, gk = i + 1 := ⟨gk - 1, by omega⟩
      have ec : (((i + 1 : Nat) : Int) - 1) = (i : Int) := by omega
      rw [ec]
      have hi : i ≤ la.length := by omega
      have hpush := HT.push hi
      have hsz := HT.size
      rw [show w.heap.size + 1 + (la.length + 1 - (i + 1)) = w.heap.size + 1 + (la.length - i) by omega] at hsz
      have t0 := HT.top.cell (i := i) (by omega)
      rw [if_neg (by omega)] at t0
      have f0 := HT.top.frozen i
      have hlt0 := HT.top.lt
      obtain ⟨r1, hr1⟩ : ∃ r, w.heap.size + 1 + (la.length - i) = r := ⟨_, rfl⟩
      rw [hr1] at hsz hpush
      have hne : w.heap.size ≠ r1 := by omega
      have t0' : (wr.alloc (.cells (madeCells #[.int .i64 0] (lb.length + 1)) 3)).cell? ⟨w.heap.size, i, none⟩ = some (.slice none 0 0) := by rw [World.cell?_alloc_lt _ _ _ (by exact hlt0)]; exact t0
      have f0' : (wr.alloc (.cells (madeCells #[.int .i64 0] (lb.length + 1)) 3)).frozen? ⟨w.heap.size, i, none⟩ = false := (HT.top.alloc _).frozen i
      have HP := Lib.hid hpush
      have HR := Lib.hid hr1
      clear HT hpush t0 f0 hr1
      clear ec
      go_wp2_with fail
      have hP := HP.out
      obtain ⟨wm, hwm⟩ : ∃ wm, (wr.alloc (.cells (madeCells #[.int .i64 0] (lb.length + 1)) 3)).setCell ⟨w.heap.size, i, none⟩ (.slice (some ⟨r1, 0, none⟩) (lb.length + 1) (lb.length + 1)) = wm := ⟨_, rfl⟩
      rw [hwm] at hP ⊢
      clear hwm HP t0' f0' hsz
      go_loopg [7] lb.length (fun gj s7 wx => gj ≤ lb.length ∧ s7 = .int .i64 ((gj : Int) - 1) ∧ ∃ g, LTab la lb w wx i gj g ∧ (i = la.length → g = fun _ => 0))
      case atStart => go_light; exact ⟨Nat.le_refl _, rfl, _, hP, fun _ => rfl⟩
      case round =>
        clear hP
        obtain ⟨hgj, rfl, g1, HT, hz⟩ := hrel
        by_cases hj0 : 0 < gk
        · obtain ⟨k, rfl⟩ : ∃ k, gk = k + 1 := ⟨gk - 1, by omega⟩
          have ec : (((k + 1 : Nat) : Int) - 1) = (k : Int) := by omega
          rw [ec]
          clear ec
          by_cases hin : i < la.length
          · have hinz : (i : Int) < (la.length : Int) := by omega
            have hind : decide ((i : Int) < (la.length : Int)) = true := by simpa using hin
            obtain ⟨ba, oa, rfl, hba, hca⟩ := SA (by omega)
            obtain ⟨bb, ob, rfl, hbb, hcb⟩ := SB (by omega)
            obtain ⟨r2, hr2⟩ : ∃ r, w.heap.size + 1 + (la.length - (i + 1)) = r := ⟨_, rfl⟩
            have t1 := HT.top.cell (i := i) (by omega)
            have t2 := HT.top.cell (i := i + 1) (by omega)
            rw [if_pos (Nat.le_refl _), HR.out] at t1
            rw [if_pos (by omega), hr2] at t2
            have hrow := HT.row hi
            rw [HR.out] at hrow
            have hrow2 := HT.rows (i + 1) (by omega) (by omega)
            rw [hr2] at hrow2
            have e1 := hrow.cell (i := k) (by omega)
            have e1' := hrow.cell (i := k + 1) (by omega)
            have f1 := hrow.frozen k
            have e2 := hrow2.cell (i := k) (by omega)
            have e2' := hrow2.cell (i := k + 1) (by omega)
            rw [HT.pre (k + 1) (Nat.le_refl _) (by omega)] at e1'
            have b1 := R_le la lb (i + 1) k
            have b2 := R_le la lb i (k + 1)
            have b3 := R_le la lb (i + 1) (k + 1)
            have hrec := R_stepD hin (show k < lb.length by omega)
            have hB := HT.below
            obtain ⟨xa, hxa⟩ : ∃ y, la.getD i ByteArray.empty = y := ⟨_, rfl⟩
            obtain ⟨xb, hxb⟩ : ∃ y, lb.getD k ByteArray.empty = y := ⟨_, rfl⟩
            obtain ⟨p, hp⟩ : ∃ y, R la lb (i + 1) k = y := ⟨_, rfl⟩
            obtain ⟨q, hq⟩ : ∃ y, R la lb i (k + 1) = y := ⟨_, rfl⟩
            obtain ⟨s, hs⟩ : ∃ y, R la lb (i + 1) (k + 1) = y := ⟨_, rfl⟩
            obtain ⟨m0, hm0⟩ : ∃ y, g1 k = y := ⟨_, rfl⟩
            rw [hxa, hxb, hp, hq, hs] at hrec
            rw [hp] at e2 b1
            rw [hq] at e1' b2
            rw [hs] at e2' b3
            rw [hm0] at e1
            have hne12 : r2 ≠ r1 := by have := HR.out; omega
            have hne0 : w.heap.size ≠ r1 := hne
            have hlenz : (k : Int) + 1 < (lb.length : Int) + 1 := by omega
            have hlenz2 : (k : Int) < (lb.length : Int) + 1 := by omega
            have hlenz3 : (i : Int) + 1 < (la.length : Int) + 1 := by omega
            replace HT := Lib.hid HT
            have HX := Lib.hid (And.intro hrec (And.intro hr2 (And.intro hca (And.intro hcb (And.intro hxa (And.intro hxb hs))))))
            clear hrec hr2 hrow hrow2 hp hq hs hxa hxb hca hcb hz hm0 hB
            go_wp2_with fail
            go_cut [60] (fun sx wx' => ∃ g', LTab la lb w wx' i (k + 1) g' ∧ g' k = ((max p q : Nat) : Int))
            case first =>
              go_region
              all_goals go_wp2_with fail
              all_goals go_meet
              · have h1 := (HT.out.set hi k (q : Int) (by omega)).drewN 1
                rw [HR.out] at h1
                exact ⟨_, h1, by simp; omega⟩
              · have h1 := (HT.out.set hi k (p : Int) (by omega)).drewN 1
                rw [HR.out] at h1
                exact ⟨_, h1, by simp; omega⟩
            case rest =>
              obtain ⟨g', HT2, hg'⟩ := hcut
              clear t1 t2 e1 e1' f1 e2 e2'
              obtain ⟨x1, x2, hca, hcb, x5, x6, x7⟩ := HX.out
              have hB := HT2.below
              have t1 := HT2.top.cell (i := i) (by omega)
              have t2 := HT2.top.cell (i := i + 1) (by omega)
              rw [if_pos (Nat.le_refl _), HR.out] at t1
              rw [if_pos (by omega), x2] at t2
              have hrow := HT2.row hi
              rw [HR.out] at hrow
              have hrow2 := HT2.rows (i + 1) (by omega) (by omega)
              rw [x2] at hrow2
              have e1 := hrow.cell (i := k) (by omega)
              have f1 := hrow.frozen k
              have e2' := hrow2.cell (i := k + 1) (by omega)
              rw [hg'] at e1
              have s1 := (World.cell?_of_block (hB.block ba hba)).trans (hca i hin)
              have s2 := (World.cell?_of_block (hB.block bb hbb)).trans (hcb k (by omega))
              rw [x5] at s1
              rw [x6] at s2
              obtain ⟨m1, hm1⟩ : ∃ m, max p q = m := ⟨_, rfl⟩
              have hpre := HT2.pre
              rw [hm1] at e1
              have x1' := x1
              have hm1le : m1 ≤ 1000 := by omega
              have b3' := R_le la lb (i + 1) (k + 1)
              rw [x7] at e2' b3'
              have hXX := Lib.hid (And.intro x1' (And.intro hm1 hg'))
              have HT3 := Lib.hid HT2
              clear HT2 hg' hB hca hcb x1 x1' x2 x5 x6 hrow hrow2 hm1 hpre HX HT x7
              by_cases he : xa = xb
              · have hb1 : (xa.toList == xb.toList) = true := by rw [str_beq]; simpa using he
                have HE := Lib.hid he
                clear he
                go_wp2_with fail
                go_quiet (fail)
                go_wp2_with fail
                go_region
                all_goals go_wp2_with fail
                all_goals
                  go_roundg k
                  case measure => go_light; omega
                  case rel =>
                    go_light
                    obtain ⟨y1, y2, y3⟩ := hXX.out
                    exact ⟨by omega, rfl, _, HT3.out.store hi HR.out _ (by rw [y1, if_pos HE.out]; omega), fun e => absurd e (by omega)⟩
              · have hb1 : (xa.toList == xb.toList) = false := by rw [str_beq]; simpa using he
                have HE := Lib.hid he
                clear he
                go_wp2_with fail
                go_quiet (fail)
                go_wp2_with fail
                all_goals
                  go_roundg k
                  case measure => go_light; omega
                  case rel =>
                    go_light
                    obtain ⟨y1, y2, y3⟩ := hXX.out
                    exact ⟨by omega, rfl, _, (HT3.out.drewN _).next (by rw [y3, y1, if_neg HE.out]; omega), fun e => absurd e (by omega)⟩
          · have hin' : i = la.length := by omega
            have hind : decide ((i : Int) < (la.length : Int)) = false := by simp; omega
            have hinz : ¬ (i : Int) < (la.length : Int) := by omega
            replace HT := Lib.hid HT
            have hz' := Lib.hid (hz hin')
            clear hz hin'
            go_wp2_with fail
            go_roundg i
            case measure => go_light; omega
            case rel =>
              go_light
              have h1 := HT.out
              refine ⟨by omega, rfl, g1, ⟨h1.below, h1.size, h1.top, h1.rows, h1.row, fun k' _ hk' => ?_⟩⟩
              rw [hz'.out, R_end_left la lb _ _ (by omega)]
              rfl
        · have hg0 : gk = 0 := by omega
          subst hg0
          replace HT := Lib.hid HT
          clear hz
          go_wp2_with fail
          go_roundg i
          case measure => go_light; omega
          case rel =>
            go_light
            exact ⟨by omega, rfl, g1, HT.out⟩
    · have hg0 : gk = 0 := by omega
      subst hg0
      have HT' := Lib.hid HT
      clear HT
      go_wp2_with fail
      go_ret
      go_light
      exact ⟨rfl, _, HT'.out⟩
end Go.Proofs.Ytmmcdncaiedmgaa
