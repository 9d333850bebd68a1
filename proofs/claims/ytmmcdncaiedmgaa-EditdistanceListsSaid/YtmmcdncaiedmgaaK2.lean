import Derived.Test.YtmmcdncaiedmgaaK1
set_option linter.unusedVariables false
set_option linter.unusedSimpArgs false
namespace Go.Proofs.Ytmmcdncaiedmgaa
open Go.RowKit
set_option maxHeartbeats 16000000 in
set_option maxRecDepth 1000000 in
theorem common_row (la lb : List ByteArray) (Aa Ab : Option Addr) (ca cb : Nat) (w : World) (hla : la.length ≤ 256) (hlb : lb.length ≤ 256) (SAa : Strs w w.heap.size Aa la) (SBb : Strs w w.heap.size Ab lb) (i : Nat) (hi : i < la.length) (wr : World) (HF0 : FilR la lb w wr i lb.length)
    {u4 u5 u7 u17 u18 u19 u20 u21 u22 u23 u24 u25 u26 u27 u28 u29 u30 u31 u32 u33 u34 u35 u36 u37 u38 u39 u40 u41 u42 u43 u44 u45 u46 u47 u48 u49 u50 u51 u52 u53 u54 u55 u56 u57 u58 u59 u60 u61 u62 u63 u64 u65 u66 u67 u68 u69 u70 u71 u72 u73 u74 u75 u76 u77 u78 u79 u80 u81 u82 u83 u84 u85 u86 u87 u88 u89 u90 u91 u92 u93 u94 u95 u96 u97 u98 u99 u100 u101 u102 u103 u104 u105 u106 u107 u108 : Value} {K K4 K5 : Act → World → Prop} {RP : Ending → World → Prop}
    (hK : ∀ (v9 v49 v50 v51 v52 v53 v54 v55 v56 v57 v58 v59 v60 v61 v62 v63 v64 v65 v66 v67 v68 v69 v70 v71 v72 v73 v74 v75 v76 v77 v78 v79 v80 v81 v82 v83 v84 v85 v86 v87 v88 v89 v90 v91 v92 v93 v94 v95 v96 v97 v98 v99 v100 v101 v102 v103 v104 v105 v106 v107 v108 : Value) (wx : World), FilR la lb w wx i 0 → K ⟨#[.slice Aa la.length ca, .slice Ab lb.length cb, undef, undef, u4, u5, .slice (some ⟨w.heap.size, 0, none⟩) (la.length + 1) (la.length + 1), u7, .int .i64 i, v9, undef, undef, undef, undef, undef, undef, undef, u17, u18, u19, u20, u21, u22, u23, u24, u25, u26, u27, u28, u29, u30, u31, u32, u33, u34, u35, u36, u37, u38, u39, u40, u41, u42, u43, u44, u45, u46, u47, u48, v49, v50, v51, v52, v53, v54, v55, v56, v57, v58, v59, v60, v61, v62, v63, v64, v65, v66, v67, v68, v69, v70, v71, v72, v73, v74, v75, v76, v77, v78, v79, v80, v81, v82, v83, v84, v85, v86, v87, v88, v89, v90, v91, v92, v93, v94, v95, v96, v97, v98, v99, v100, v101, v102, v103, v104, v105, v106, v107, v108, undef, undef, undef, undef, undef, undef, undef, undef, undef, undef, undef, undef, undef, undef, undef, undef, undef, undef, undef, undef, undef, undef, undef, undef, undef, undef, undef, undef, undef, undef, undef, undef, undef, undef, undef, undef, undef, undef, undef, undef, undef, undef, undef, undef, undef, undef, undef, undef, undef, undef, undef, undef, undef, undef, undef, undef, undef, undef, undef, undef, undef, undef, undef, undef, undef, undef, undef, undef, undef, undef, undef, undef, undef, undef, undef, undef, undef, undef, undef, undef, undef, undef, undef, undef, undef, undef, undef, undef, undef, undef, undef, undef, undef], []⟩ wx) :
    Code.wp Try.prog (piece 4 Try.f31) (Exit.inBlock 3 (Exit.then K (Exit.then K4 (Exit.inBlock 2 (Exit.then K5 (bodyPost Try.prog Try.f31 RP)))))) ⟨#[.slice Aa la.length ca, .slice Ab lb.length cb, undef, undef, u4, u5, .slice (some ⟨w.heap.size, 0, none⟩) (la.length + 1) (la.length + 1), u7, .int .i64 i, .int .i64 ((lb.length : Int) - 1), undef, undef, undef, undef, undef, undef, undef, u17, u18, u19, u20, u21, u22, u23, u24, u25, u26, u27, u28, u29, u30, u31, u32, u33, u34, u35, u36, u37, u38, u39, u40, u41, u42, u43, u44, u45, u46, u47, u48, u49, u50, u51, u52, u53, u54, u55, u56, u57, u58, u59, u60, u61, u62, u63, u64, u65, u66, u67, u68, u69, u70, u71, u72, u73, u74, u75, u76, u77, u78, u79, u80, u81, u82, u83, u84, u85, u86, u87, u88, u89, u90, u91, u92, u93, u94, u95, u96, u97, u98, u99, u100, u101, u102, u103, u104, u105, u106, u107, u108, undef, undef, undef, undef, undef, undef, undef, undef, undef, undef, undef, undef, undef, undef, undef, undef, undef, undef, undef, undef, undef, undef, undef, undef, undef, undef, undef, undef, undef, undef, undef, undef, undef, undef, undef, undef, undef, undef, undef, undef, undef, undef, undef, undef, undef, undef, undef, undef, undef, undef, undef, undef, undef, undef, undef, undef, undef, undef, undef, undef, undef, undef, undef, undef, undef, undef, undef, undef, undef, undef, undef, undef, undef, undef, undef, undef, undef, undef, undef, undef, undef, undef, undef, undef, undef, undef, undef, undef, undef, undef, undef, undef, undef], []⟩ wr := by
  conv => arg 2; whnf
  obtain ⟨ba, oa, rfl, hba, hca⟩ := SAa (by omega)
  go_wp2_with fail
  go_loopg [9] lb.length (fun g c wr => g ≤ lb.length ∧ c = .int .i64 ((g : Int) - 1) ∧ FilR la lb w wr i g)
  case atStart => go_light; exact ⟨Nat.le_refl _, rfl, HF0⟩
  case round =>
    clear HF0
    obtain ⟨hx, rfl, HF⟩ := hrel
    by_cases h0 : 0 < gk
    · obtain ⟨k, rfl⟩ : ∃ k, gk = k + 1 := ⟨gk - 1, by omega⟩
      obtain ⟨bb, ob, rfl, hbb, hcb⟩ := SBb (by omega)
      obtain ⟨r1, hr1⟩ : ∃ r, w.heap.size + 1 + i = r := ⟨_, rfl⟩
      obtain ⟨r2, hr2⟩ : ∃ r, w.heap.size + 1 + (i + 1) = r := ⟨_, rfl⟩
      have ht := HF.tab
      have e2 := ht.cell (i := i + 1) (k := k) (by omega) (by omega)
      have e1' := ht.cell (i := i) (k := k + 1) (by omega) (by omega)
      have e2' := ht.cell (i := i + 1) (k := k + 1) (by omega) (by omega)
      have e1 := ht.cell (i := i) (k := k) (by omega) (by omega)
      have f1 := ht.frozen (i := i) (by omega) k
      rw [partR_gt (by omega)] at e2 e2'
      rw [partR_ge (Nat.le_refl _)] at e1'
      have b1 := R_le la lb (i + 1) k
      have b2 := R_le la lb i (k + 1)
      have b3 := R_le la lb (i + 1) (k + 1)
      have hrec := R_stepD hi (show k < lb.length by omega)
      have t1 := ht.topc (i := i) (by omega)
      have t2 := ht.topc (i := i + 1) (by omega)
      have ne1 : w.heap.size ≠ r1 := by omega
      have ne2 : r2 ≠ r1 := by omega
      have nea : ba ≠ r1 := by omega
      have neb : bb ≠ r1 := by omega
      have c1 := (HF.below.cell (p := ⟨ba, oa + i, none⟩) hba).trans (hca i hi)
      have c2 := (HF.below.cell (p := ⟨bb, ob + k, none⟩) hbb).trans (hcb k (by omega))
      obtain ⟨xa, hxa⟩ : ∃ y, la.getD i ByteArray.empty = y := ⟨_, rfl⟩
      obtain ⟨xb, hxb⟩ : ∃ y, lb.getD k ByteArray.empty = y := ⟨_, rfl⟩
      obtain ⟨p, hp⟩ : ∃ y, R la lb (i + 1) k = y := ⟨_, rfl⟩
      obtain ⟨q, hq⟩ : ∃ y, R la lb i (k + 1) = y := ⟨_, rfl⟩
      obtain ⟨s, hs⟩ : ∃ y, R la lb (i + 1) (k + 1) = y := ⟨_, rfl⟩
      simp only [hr1, hr2, hp, hq, hs, hxa, hxb] at e1 e1' e2 e2' f1 t1 t2 b1 b2 b3 hrec c1 c2
      have E1 : ∀ v, (wr.setCell ⟨r1, k, none⟩ (.int .i64 v)).cell? ⟨r1, k, none⟩ = some (.int .i64 v) := fun v => World.cell?_setCell_same' _ _ _ (by rw [e1]; rfl)
      have E2' : ∀ v, (wr.setCell ⟨r1, k, none⟩ (.int .i64 v)).cell? ⟨r2, k + 1, none⟩ = some (.int .i64 s) := fun v => by rw [World.cell?_setCell_other _ _ _ _ (fun e => ne2 (congrArg Addr.block e).symm)]; exact e2'
      have T1 : ∀ v, (wr.setCell ⟨r1, k, none⟩ (.int .i64 v)).cell? ⟨w.heap.size, i, none⟩ = some (.slice (some ⟨r1, 0, none⟩) (lb.length + 1) (lb.length + 1)) := fun v => by rw [World.cell?_setCell_other _ _ _ _ (fun e => ne1 (congrArg Addr.block e).symm)]; exact t1
      have T2 : ∀ v, (wr.setCell ⟨r1, k, none⟩ (.int .i64 v)).cell? ⟨w.heap.size, i + 1, none⟩ = some (.slice (some ⟨r2, 0, none⟩) (lb.length + 1) (lb.length + 1)) := fun v => by rw [World.cell?_setCell_other _ _ _ _ (fun e => ne1 (congrArg Addr.block e).symm)]; exact t2
      have C1 : ∀ v, (wr.setCell ⟨r1, k, none⟩ (.int .i64 v)).cell? ⟨ba, oa + i, none⟩ = some (.string xa) := fun v => by rw [World.cell?_setCell_other _ _ _ _ (fun e => nea (congrArg Addr.block e).symm)]; exact c1
      have C2 : ∀ v, (wr.setCell ⟨r1, k, none⟩ (.int .i64 v)).cell? ⟨bb, ob + k, none⟩ = some (.string xb) := fun v => by rw [World.cell?_setCell_other _ _ _ _ (fun e => neb (congrArg Addr.block e).symm)]; exact c2
      have HX := Lib.hid (And.intro hrec (And.intro hr1 HF))
      have hi1z : (i : Int) + 1 < (la.length : Int) + 1 := by omega
      have hk1z : (k : Int) + 1 < (lb.length : Int) + 1 := by omega
      clear hrec hr1 hr2 hp hq hs hxa hxb ht HF SAa SBb hca hcb h0 ne1 ne2 nea neb c1 c2
      by_cases he : xa = xb
      · have hb1 : (xa.toList == xb.toList) = true := by rw [str_beq]; simpa using he
        have HE := Lib.hid he
        clear he
        go_wp2_with fail
        go_region
        all_goals go_wp2_with fail
        all_goals go_quiet (fail)
        all_goals go_wp2_with fail
        all_goals go_region
        all_goals go_wp2_with fail
        all_goals
          go_roundg k
          case measure => go_light; omega
          case rel =>
            go_light
            obtain ⟨q1, q2, q3⟩ := HX.out
            refine ⟨by omega, rfl, ?_⟩
            rw [← q2]
            exact filR_store2 0 _ q3 (by omega) (by rw [q1, if_pos HE.out]; omega)
      · have hb1 : (xa.toList == xb.toList) = false := by rw [str_beq]; simpa using he
        have HE := Lib.hid he
        clear he
        go_wp2_with fail
        go_region
        all_goals go_wp2_with fail
        all_goals go_quiet (fail)
        all_goals go_wp2_with fail
        all_goals
          go_roundg k
          case measure => go_light; omega
          case rel =>
            go_light
            obtain ⟨q1, q2, q3⟩ := HX.out
            refine ⟨by omega, rfl, ?_⟩
            rw [← q2]
            exact (filR_store 0 q3 (by omega) (by rw [q1, if_neg HE.out]; omega)).drewN _
    · have hk' : gk = 0 := by omega
      subst hk'
      have HF' := Lib.hid HF
      clear HF
      go_wp2_with fail
      exact HF'.out
end Go.Proofs.Ytmmcdncaiedmgaa
