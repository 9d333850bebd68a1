import Derived.Test.YtmmcdncaiedmgaaT
set_option linter.unusedVariables false
set_option linter.unusedSimpArgs false
namespace Go.Proofs.Ytmmcdncaiedmgaa
open Go.RowKit
set_option maxHeartbeats 16000000 in
set_option maxRecDepth 1000000 in
/-- one row of the table is filled -/
theorem script_row (a b : ByteArray) (w : World) (ha : a.size ≤ 256) (hb : b.size ≤ 256) (i : Nat) (hlt : i < a.size + 1) (wr : World) (HF1 : Fil (peq a b) (a.size + 1) (b.size + 1) w wr i (i + 1) 0)
    {u4 u5 u8 u12 u13 u14 u15 u16 u17 u18 u19 u20 u21 u22 u23 u24 u25 u26 u27 u28 u29 u30 u31 u32 u33 u34 u35 u36 u39 u40 u41 u42 u43 u44 u45 u46 u47 u48 u49 u50 u51 u52 u53 u54 u55 u56 u57 u58 u59 u60 u61 u62 u63 u64 u65 u66 u67 u68 u69 u70 u71 u72 u73 u74 u75 u76 u77 u78 u79 u80 u81 u82 u83 u84 u85 u86 u87 u88 u89 u90 u91 u92 u93 u94 u95 u96 u97 u98 u99 u100 u101 u102 u103 u104 u105 u106 u107 u108 u109 u110 u111 u112 u113 u114 u115 u116 u117 u118 u119 u120 u121 u122 u123 u124 u125 u126 u127 u128 u129 u130 u131 u132 u133 u134 u135 : Value} {K K4 K5 : Act → World → Prop} {R : Ending → World → Prop}
    (hK : ∀ (v8 v38 v39 v40 v41 v42 v43 v44 v45 v46 v47 v48 v49 v50 v51 v52 v53 v54 v55 v56 v57 v58 v59 v60 v61 v62 v63 v64 v65 v66 v67 v68 v69 v70 v71 v72 v73 v74 v75 v76 v77 v78 v79 v80 v81 v82 v83 v84 v85 v86 v87 v88 v89 v90 v91 v92 v93 v94 v95 v96 v97 v98 v99 v100 v101 v102 v103 v104 v105 v106 v107 v108 v109 v110 v111 v112 v113 v114 v115 v116 v117 v118 v119 v120 v121 v122 v123 v124 v125 v126 v127 v128 v129 v130 v131 v132 v133 v134 : Value) (wx : World), Fil (peq a b) (a.size + 1) (b.size + 1) w wx i (i + 1) (b.size + 1) → K ⟨#[.string a, .string b, undef, undef, u4, u5, .slice (some ⟨w.heap.size, 0, none⟩) (a.size + 1) (a.size + 1), .int .i64 i, v8, undef, undef, undef, u12, u13, u14, u15, u16, u17, u18, u19, u20, u21, u22, u23, u24, u25, u26, u27, u28, u29, u30, u31, u32, u33, u34, u35, u36, .int .i64 ((b.size : Int) + 1), v38, v39, v40, v41, v42, v43, v44, v45, v46, v47, v48, v49, v50, v51, v52, v53, v54, v55, v56, v57, v58, v59, v60, v61, v62, v63, v64, v65, v66, v67, v68, v69, v70, v71, v72, v73, v74, v75, v76, v77, v78, v79, v80, v81, v82, v83, v84, v85, v86, v87, v88, v89, v90, v91, v92, v93, v94, v95, v96, v97, v98, v99, v100, v101, v102, v103, v104, v105, v106, v107, v108, v109, v110, v111, v112, v113, v114, v115, v116, v117, v118, v119, v120, v121, v122, v123, v124, v125, v126, v127, v128, v129, v130, v131, v132, v133, v134, u135, undef, undef, undef, undef, undef, undef, undef, undef, undef, undef, undef, undef, undef, undef, undef, undef, undef, undef, undef, undef, undef, undef, undef, undef, undef, undef, undef, undef, undef, undef, undef, undef, undef, undef, undef, undef, undef, undef, undef, undef, undef, undef, undef, undef, undef, undef, undef, undef, undef, undef, undef, undef, undef, undef, undef, undef, undef, undef, undef, undef, undef, undef, undef, undef, undef, undef, undef, undef, undef, undef, undef, undef, undef, undef, undef, undef, undef, undef, undef, undef, undef, undef, undef, undef, undef, undef, undef, undef, undef, undef, undef, undef, undef, undef, undef, undef, undef, undef, undef, undef, undef, undef, undef, undef, undef, undef, undef, undef, undef, undef, undef, undef, undef, undef, undef, undef, undef, undef, undef, undef, undef, undef, undef, undef, undef, undef, undef, undef, undef, undef, undef, undef, undef, undef, undef, undef], []⟩ wx) :
    Code.wp Try.prog (piece 2 Try.f18) (Exit.inBlock 1 (Exit.then K (Exit.then K4 (Exit.inBlock 0 (Exit.then K5 (bodyPost Try.prog Try.f18 R)))))) ⟨#[.string a, .string b, undef, undef, u4, u5, .slice (some ⟨w.heap.size, 0, none⟩) (a.size + 1) (a.size + 1), .int .i64 i, u8, undef, undef, undef, u12, u13, u14, u15, u16, u17, u18, u19, u20, u21, u22, u23, u24, u25, u26, u27, u28, u29, u30, u31, u32, u33, u34, u35, u36, .int .i64 ((b.size : Int) + 1), .int .i64 0, u39, u40, u41, u42, u43, u44, u45, u46, u47, u48, u49, u50, u51, u52, u53, u54, u55, u56, u57, u58, u59, u60, u61, u62, u63, u64, u65, u66, u67, u68, u69, u70, u71, u72, u73, u74, u75, u76, u77, u78, u79, u80, u81, u82, u83, u84, u85, u86, u87, u88, u89, u90, u91, u92, u93, u94, u95, u96, u97, u98, u99, u100, u101, u102, u103, u104, u105, u106, u107, u108, u109, u110, u111, u112, u113, u114, u115, u116, u117, u118, u119, u120, u121, u122, u123, u124, u125, u126, u127, u128, u129, u130, u131, u132, u133, u134, u135, undef, undef, undef, undef, undef, undef, undef, undef, undef, undef, undef, undef, undef, undef, undef, undef, undef, undef, undef, undef, undef, undef, undef, undef, undef, undef, undef, undef, undef, undef, undef, undef, undef, undef, undef, undef, undef, undef, undef, undef, undef, undef, undef, undef, undef, undef, undef, undef, undef, undef, undef, undef, undef, undef, undef, undef, undef, undef, undef, undef, undef, undef, undef, undef, undef, undef, undef, undef, undef, undef, undef, undef, undef, undef, undef, undef, undef, undef, undef, undef, undef, undef, undef, undef, undef, undef, undef, undef, undef, undef, undef, undef, undef, undef, undef, undef, undef, undef, undef, undef, undef, undef, undef, undef, undef, undef, undef, undef, undef, undef, undef, undef, undef, undef, undef, undef, undef, undef, undef, undef, undef, undef, undef, undef, undef, undef, undef, undef, undef, undef, undef, undef, undef, undef, undef, undef], []⟩ wr := by
  conv => arg 2; whnf
  have hltz : (i : Int) < (a.size : Int) + 1 := by omega
  go_wp2_with fail
  go_loopg [38] (b.size + 1) (fun g c wr => ∃ k : Nat, k ≤ b.size + 1 ∧ g = b.size + 1 - k ∧ c = .int .i64 k ∧ Fil (peq a b) (a.size + 1) (b.size + 1) w wr i (i + 1) k)
  case atStart => go_light; exact ⟨0, by omega, by omega, rfl, HF1⟩
  case round =>
    clear HF1
    obtain ⟨k, hk, hg, rfl, HF⟩ := hrel
    by_cases hkt : k < b.size + 1
    · have hktz : (k : Int) < (b.size : Int) + 1 := by omega
      have t1 := HF.tab.topc (i := i) (by omega)
      have e1 := HF.tab.cell (i := i) (k := k) (by omega) (by omega)
      have f1 := HF.tab.frozen (i := i) (by omega) k
      obtain ⟨r1, hr1⟩ : ∃ r, w.heap.size + 1 + i = r := ⟨_, rfl⟩
      simp only [hr1] at t1 e1 f1
      by_cases h0 : i = 0 ∨ k = 0
      · have hv : (i : Int) + k = lev (peq a b) i k := by
          rcases h0 with rfl | rfl
          · simp [lev_zero]
          · cases i <;> simp [lev_zero, lev_succ_zero]
        have HV := Lib.hid hv
        have HR1 := Lib.hid hr1
        have HFH := Lib.hid HF
        clear hv hr1 HF
        have hg2 : ((i : Int) == 0) = true ∨ (((i : Int) == 0) = false ∧ ((k : Int) == 0) = true) := by
          by_cases h : i = 0
          · left; simp [h]
          · right; simp; omega
        clear h0
        rcases hg2 with h1 | ⟨h1, h2⟩
        all_goals
          go_wp2_with fail
          go_roundg (b.size + 1 - (k + 1))
          case measure => go_light; omega
          case rel =>
            go_light
            refine ⟨k + 1, by omega, by omega, by go_num, ?_⟩
            rw [← HR1.out]; exact fil_store 0 HFH.out HV.out
      · have hi1 : 1 ≤ i := by omega
        have hk1 : 1 ≤ k := by omega
        have t0 := HF.tab.topc (i := i - 1) (by omega)
        have e00 := HF.tab.cell (i := i - 1) (k := k - 1) (by omega) (by omega)
        have e01 := HF.tab.cell (i := i - 1) (k := k) (by omega) (by omega)
        have e10 := HF.tab.cell (i := i) (k := k - 1) (by omega) (by omega)
        rw [part_lt (by omega)] at e00 e01
        rw [part_le (by omega)] at e10
        have b1 := lev_le (peq a b) (i - 1) (k - 1)
        have b2 := lev_le (peq a b) (i - 1) k
        have b3 := lev_le (peq a b) i (k - 1)
        have hrec := lev_succ_succ (peq a b) (i - 1) (k - 1)
        rw [Nat.sub_add_cancel hi1, Nat.sub_add_cancel hk1] at hrec
        obtain ⟨r0, hr0⟩ : ∃ r, w.heap.size + 1 + (i - 1) = r := ⟨_, rfl⟩
        obtain ⟨x, hx⟩ : ∃ x, lev (peq a b) (i - 1) (k - 1) = x := ⟨_, rfl⟩
        obtain ⟨y, hy⟩ : ∃ x, lev (peq a b) (i - 1) k = x := ⟨_, rfl⟩
        obtain ⟨z, hz⟩ : ∃ x, lev (peq a b) i (k - 1) = x := ⟨_, rfl⟩
        simp only [hr0, hr1, hx, hy, hz] at t0 e00 e01 e10 b1 b2 b3 hrec
        have HX := Lib.hid (And.intro hrec (And.intro hr1 HF))
        have hz0 : ((i : Int) == 0) = false := by simp; omega
        have hz1 : ((k : Int) == 0) = false := by simp; omega
        clear hrec hr0 hr1 HF hx hy hz h0
        have hia := fun W => run_index_str (P := Try.prog) 9 a ((i : Int) - 1) (i - 1) (by omega) (by omega) (by omega) Try.underlying9 W
        have hib := fun W => run_index_str (P := Try.prog) 9 b ((k : Int) - 1) (k - 1) (by omega) (by omega) (by omega) Try.underlying9 W
        have hpq : ((((bat a (i - 1)).toNat : Int)) == ((bat b (k - 1)).toNat : Int)) = peq a b (i - 1) (k - 1) := u8_beq _ _
        cases hp : peq a b (i - 1) (k - 1)
        all_goals
          rw [hp] at hpq
          have HP := Lib.hid hp
          clear hp
          go_wp2_with fail
          go_quiet (fail)
          go_wp2_with fail
          go_region
          all_goals go_wp2_with fail
          all_goals
            go_roundg (b.size + 1 - (k + 1))
            case measure => go_light; omega
            case rel =>
              go_light
              obtain ⟨q1, q2, q3⟩ := HX.out
              refine ⟨k + 1, by omega, by omega, by go_num, ?_⟩
              rw [← q2]
              exact fil_store _ q3 (by rw [q1, HP.out]; simp only [Bool.false_eq_true, if_false, if_true]; omega)
    · have hk' : k = b.size + 1 := by omega
      subst hk'
      have HF' := Lib.hid HF
      clear HF
      go_wp2_with fail
      exact HF'.out

end Go.Proofs.Ytmmcdncaiedmgaa
