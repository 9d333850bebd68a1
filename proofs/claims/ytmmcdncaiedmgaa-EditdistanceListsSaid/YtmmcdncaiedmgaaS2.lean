import Derived.Test.YtmmcdncaiedmgaaS1
set_option linter.unusedVariables false
set_option linter.unusedSimpArgs false
namespace Go.Proofs.Ytmmcdncaiedmgaa
open Go.RowKit
set_option maxHeartbeats 16000000 in
set_option maxRecDepth 1000000 in
/-- the table is filled -/
theorem script_table (a b : ByteArray) (w : World) (ha : a.size ≤ 256) (hb : b.size ≤ 256)
    {u4 u5 u12 u13 u14 u15 u16 u17 u18 u19 u20 u21 : Value} {K : Act → World → Prop} {R : Ending → World → Prop}
    (hK : ∀ (v7 v8 v23 v24 v25 v26 v27 v28 v29 v30 v31 v32 v33 v34 v35 v36 v37 v38 v39 v40 v41 v42 v43 v44 v45 v46 v47 v48 v49 v50 v51 v52 v53 v54 v55 v56 v57 v58 v59 v60 v61 v62 v63 v64 v65 v66 v67 v68 v69 v70 v71 v72 v73 v74 v75 v76 v77 v78 v79 v80 v81 v82 v83 v84 v85 v86 v87 v88 v89 v90 v91 v92 v93 v94 v95 v96 v97 v98 v99 v100 v101 v102 v103 v104 v105 v106 v107 v108 v109 v110 v111 v112 v113 v114 v115 v116 v117 v118 v119 v120 v121 v122 v123 v124 v125 v126 v127 v128 v129 v130 v131 v132 v133 v134 v135 : Value) (wx : World), Below w.heap.size w wx ∧ Tab 61 wx w.heap.size w.heap.size (a.size + 1) (b.size + 1) (fun i => w.heap.size + 1 + i) (fun i k => lev (peq a b) i k) → K ⟨#[.string a, .string b, undef, undef, u4, u5, .slice (some ⟨w.heap.size, 0, none⟩) (a.size + 1) (a.size + 1), v7, v8, undef, undef, undef, u12, u13, u14, u15, u16, u17, u18, u19, u20, u21, .int .i64 ((a.size : Int) + 1), v23, v24, v25, v26, v27, v28, v29, v30, v31, v32, v33, v34, v35, v36, v37, v38, v39, v40, v41, v42, v43, v44, v45, v46, v47, v48, v49, v50, v51, v52, v53, v54, v55, v56, v57, v58, v59, v60, v61, v62, v63, v64, v65, v66, v67, v68, v69, v70, v71, v72, v73, v74, v75, v76, v77, v78, v79, v80, v81, v82, v83, v84, v85, v86, v87, v88, v89, v90, v91, v92, v93, v94, v95, v96, v97, v98, v99, v100, v101, v102, v103, v104, v105, v106, v107, v108, v109, v110, v111, v112, v113, v114, v115, v116, v117, v118, v119, v120, v121, v122, v123, v124, v125, v126, v127, v128, v129, v130, v131, v132, v133, v134, v135, undef, undef, undef, undef, undef, undef, undef, undef, undef, undef, undef, undef, undef, undef, undef, undef, undef, undef, undef, undef, undef, undef, undef, undef, undef, undef, undef, undef, undef, undef, undef, undef, undef, undef, undef, undef, undef, undef, undef, undef, undef, undef, undef, undef, undef, undef, undef, undef, undef, undef, undef, undef, undef, undef, undef, undef, undef, undef, undef, undef, undef, undef, undef, undef, undef, undef, undef, undef, undef, undef, undef, undef, undef, undef, undef, undef, undef, undef, undef, undef, undef, undef, undef, undef, undef, undef, undef, undef, undef, undef, undef, undef, undef, undef, undef, undef, undef, undef, undef, undef, undef, undef, undef, undef, undef, undef, undef, undef, undef, undef, undef, undef, undef, undef, undef, undef, undef, undef, undef, undef, undef, undef, undef, undef, undef, undef, undef, undef, undef, undef, undef, undef, undef, undef, undef, undef], []⟩ wx) :
    Code.wp Try.prog (piece 0 Try.f18) (Exit.then K (bodyPost Try.prog Try.f18 R)) ⟨#[.string a, .string b, undef, undef, u4, u5, .slice (some ⟨w.heap.size, 0, none⟩) (a.size + 1) (a.size + 1), undef, undef, undef, undef, undef, u12, u13, u14, u15, u16, u17, u18, u19, u20, u21, .int .i64 ((a.size : Int) + 1), .int .i64 0, undef, undef, undef, undef, undef, undef, undef, undef, undef, undef, undef, undef, undef, undef, undef, undef, undef, undef, undef, undef, undef, undef, undef, undef, undef, undef, undef, undef, undef, undef, undef, undef, undef, undef, undef, undef, undef, undef, undef, undef, undef, undef, undef, undef, undef, undef, undef, undef, undef, undef, undef, undef, undef, undef, undef, undef, undef, undef, undef, undef, undef, undef, undef, undef, undef, undef, undef, undef, undef, undef, undef, undef, undef, undef, undef, undef, undef, undef, undef, undef, undef, undef, undef, undef, undef, undef, undef, undef, undef, undef, undef, undef, undef, undef, undef, undef, undef, undef, undef, undef, undef, undef, undef, undef, undef, undef, undef, undef, undef, undef, undef, undef, undef, undef, undef, undef, undef, undef, undef, undef, undef, undef, undef, undef, undef, undef, undef, undef, undef, undef, undef, undef, undef, undef, undef, undef, undef, undef, undef, undef, undef, undef, undef, undef, undef, undef, undef, undef, undef, undef, undef, undef, undef, undef, undef, undef, undef, undef, undef, undef, undef, undef, undef, undef, undef, undef, undef, undef, undef, undef, undef, undef, undef, undef, undef, undef, undef, undef, undef, undef, undef, undef, undef, undef, undef, undef, undef, undef, undef, undef, undef, undef, undef, undef, undef, undef, undef, undef, undef, undef, undef, undef, undef, undef, undef, undef, undef, undef, undef, undef, undef, undef, undef, undef, undef, undef, undef, undef, undef, undef, undef, undef, undef, undef, undef, undef, undef, undef, undef, undef, undef, undef, undef, undef, undef, undef, undef, undef, undef, undef, undef, undef, undef, undef, undef, undef, undef, undef], []⟩ (w.alloc (.cells (madeCells #[.slice none 0 0] (a.size + 1)) 61)) := by
  conv => arg 2; whnf
  have hmk2 := run_make_row' (P := Try.prog) 61 3 (.int .i64 0) 8 Try.underlying61 info3 rfl .i64 .i64 (b.size + 1) (by omega) (by omega)
  rw [show ((b.size + 1 : Nat) : Int) = (b.size : Int) + 1 from by omega] at hmk2
  go_wp2_with fail
  go_loopg [23] (a.size + 1) (fun g c wr => ∃ i : Nat, i ≤ a.size + 1 ∧ g = a.size + 1 - i ∧ c = .int .i64 i ∧ Fil (peq a b) (a.size + 1) (b.size + 1) w wr i i 0)
  case atStart =>
    go_light
    exact ⟨0, by omega, by omega, rfl, ⟨(Below.refl _ _).alloc (Nat.le_refl _) _, by simp, ⟨_, Has.made _ _ _ _⟩, Tab.none_ _ _ _ _ _ _ _ (Has.made _ _ _ _) (Nat.le_refl _) _ _⟩⟩
  case round =>
    obtain ⟨i, hi, hg, rfl, HF⟩ := hrel
    by_cases hlt : i < a.size + 1
    · have hltz : (i : Int) < (a.size : Int) + 1 := by omega
      have HF1 := fil_row HF hlt
      obtain ⟨F, hF⟩ := HF.top
      have c1 : ∀ o, (wr.alloc o).cell? ⟨w.heap.size, i, none⟩ = some (F i) := fun o => (hF.alloc o).cell hlt
      have f1 : ∀ o, (wr.alloc o).frozen? ⟨w.heap.size, i, none⟩ = false := fun o => (hF.alloc o).frozen i
      have hsz := HF.size
      clear hF HF
      go_upto_block 2 with fail
      clear c1 f1 hsz
      refine script_row a b w ha hb i hlt _ HF1 ?_
      clear HF1
      intro _ _ _ _ _ _ _ _ _ _ _ _ _ _ _ _ _ _ _ _ _ _ _ _ _ _ _ _ _ _ _ _ _ _ _ _ _ _ _ _ _ _ _ _ _ _ _ _ _ _ _ _ _ _ _ _ _ _ _ _ _ _ _ _ _ _ _ _ _ _ _ _ _ _ _ _ _ _ _ _ _ _ _ _ _ _ _ _ _ _ _ _ _ _ _ _ _ _ wx HF
      have HF' := fil_end HF
      clear HF
      go_wp2_with fail
      go_roundg (a.size + 1 - (i + 1))
      case measure => go_light; omega
      case rel =>
        go_light
        exact ⟨i + 1, by omega, by omega, by go_num, HF'⟩
    · have hi' : i = a.size + 1 := by omega
      subst hi'
      have hfin : Below w.heap.size w wr ∧ Tab 61 wr w.heap.size w.heap.size (a.size + 1) (b.size + 1) (fun i => w.heap.size + 1 + i) (fun i k => lev (peq a b) i k) := ⟨HF.below, HF.tab.congr fun i k hi hk => part_lt hi⟩
      have HFF := Lib.hid hfin
      clear hfin HF
      go_wp2_with fail
      exact HFF.out
end Go.Proofs.Ytmmcdncaiedmgaa
