import Derived.Test.YtmmcdncaiedmgaaK2
set_option linter.unusedVariables false
set_option linter.unusedSimpArgs false
namespace Go.Proofs.Ytmmcdncaiedmgaa
open Go.RowKit
set_option maxHeartbeats 16000000 in
set_option maxRecDepth 1000000 in
theorem common_fill (la lb : List ByteArray) (Aa Ab : Option Addr) (ca cb : Nat) (w : World) (hla : la.length ≤ 256) (hlb : lb.length ≤ 256) (SAa : Strs w w.heap.size Aa la) (SBb : Strs w w.heap.size Ab lb) (wr : World) (HF0 : FilR la lb w wr la.length 0)
    {u4 u5 u7 u17 u18 u19 u20 u21 u22 u23 u24 u25 u26 u27 u28 u29 u30 u31 u32 u33 u34 u35 u36 u37 u38 u39 u40 u41 : Value} {K : Act → World → Prop} {RP : Ending → World → Prop}
    (hK : ∀ (v8 v9 v42 v43 v44 v45 v46 v47 v48 v49 v50 v51 v52 v53 v54 v55 v56 v57 v58 v59 v60 v61 v62 v63 v64 v65 v66 v67 v68 v69 v70 v71 v72 v73 v74 v75 v76 v77 v78 v79 v80 v81 v82 v83 v84 v85 v86 v87 v88 v89 v90 v91 v92 v93 v94 v95 v96 v97 v98 v99 v100 v101 v102 v103 v104 v105 v106 v107 v108 : Value) (wx : World), FilR la lb w wx 0 0 → K ⟨#[.slice Aa la.length ca, .slice Ab lb.length cb, undef, undef, u4, u5, .slice (some ⟨w.heap.size, 0, none⟩) (la.length + 1) (la.length + 1), u7, v8, v9, undef, undef, undef, undef, undef, undef, undef, u17, u18, u19, u20, u21, u22, u23, u24, u25, u26, u27, u28, u29, u30, u31, u32, u33, u34, u35, u36, u37, u38, u39, u40, u41, v42, v43, v44, v45, v46, v47, v48, v49, v50, v51, v52, v53, v54, v55, v56, v57, v58, v59, v60, v61, v62, v63, v64, v65, v66, v67, v68, v69, v70, v71, v72, v73, v74, v75, v76, v77, v78, v79, v80, v81, v82, v83, v84, v85, v86, v87, v88, v89, v90, v91, v92, v93, v94, v95, v96, v97, v98, v99, v100, v101, v102, v103, v104, v105, v106, v107, v108, undef, undef, undef, undef, undef, undef, undef, undef, undef, undef, undef, undef, undef, undef, undef, undef, undef, undef, undef, undef, undef, undef, undef, undef, undef, undef, undef, undef, undef, undef, undef, undef, undef, undef, undef, undef, undef, undef, undef, undef, undef, undef, undef, undef, undef, undef, undef, undef, undef, undef, undef, undef, undef, undef, undef, undef, undef, undef, undef, undef, undef, undef, undef, undef, undef, undef, undef, undef, undef, undef, undef, undef, undef, undef, undef, undef, undef, undef, undef, undef, undef, undef, undef, undef, undef, undef, undef, undef, undef, undef, undef, undef, undef], []⟩ wx) :
    Code.wp Try.prog (piece 2 Try.f31) (Exit.then K (bodyPost Try.prog Try.f31 RP)) ⟨#[.slice Aa la.length ca, .slice Ab lb.length cb, undef, undef, u4, u5, .slice (some ⟨w.heap.size, 0, none⟩) (la.length + 1) (la.length + 1), u7, .int .i64 ((la.length : Int) - 1), undef, undef, undef, undef, undef, undef, undef, undef, u17, u18, u19, u20, u21, u22, u23, u24, u25, u26, u27, u28, u29, u30, u31, u32, u33, u34, u35, u36, u37, u38, u39, u40, u41, undef, undef, undef, undef, undef, undef, undef, undef, undef, undef, undef, undef, undef, undef, undef, undef, undef, undef, undef, undef, undef, undef, undef, undef, undef, undef, undef, undef, undef, undef, undef, undef, undef, undef, undef, undef, undef, undef, undef, undef, undef, undef, undef, undef, undef, undef, undef, undef, undef, undef, undef, undef, undef, undef, undef, undef, undef, undef, undef, undef, undef, undef, undef, undef, undef, undef, undef, undef, undef, undef, undef, undef, undef, undef, undef, undef, undef, undef, undef, undef, undef, undef, undef, undef, undef, undef, undef, undef, undef, undef, undef, undef, undef, undef, undef, undef, undef, undef, undef, undef, undef, undef, undef, undef, undef, undef, undef, undef, undef, undef, undef, undef, undef, undef, undef, undef, undef, undef, undef, undef, undef, undef, undef, undef, undef, undef, undef, undef, undef, undef, undef, undef, undef, undef, undef, undef, undef, undef, undef, undef, undef, undef, undef, undef, undef, undef, undef, undef, undef, undef, undef, undef, undef, undef, undef, undef, undef, undef, undef, undef], []⟩ wr := by
  conv => arg 2; whnf
  go_wp2_with fail
  go_loopg [8] la.length (fun g c wr => g ≤ la.length ∧ c = .int .i64 ((g : Int) - 1) ∧ FilR la lb w wr g 0)
  case atStart => go_light; exact ⟨Nat.le_refl _, rfl, HF0⟩
  case round =>
    clear HF0
    obtain ⟨hx, rfl, HF⟩ := hrel
    by_cases h0 : 0 < gk
    · obtain ⟨i, rfl⟩ : ∃ k, gk = k + 1 := ⟨gk - 1, by omega⟩
      have HF1 := Lib.hid (filR_next HF)
      clear HF h0
      go_upto_block 4 with fail
      rw [show ((i + 1 : Nat) : Int) - 1 = (i : Int) from by omega]
      refine common_row la lb Aa Ab ca cb w hla hlb SAa SBb i (by omega) _ HF1.out ?_
      clear HF1
      intro _ _ _ _ _ _ _ _ _ _ _ _ _ _ _ _ _ _ _ _ _ _ _ _ _ _ _ _ _ _ _ _ _ _ _ _ _ _ _ _ _ _ _ _ _ _ _ _ _ _ _ _ _ _ _ _ _ _ _ _ _ wx HF
      dsimp only
      have HF' := Lib.hid HF
      clear HF
      go_wp2_with fail
      go_roundg i
      case measure => go_light; omega
      case rel => go_light; exact ⟨by omega, rfl, HF'.out⟩
    · have hk' : gk = 0 := by omega
      subst hk'
      have HF' := Lib.hid HF
      clear HF
      go_wp2_with fail
      exact HF'.out
end Go.Proofs.Ytmmcdncaiedmgaa
