import Derived.Test.YtmmcdncaiedmgaaS3
import Derived.Test.YtmmcdncaiedmgaaR
set_option linter.unusedVariables false
set_option linter.unusedSimpArgs false
namespace Go.Proofs.Ytmmcdncaiedmgaa
open Go.RowKit
set_option maxHeartbeats 16000000 in
set_option maxRecDepth 1000000 in
theorem trace_insert (a b : ByteArray) (w wc : World) (ha : a.size ≤ 256) (hb : b.size ≤ 256) (H0 : Hid (TabAt a b w wc)) (gk i k : Nat) (L : List Ed) (wr : World)
    {u4 u5 u7 u8 u9 u12 u13 u14 u15 u16 u17 u18 u19 u20 u21 u22 u23 u24 u25 u26 u27 u28 u29 u30 u31 u32 u33 u34 u35 u36 u37 u38 u39 u40 u41 u42 u43 u44 u45 u46 u47 u48 u49 u50 u51 u52 u53 u54 u55 u56 u57 u58 u59 u60 u61 u62 u63 u64 u65 u66 u67 u68 u69 u70 u71 u72 u73 u74 u75 u76 u77 u78 u79 u80 u81 u82 u83 u84 u85 u86 u87 u88 u89 u90 u91 u92 u93 u94 u95 u96 u97 u98 u99 u100 u101 u102 u103 u104 u105 u106 u107 u108 u109 u110 u111 u112 u113 u114 u115 u116 u117 u118 u119 u120 u121 u122 u123 u124 u125 u126 u127 u128 u129 u130 u131 u132 u133 u134 u135 u136 u137 u138 u139 u140 u141 u142 u143 u144 u145 u146 u147 u148 u149 u150 u151 u152 u153 u154 u155 u156 u157 u158 u159 u160 u161 u162 u163 u164 u165 u166 u167 u168 u169 u170 u171 u172 u173 u174 u175 u176 u177 u178 u179 u180 u181 u182 u183 u184 u185 u186 u187 u188 u189 u190 u191 u192 u193 u194 u195 u196 u197 u198 u199 u200 u201 u202 u203 u204 u205 u206 u207 u208 u209 u210 u211 u212 u213 u214 u215 u216 u217 u218 u219 u220 u221 u222 u223 u224 u225 u226 u227 u228 u229 u230 u231 u232 u233 u234 u235 u236 u237 u238 u239 u240 u241 u242 u243 u244 u245 u246 u247 u248 u249 u250 u251 u252 u253 u254 u255 u256 u257 u258 u259 u260 u261 u262 u263 u264 u265 u266 u267 u268 : Value} {KR K : Act → World → Prop} {R : Ending → World → Prop}
    (hi : i ≤ a.size) (hk : k ≤ b.size) (hik : i + k ≤ gk) (hL : gk + L.length ≤ a.size + b.size) (htr : trace (peq a b) b gk i k ++ L.reverse = script a b)
    (hown : wr.ownsRow wc.heap.size 43 3 u9 L.length (edc L)) (hbl : Below wc.heap.size wc wr) (hA : 0 < i ∧ 0 < k) (h1 : ¬ (peq a b (i - 1) (k - 1) = true ∧ lev (peq a b) i k = lev (peq a b) (i - 1) (k - 1))) (h2 : ¬ lev (peq a b) i k = lev (peq a b) (i - 1) (k - 1) + 1) (h3 : ¬ lev (peq a b) i k = lev (peq a b) (i - 1) k + 1)
    (hK : ∀ (v9 v10 v11 v140 v141 v142 v143 v144 v145 v146 v147 v148 v149 v150 v151 v152 v153 v154 v155 v156 v157 v158 v159 v160 v161 v162 v163 v164 v165 v166 v167 v168 v169 v170 v171 v172 v173 v174 v175 v176 v177 v178 v179 v180 v181 v182 v183 v184 v185 v186 v187 v188 v189 v190 v191 v192 v193 v194 v195 v196 v197 v198 v199 v200 v201 v202 v203 v204 v205 v206 v207 v208 v209 v210 v211 v212 v213 v214 v215 v216 v217 v218 v219 v220 v221 v222 v223 v224 v225 v226 v227 v228 v229 v230 v231 v232 v233 v234 v235 v236 v237 v238 v239 v240 v241 v242 v243 v244 v245 v246 v247 v248 v249 v250 v251 v252 v253 v254 v255 v256 v257 v258 v259 v260 v261 v262 v263 v264 v265 v266 v267 v268 : Value) (wx : World), TrRel a b wc (gk - 1) v9 v10 v11 wx → KR ⟨#[.string a, .string b, undef, undef, u4, u5, .slice (some ⟨w.heap.size, 0, none⟩) (a.size + 1) (a.size + 1), u7, u8, v9, v10, v11, u12, u13, u14, u15, u16, u17, u18, u19, u20, u21, u22, u23, u24, u25, u26, u27, u28, u29, u30, u31, u32, u33, u34, u35, u36, u37, u38, u39, u40, u41, u42, u43, u44, u45, u46, u47, u48, u49, u50, u51, u52, u53, u54, u55, u56, u57, u58, u59, u60, u61, u62, u63, u64, u65, u66, u67, u68, u69, u70, u71, u72, u73, u74, u75, u76, u77, u78, u79, u80, u81, u82, u83, u84, u85, u86, u87, u88, u89, u90, u91, u92, u93, u94, u95, u96, u97, u98, u99, u100, u101, u102, u103, u104, u105, u106, u107, u108, u109, u110, u111, u112, u113, u114, u115, u116, u117, u118, u119, u120, u121, u122, u123, u124, u125, u126, u127, u128, u129, u130, u131, u132, u133, u134, u135, u136, u137, u138, u139, v140, v141, v142, v143, v144, v145, v146, v147, v148, v149, v150, v151, v152, v153, v154, v155, v156, v157, v158, v159, v160, v161, v162, v163, v164, v165, v166, v167, v168, v169, v170, v171, v172, v173, v174, v175, v176, v177, v178, v179, v180, v181, v182, v183, v184, v185, v186, v187, v188, v189, v190, v191, v192, v193, v194, v195, v196, v197, v198, v199, v200, v201, v202, v203, v204, v205, v206, v207, v208, v209, v210, v211, v212, v213, v214, v215, v216, v217, v218, v219, v220, v221, v222, v223, v224, v225, v226, v227, v228, v229, v230, v231, v232, v233, v234, v235, v236, v237, v238, v239, v240, v241, v242, v243, v244, v245, v246, v247, v248, v249, v250, v251, v252, v253, v254, v255, v256, v257, v258, v259, v260, v261, v262, v263, v264, v265, v266, v267, v268, undef, undef, undef], []⟩ wx) :
    Code.wp Try.prog (loopBody (piece 5 Try.f18)) (Exit.then KR (Exit.inBlock 5 (Exit.then K (bodyPost Try.prog Try.f18 R)))) ⟨#[.string a, .string b, undef, undef, u4, u5, .slice (some ⟨w.heap.size, 0, none⟩) (a.size + 1) (a.size + 1), u7, u8, u9, .int .i64 i, .int .i64 k, u12, u13, u14, u15, u16, u17, u18, u19, u20, u21, u22, u23, u24, u25, u26, u27, u28, u29, u30, u31, u32, u33, u34, u35, u36, u37, u38, u39, u40, u41, u42, u43, u44, u45, u46, u47, u48, u49, u50, u51, u52, u53, u54, u55, u56, u57, u58, u59, u60, u61, u62, u63, u64, u65, u66, u67, u68, u69, u70, u71, u72, u73, u74, u75, u76, u77, u78, u79, u80, u81, u82, u83, u84, u85, u86, u87, u88, u89, u90, u91, u92, u93, u94, u95, u96, u97, u98, u99, u100, u101, u102, u103, u104, u105, u106, u107, u108, u109, u110, u111, u112, u113, u114, u115, u116, u117, u118, u119, u120, u121, u122, u123, u124, u125, u126, u127, u128, u129, u130, u131, u132, u133, u134, u135, u136, u137, u138, u139, u140, u141, u142, u143, u144, u145, u146, u147, u148, u149, u150, u151, u152, u153, u154, u155, u156, u157, u158, u159, u160, u161, u162, u163, u164, u165, u166, u167, u168, u169, u170, u171, u172, u173, u174, u175, u176, u177, u178, u179, u180, u181, u182, u183, u184, u185, u186, u187, u188, u189, u190, u191, u192, u193, u194, u195, u196, u197, u198, u199, u200, u201, u202, u203, u204, u205, u206, u207, u208, u209, u210, u211, u212, u213, u214, u215, u216, u217, u218, u219, u220, u221, u222, u223, u224, u225, u226, u227, u228, u229, u230, u231, u232, u233, u234, u235, u236, u237, u238, u239, u240, u241, u242, u243, u244, u245, u246, u247, u248, u249, u250, u251, u252, u253, u254, u255, u256, u257, u258, u259, u260, u261, u262, u263, u264, u265, u266, u267, u268, undef, undef, undef], []⟩ wr := by
  conv => arg 2; whnf
  have hgk : 1 ≤ gk := by omega
  have htb := H0.out.2.below hbl (Nat.le_refl _)
  obtain ⟨hi0, hk0⟩ := hA
  have t1 := htb.topc (i := i) (by omega)
  have t0 := htb.topc (i := i - 1) (by omega)
  have e11 := htb.cell (i := i) (k := k) (by omega) (by omega)
  have e00 := htb.cell (i := i - 1) (k := k - 1) (by omega) (by omega)
  have e01 := htb.cell (i := i - 1) (k := k) (by omega) (by omega)
  have b0 := lev_le (peq a b) i k
  have b1 := lev_le (peq a b) (i - 1) (k - 1)
  have b2 := lev_le (peq a b) (i - 1) k
  obtain ⟨r1, hr1⟩ : ∃ r, w.heap.size + 1 + i = r := ⟨_, rfl⟩
  obtain ⟨r0, hr0⟩ : ∃ r, w.heap.size + 1 + (i - 1) = r := ⟨_, rfl⟩
  obtain ⟨d, hd1⟩ : ∃ x, lev (peq a b) i k = x := ⟨_, rfl⟩
  obtain ⟨x, hx⟩ : ∃ x, lev (peq a b) (i - 1) (k - 1) = x := ⟨_, rfl⟩
  obtain ⟨y, hy⟩ : ∃ x, lev (peq a b) (i - 1) k = x := ⟨_, rfl⟩
  simp only [hr1, hr0, hd1, hx, hy] at h1 h2 h3 t1 t0 e11 e00 e01 b0 b1 b2
  have HX := Lib.hid (And.intro hd1 (And.intro hx (And.intro hy htr)))
  have HO := Lib.hid (And.intro hown hbl)
  have hia := fun W => run_index_str (P := Try.prog) 9 a ((i : Int) - 1) (i - 1) (by omega) (by omega) (by omega) Try.underlying9 W
  have hib := fun W => run_index_str (P := Try.prog) 9 b ((k : Int) - 1) (k - 1) (by omega) (by omega) (by omega) Try.underlying9 W
  have hpq : (((bat a (i - 1)).toNat : Int) == ((bat b (k - 1)).toNat : Int)) = peq a b (i - 1) (k - 1) := u8_beq _ _
  have g1 : decide ((0 : Int) < (i : Int)) = true := by simp; omega
  have g2 : decide ((0 : Int) < (k : Int)) = true := by simp; omega
  clear hr1 hr0 hd1 hx hy htr hown hbl htb
  have hnm : ¬ (peq a b (i - 1) (k - 1) = true ∧ d = x) := h1
  have HN := Lib.hid hnm
  clear hnm
  have q2 : ((d : Int) == (x : Int) + 1) = false := by simp; omega
  have HN2 := Lib.hid h2
  have hcase : (((bat a (i - 1)).toNat : Int) == ((bat b (k - 1)).toNat : Int)) = false ∨ ((((bat a (i - 1)).toNat : Int) == ((bat b (k - 1)).toNat : Int)) = true ∧ ((d : Int) == (x : Int)) = false) := by
    rw [hpq]; cases hh : peq a b (i - 1) (k - 1)
    · exact .inl rfl
    · exact .inr ⟨rfl, by simp; intro e; exact h1 ⟨hh, by omega⟩⟩
  clear h1 hpq h2
  have q3 : ((d : Int) == (y : Int) + 1) = false := by simp; omega
  have HD := Lib.hid h3
  clear h3
  rcases hcase with hp | ⟨hp, hp2⟩
  all_goals
    go_wp2_with fail
    go_quiet (fail)
    go_wp2_with fail
    go_quiet (fail)
    go_wp2_with fail
    go_quiet (fail)
    go_wp2_with (at_builtin; refine app_new _ rfl _ _ 32 43 rfl _ 3 32 Try.underlying32 info43 rfl (by decide) wc.heap.size _ L.length (edc L) rfl (ownsRow_drewN HO.out.1 _) 1 1 _ rfl rfl (by simp [Value.oneCell']) (by unfold maxLen; omega) (by omega) (by exact HO.out.2.size) ?_; intro v' w1 hown' hgrow)
    unfold TrRel
    go_light
    obtain ⟨z1, z2, z3, z4⟩ := HX.out
    obtain ⟨z5, z6⟩ := HO.out
    refine ⟨i, k - 1, L ++ [⟨i, 0, sub1 b (k - 1)⟩], by omega, by omega, by omega, by simp; omega, rfl, int_pred hk0, ?_, ?_, app_below (drewN_below z6 _) z6.size (ownsRow_drewN z5 _) hgrow⟩
    · rw [← z4, tr_insert hgk hk0 (by rw [z1, z2]; exact fun h => HN.out h.2) (by rw [z1, z2]; exact fun h => HN2.out h.2) (by rw [z1, z3]; exact fun h => HD.out h.2)]; simp
    · rw [edc_snoc, List.length_append, ← sub1_pred hk0]
      exact hown'
end Go.Proofs.Ytmmcdncaiedmgaa
