import Derived.Test.YtmmcdncaiedmgaaK1
set_option linter.unusedVariables false
set_option linter.unusedSimpArgs false
namespace Go.Proofs.Ytmmcdncaiedmgaa
open Go.RowKit

def ltb (x y : ByteArray) : Bool := Op.bytesLess x.toList y.toList
def accX : Option (Nat × Nat) → Int | none => -1 | some p => p.1
def accY : Option (Nat × Nat) → Int | none => -1 | some p => p.2
def accIn (i n m : Nat) (acc : Option (Nat × Nat)) : Prop := ∀ p, acc = some p → i ≤ p.1 ∧ p.1 < n ∧ p.2 < m
theorem getD_get? {l : List ByteArray} {j : Nat} (h : j < l.length) : l[j]? = some (l.getD j ByteArray.empty) := by
  simp [List.getD_eq_getElem?_getD, List.getElem?_eq_getElem h]
theorem Strs.drop {w : World} {B : Nat} {A : Option Addr} {l : List ByteArray} (h : Strs w B A l) {k cap : Nat} (hk : k ≤ l.length) (hc : l.length ≤ cap) : Strs w B (if cap = k then A else A.map (·.add k)) (l.drop k) := fun hn => by
  rw [List.length_drop] at hn
  obtain ⟨b, o, rfl, hb, hcell⟩ := h (by omega)
  rw [if_neg (by omega)]
  refine ⟨b, o + k, by simp [Addr.add], hb, fun j hj => ?_⟩
  rw [List.length_drop] at hj
  have := hcell (k + j) (by omega)
  rw [Nat.add_assoc, this]
  simp [List.getD_eq_getElem?_getD, List.getElem?_drop]
theorem index_n (A : Option Addr) (n c : Nat) (l : List ByteArray) (x : ByteArray) (w : World) (B : Nat) (hn : l.length = n) (h : Strs w B A l) (hl : l.length ≤ 1000000) (r : Int) (hr : idxI l x = r) :
    Calls Try.prog 49 #[.slice A n c, .string x] w fun e w' => e = .returned (.int .i64 r) ∧ w' = w := by
  subst hn hr; exact (index_any A c l x w B h hl).mono fun e w' ⟨h1, h2⟩ => ⟨h1, h2.symm⟩
theorem run_tail {P : Program} (t : TypeId) (a : Option Addr) (n cap k : Nat) (ht : P.underlying t = some (.slice (P.elem t))) (hs : ∀ w, (sizeOf (P.elem t)).run P w = .ok 1 w) (hk : k ≤ n) (A' : Option Addr) (hA : (if cap = k then a else a.map (·.add k)) = A') (w : World) :
    (Instr.slice t (.slice a n cap) (some (.int .i64 k)) none none).run P w = .ok (.slice A' (n - k) (cap - k)) w := by
  rw [run_slice_l w t a n cap ht .i64 k (by omega) (by omega), hs, ← hA]
  simp [sliced]
theorem upd_none {la lb : List ByteArray} {i k m : Nat} {acc : Option (Nat × Nat)} (hm : m < la.length) (h : firstAt lb k (la.getD m ByteArray.empty) = none) : upd ltb la lb i k m acc = acc := by
  unfold upd; rw [getD_get? hm]; simp only [h]
theorem upd_not {la lb : List ByteArray} {i k m t : Nat} {acc : Option (Nat × Nat)} (hm : m < la.length) (h : firstAt lb k (la.getD m ByteArray.empty) = some t) (hn : ¬ R la lb (m + 1) (k + t + 1) + 1 = R la lb i k) : upd ltb la lb i k m acc = acc := by
  unfold upd; rw [getD_get? hm]; simp only [h, if_neg hn]
theorem upd_new {la lb : List ByteArray} {i k m t : Nat} (hm : m < la.length) (h : firstAt lb k (la.getD m ByteArray.empty) = some t) (hn : R la lb (m + 1) (k + t + 1) + 1 = R la lb i k) : upd ltb la lb i k m none = some (m, k + t) := by
  unfold upd; rw [getD_get? hm]; simp only [h, if_pos hn]
theorem upd_old {la lb : List ByteArray} {i k m t q r : Nat} (hm : m < la.length) (h : firstAt lb k (la.getD m ByteArray.empty) = some t) (hn : R la lb (m + 1) (k + t + 1) + 1 = R la lb i k) (hq : q < la.length) :
    upd ltb la lb i k m (some (q, r)) = if ltb (la.getD m ByteArray.empty) (la.getD q ByteArray.empty) = true then some (m, k + t) else some (q, r) := by
  unfold upd; rw [getD_get? hm]; simp only [h, if_pos hn, getD_get? hq]
theorem scan_go {la lb : List ByteArray} {i k f m : Nat} {acc : Option (Nat × Nat)} (hf : 0 < f) (h1 : m < la.length) (h2 : R la lb m k = R la lb i k) : scan ltb la lb i k f m acc = scan ltb la lb i k (f - 1) (m + 1) (upd ltb la lb i k m acc) := by
  obtain ⟨f, rfl⟩ : ∃ g, f = g + 1 := ⟨f - 1, by omega⟩
  rw [scan, if_pos ⟨h1, h2⟩]; rfl
theorem scan_stop {la lb : List ByteArray} {i k f m : Nat} {acc : Option (Nat × Nat)} (h : ¬ (m < la.length ∧ R la lb m k = R la lb i k)) : scan ltb la lb i k f m acc = acc := by
  cases f with
  | zero => rfl
  | succ f => rw [scan, if_neg h]
theorem find1_lt {x : ByteArray} : ∀ {l : List ByteArray} {t : Nat}, find1 x l = some t → t < l.length
  | [], t, h => by simp [find1] at h
  | y :: ys, t, h => by
    rw [find1] at h
    split at h
    · injection h with h; subst h; simp
    · cases hh : find1 x ys with
      | none => rw [hh] at h; simp at h
      | some s => rw [hh] at h; simp at h; subst h; have := find1_lt hh; simp; omega
theorem firstAt_lt {lb : List ByteArray} {k t : Nat} {x : ByteArray} (h : firstAt lb k x = some t) : k + t < lb.length := by
  have := find1_lt h; rw [List.length_drop] at this; omega

set_option maxHeartbeats 16000000 in
set_option maxRecDepth 1000000 in
theorem common_scan (la lb : List ByteArray) (Aa Ab : Option Addr) (ca cb : Nat) (w : World) (hla : la.length ≤ 256) (hlb : lb.length ≤ 256) (SAa : Strs w w.heap.size Aa la) (SBb : Strs w w.heap.size Ab lb) (hca : la.length ≤ ca) (hcb : lb.length ≤ cb) (i k : Nat) (hi : i ≤ la.length) (hk : k ≤ lb.length) (wr : World) (HB : Below w.heap.size w wr)
    (HT : Tab 61 wr w.heap.size w.heap.size (la.length + 1) (lb.length + 1) (fun i => w.heap.size + 1 + i) (fun i k => R la lb i k))
    {u4 u5 u7 u8 u9 u10 u16 u17 u18 u19 u20 u21 u22 u23 u24 u25 u26 u27 u28 u29 u30 u31 u32 u33 u34 u35 u36 u37 u38 u39 u40 u41 u42 u43 u44 u45 u46 u47 u48 u49 u50 u51 u52 u53 u54 u55 u56 u57 u58 u59 u60 u61 u62 u63 u64 u65 u66 u67 u68 u69 u70 u71 u72 u73 u74 u75 u76 u77 u78 u79 u80 u81 u82 u83 u84 u85 u86 u87 u88 u89 u90 u91 u92 u93 u94 u95 u96 u97 u98 u99 u100 u101 u102 u103 u104 u105 u106 u107 u108 u109 u110 u111 u112 u113 u114 u115 u116 u117 u118 u119 u120 u121 u122 u123 u124 u125 u126 u127 u128 u129 u130 u131 u132 u133 u134 u135 u136 u137 u138 u139 u140 u141 u142 u143 u144 u145 u146 u147 u148 u149 u150 u151 u152 u153 u154 u155 u156 u157 u158 u159 u160 u161 u162 u163 u164 u165 u166 u167 u168 u169 u170 u171 u172 u173 u174 u175 u176 u177 u178 u179 u180 u181 u182 u183 u184 u185 u186 u187 u188 u189 u190 u191 u192 u193 u194 u195 u196 u197 u198 u199 u200 : Value} {K K4 K5 : Act → World → Prop} {RP : Ending → World → Prop}
    (hK : ∀ (v15 v16 v118 v119 v120 v121 v122 v123 v124 v125 v126 v127 v128 v129 v130 v131 v132 v133 v134 v135 v136 v137 v138 v139 v140 v141 v142 v143 v144 v145 v146 v147 v148 v149 v150 v151 v152 v153 v154 v155 v156 v157 v158 v159 v160 v161 v162 v163 v164 v165 v166 v167 v168 v169 v170 v171 v172 v173 v174 v175 v176 v177 v178 v179 v180 v181 v182 v183 v184 v185 v186 v187 v188 v189 : Value) (wx : World), (accIn i la.length lb.length (scan ltb la lb i k (la.length + 1) i none) ∧ ∃ q, wx = wr.drewN q) → K ⟨#[.slice Aa la.length ca, .slice Ab lb.length cb, undef, undef, u4, u5, .slice (some ⟨w.heap.size, 0, none⟩) (la.length + 1) (la.length + 1), u7, u8, u9, u10, .int .i64 i, .int .i64 k, .int .i64 (accX (scan ltb la lb i k (la.length + 1) i none)), .int .i64 (accY (scan ltb la lb i k (la.length + 1) i none)), v15, v16, u17, u18, u19, u20, u21, u22, u23, u24, u25, u26, u27, u28, u29, u30, u31, u32, u33, u34, u35, u36, u37, u38, u39, u40, u41, u42, u43, u44, u45, u46, u47, u48, u49, u50, u51, u52, u53, u54, u55, u56, u57, u58, u59, u60, u61, u62, u63, u64, u65, u66, u67, u68, u69, u70, u71, u72, u73, u74, u75, u76, u77, u78, u79, u80, u81, u82, u83, u84, u85, u86, u87, u88, u89, u90, u91, u92, u93, u94, u95, u96, u97, u98, u99, u100, u101, u102, u103, u104, u105, u106, u107, u108, u109, u110, u111, u112, u113, u114, u115, u116, u117, v118, v119, v120, v121, v122, v123, v124, v125, v126, v127, v128, v129, v130, v131, v132, v133, v134, v135, v136, v137, v138, v139, v140, v141, v142, v143, v144, v145, v146, v147, v148, v149, v150, v151, v152, v153, v154, v155, v156, v157, v158, v159, v160, v161, v162, v163, v164, v165, v166, v167, v168, v169, v170, v171, v172, v173, v174, v175, v176, v177, v178, v179, v180, v181, v182, v183, v184, v185, v186, v187, v188, v189, u190, u191, u192, u193, u194, u195, u196, u197, u198, u199, u200, undef], []⟩ wx) :
    Code.wp Try.prog (piece 8 Try.f31) (Exit.then K (Exit.inBlock 7 (Exit.then K4 (Exit.inBlock 6 (Exit.then K5 (bodyPost Try.prog Try.f31 RP)))))) ⟨#[.slice Aa la.length ca, .slice Ab lb.length cb, undef, undef, u4, u5, .slice (some ⟨w.heap.size, 0, none⟩) (la.length + 1) (la.length + 1), u7, u8, u9, u10, .int .i64 i, .int .i64 k, .int .i64 (-1), .int .i64 (-1), .int .i64 i, u16, u17, u18, u19, u20, u21, u22, u23, u24, u25, u26, u27, u28, u29, u30, u31, u32, u33, u34, u35, u36, u37, u38, u39, u40, u41, u42, u43, u44, u45, u46, u47, u48, u49, u50, u51, u52, u53, u54, u55, u56, u57, u58, u59, u60, u61, u62, u63, u64, u65, u66, u67, u68, u69, u70, u71, u72, u73, u74, u75, u76, u77, u78, u79, u80, u81, u82, u83, u84, u85, u86, u87, u88, u89, u90, u91, u92, u93, u94, u95, u96, u97, u98, u99, u100, u101, u102, u103, u104, u105, u106, u107, u108, u109, u110, u111, u112, u113, u114, u115, u116, u117, u118, u119, u120, u121, u122, u123, u124, u125, u126, u127, u128, u129, u130, u131, u132, u133, u134, u135, u136, u137, u138, u139, u140, u141, u142, u143, u144, u145, u146, u147, u148, u149, u150, u151, u152, u153, u154, u155, u156, u157, u158, u159, u160, u161, u162, u163, u164, u165, u166, u167, u168, u169, u170, u171, u172, u173, u174, u175, u176, u177, u178, u179, u180, u181, u182, u183, u184, u185, u186, u187, u188, u189, u190, u191, u192, u193, u194, u195, u196, u197, u198, u199, u200, undef], []⟩ wr := by
  conv => arg 2; whnf
  have hB1 := SAa.below HB
  have hB2 := SBb.below HB
  obtain ⟨A', hA'⟩ : ∃ A', (if cb = k then Ab else Ab.map (·.add k)) = A' := ⟨_, rfl⟩
  have hdr : Strs wr w.heap.size A' (lb.drop k) := by rw [← hA']; exact hB2.drop hk hcb
  have htail := fun W => run_tail (P := Try.prog) 27 Ab lb.length cb k Try.underlying27 (fun w => by kernel_rfl) hk A' hA' W
  have e0 := HT.cell (i := i) (k := k) (by omega) (by omega)
  have t0 := HT.topc (i := i) (by omega)
  have hr0 := R_le la lb i k
  have HR := Lib.hid (And.intro HT (And.intro hB1 hdr))
  obtain ⟨r0, hr0'⟩ : ∃ r, w.heap.size + 1 + i = r := ⟨_, rfl⟩
  obtain ⟨r, hr⟩ : ∃ r, R la lb i k = r := ⟨_, rfl⟩
  simp only [hr0', hr] at e0 t0 hr0
  replace hr := Lib.hid hr
  clear hA' hr0' HT hB1 hB2 hdr SAa SBb HB
  go_wp2_with fail
  go_loopg [13, 14, 15] (la.length + 1) (fun f s13 s14 s15 wx => ∃ (m : Nat) (acc : Option (Nat × Nat)) (q : Nat), m ≤ la.length ∧ i ≤ m ∧ la.length + 1 ≤ f + m ∧ s13 = .int .i64 (accX acc) ∧ s14 = .int .i64 (accY acc) ∧ s15 = .int .i64 m ∧ wx = wr.drewN q ∧
      scan ltb la lb i k f m acc = (scan ltb la lb i k (la.length + 1) i none) ∧ accIn i la.length lb.length acc)
  case atStart => go_light; exact ⟨i, none, 0, hi, Nat.le_refl _, by omega, rfl, rfl, rfl, rfl, rfl, fun p h => by cases h⟩
  case round =>
    obtain ⟨m, acc, q, hm, him, hf, rfl, rfl, rfl, rfl, hsc, hin⟩ := hrel
    have hf1 : 0 < gk := by omega
    by_cases hmn : m < la.length
    · have hmnz : (m : Int) < (la.length : Int) := by omega
      have em := HR.out.1.cell (i := m) (k := k) (by omega) (by omega)
      have tm := HR.out.1.topc (i := m) (by omega)
      have hpb := R_le la lb m k
      obtain ⟨rm, hrm⟩ : ∃ r, w.heap.size + 1 + m = r := ⟨_, rfl⟩
      obtain ⟨p, hp⟩ : ∃ r, R la lb m k = r := ⟨_, rfl⟩
      simp only [hrm, hp] at em tm hpb
      replace hp := Lib.hid hp
      clear hrm
      by_cases hpr : p = r
      · have hb1 : ((p : Int) == (r : Int)) = true := by simp; omega
        have HS := Lib.hid (And.intro hsc (And.intro (show R la lb m k = R la lb i k from by rw [hp.out, hr.out, hpr]) hin))
        replace hpr := Lib.hid hpr
        clear hsc hin
        obtain ⟨ba, oa, rfl, hba, hca'⟩ := HR.out.2.1 (by omega)
        have c1 := hca' m hmn
        obtain ⟨xa, hxa⟩ : ∃ y, la.getD m ByteArray.empty = y := ⟨_, rfl⟩
        rw [hxa] at c1
        replace hxa := Lib.hid hxa
        replace hca' := Lib.hid hca'
        cases hfa : firstAt lb k xa with
        | none =>
          have hidx : idxI (lb.drop k) xa = -1 := by unfold idxI; rw [show find1 xa (lb.drop k) = none from hfa]
          have HI := fun q => index_n A' (lb.length - k) (cb - k) (lb.drop k) xa (wr.drewN q) w.heap.size (by simp) HR.out.2.2 (by simp; omega) _ hidx
          replace hfa := Lib.hid hfa
          replace HI := Lib.hid HI
          clear hidx
          go_wp2_with fail
          go_quiet (fail)
          go_wp2_with fail
          go_quiet ((go_at_call 49; exact (HI.out _).mono (fun _ _ h => ⟨h.1, _, h.2⟩)))
          go_wp2_with fail
          go_quiet (fail)
          go_wp2_with fail
          go_roundg (gk - 1)
          case measure => go_light; omega
          case rel =>
            go_light
            obtain ⟨z1, z2, z3⟩ := HS.out
            refine ⟨m + 1, acc, _, by omega, by omega, by omega, rfl, rfl, by go_num, rfl, ?_, z3⟩
            rw [← z1, scan_go (by omega) (by omega) z2, upd_none hmn (by rw [hxa.out]; exact hfa.out)]
        | some t =>
          have hidx : idxI (lb.drop k) xa = t := by unfold idxI; rw [show find1 xa (lb.drop k) = some t from hfa]
          have HI := fun q => index_n A' (lb.length - k) (cb - k) (lb.drop k) xa (wr.drewN q) w.heap.size (by simp) HR.out.2.2 (by simp; omega) _ hidx
          have hkt := firstAt_lt hfa
          have hktz : (k : Int) + (t : Int) + 1 < (lb.length : Int) + 1 := by omega
          have hm1z : (m : Int) + 1 < (la.length : Int) + 1 := by omega
          have e2 := HR.out.1.cell (i := m + 1) (k := k + t + 1) (by omega) (by omega)
          have t2 := HR.out.1.topc (i := m + 1) (by omega)
          have hsb := R_le la lb (m + 1) (k + t + 1)
          obtain ⟨r2, hr2⟩ : ∃ r, w.heap.size + 1 + (m + 1) = r := ⟨_, rfl⟩
          obtain ⟨s, hs⟩ : ∃ r, R la lb (m + 1) (k + t + 1) = r := ⟨_, rfl⟩
          simp only [hr2, hs] at e2 t2 hsb
          replace hs := Lib.hid hs
          replace hfa := Lib.hid hfa
          replace HI := Lib.hid HI
          clear hidx hr2
          have hneg : decide ((t : Int) < 0) = false := by simp
          by_cases hsr : s + 1 = r
          · have hb2 : ((1 + (s : Int)) != (r : Int)) = false := by simp; omega
            replace hsr := Lib.hid hsr
            cases hacc : acc with
            | none =>
              subst hacc
              simp only [accX, accY]
              go_wp2_with fail
              go_quiet (fail)
              go_wp2_with fail
              go_quiet ((go_at_call 49; exact (HI.out _).mono (fun _ _ h => ⟨h.1, _, h.2⟩)))
              go_wp2_with fail
              go_quiet (fail)
              go_wp2_with fail
              go_quiet (fail)
              go_wp2_with fail
              go_roundg (gk - 1)
              case measure => go_light; omega
              case rel =>
                go_light
                obtain ⟨z1, z2, z3⟩ := HS.out
                refine ⟨m + 1, some (m, k + t), _, by omega, by omega, by omega, rfl, by simp [accY], by go_num, rfl, ?_, fun p h => by cases h; exact ⟨him, hmn, hkt⟩⟩
                rw [← z1, scan_go (by omega) (by omega) z2, upd_new hmn (by rw [hxa.out]; exact hfa.out) (by rw [hs.out, hr.out]; exact hsr.out)]
            | some pq =>
              obtain ⟨x, y⟩ := pq
              subst hacc
              obtain ⟨_, hx1, hy1⟩ := HS.out.2.2 (x, y) rfl
              simp only [accX, accY]
              have c2 := hca'.out x hx1
              obtain ⟨xq, hxq⟩ : ∃ y, la.getD x ByteArray.empty = y := ⟨_, rfl⟩
              rw [hxq] at c2
              replace hxq := Lib.hid hxq
              have hxz : (x : Int) < (la.length : Int) := by omega
              have hxn : decide ((x : Int) < 0) = false := by simp
              cases hlt : Op.bytesLess xa.toList xq.toList
              · go_wp2_with fail
                go_quiet (fail)
                go_wp2_with fail
                go_quiet ((go_at_call 49; exact (HI.out _).mono (fun _ _ h => ⟨h.1, _, h.2⟩)))
                go_wp2_with fail
                go_quiet (fail)
                go_wp2_with fail
                go_quiet (fail)
                go_wp2_with fail
                go_roundg (gk - 1)
                case measure => go_light; omega
                case rel =>
                  go_light
                  obtain ⟨z1, z2, z3⟩ := HS.out
                  refine ⟨m + 1, some (x, y), _, by omega, by omega, by omega, rfl, rfl, by go_num, rfl, ?_, z3⟩
                  rw [← z1, scan_go (by omega) (by omega) z2, upd_old hmn (by rw [hxa.out]; exact hfa.out) (by rw [hs.out, hr.out]; exact hsr.out) hx1, if_neg (by rw [hxa.out, hxq.out, ltb, hlt]; decide)]
              · go_wp2_with fail
                go_quiet (fail)
                go_wp2_with fail
                go_quiet ((go_at_call 49; exact (HI.out _).mono (fun _ _ h => ⟨h.1, _, h.2⟩)))
                go_wp2_with fail
                go_quiet (fail)
                go_wp2_with fail
                go_quiet (fail)
                go_wp2_with fail
                go_roundg (gk - 1)
                case measure => go_light; omega
                case rel =>
                  go_light
                  obtain ⟨z1, z2, z3⟩ := HS.out
                  refine ⟨m + 1, some (m, k + t), _, by omega, by omega, by omega, rfl, by simp [accY], by go_num, rfl, ?_, fun p h => by cases h; exact ⟨him, hmn, hkt⟩⟩
                  rw [← z1, scan_go (by omega) (by omega) z2, upd_old hmn (by rw [hxa.out]; exact hfa.out) (by rw [hs.out, hr.out]; exact hsr.out) hx1, if_pos (by rw [hxa.out, hxq.out, ltb, hlt])]
          · have hb2 : ((1 + (s : Int)) != (r : Int)) = true := by simp; omega
            replace hsr := Lib.hid hsr
            go_wp2_with fail
            go_quiet (fail)
            go_wp2_with fail
            go_quiet ((go_at_call 49; exact (HI.out _).mono (fun _ _ h => ⟨h.1, _, h.2⟩)))
            go_wp2_with fail
            go_quiet (fail)
            go_wp2_with fail
            go_roundg (gk - 1)
            case measure => go_light; omega
            case rel =>
              go_light
              obtain ⟨z1, z2, z3⟩ := HS.out
              refine ⟨m + 1, acc, _, by omega, by omega, by omega, rfl, rfl, by go_num, rfl, ?_, z3⟩
              rw [← z1, scan_go (by omega) (by omega) z2, upd_not hmn (by rw [hxa.out]; exact hfa.out) (by rw [hs.out, hr.out]; exact hsr.out)]
      · have hb1 : ((p : Int) == (r : Int)) = false := by simp; omega
        have HS := Lib.hid (show acc = (scan ltb la lb i k (la.length + 1) i none) ∧ accIn i la.length lb.length acc from ⟨by rw [← hsc, scan_stop (by rw [hp.out, hr.out]; exact fun h => hpr h.2)], hin⟩)
        clear hsc hin hpr
        go_wp2_with fail
        go_quiet (fail)
        go_wp2_with fail
        obtain ⟨z1, z2⟩ := HS.out
        subst z1
        exact hK _ _ _ _ _ _ _ _ _ _ _ _ _ _ _ _ _ _ _ _ _ _ _ _ _ _ _ _ _ _ _ _ _ _ _ _ _ _ _ _ _ _ _ _ _ _ _ _ _ _ _ _ _ _ _ _ _ _ _ _ _ _ _ _ _ _ _ _ _ _ _ _ _ _ _ ⟨z2, _, by first | rfl | exact World.drewN_drewN _ _ _⟩
    · have HS := Lib.hid (show acc = (scan ltb la lb i k (la.length + 1) i none) ∧ accIn i la.length lb.length acc from ⟨by rw [← hsc, scan_stop (fun h => hmn h.1)], hin⟩)
      have hg1 : decide ((m : Int) < (la.length : Int)) = false := by simp; omega
      have hg2 : decide (m < la.length) = false := by simp; omega
      clear hsc hin
      go_wp2_with fail
      go_quiet (fail)
      go_wp2_with fail
      obtain ⟨z1, z2⟩ := HS.out
      subst z1
      exact hK _ _ _ _ _ _ _ _ _ _ _ _ _ _ _ _ _ _ _ _ _ _ _ _ _ _ _ _ _ _ _ _ _ _ _ _ _ _ _ _ _ _ _ _ _ _ _ _ _ _ _ _ _ _ _ _ _ _ _ _ _ _ _ _ _ _ _ _ _ _ _ _ _ _ _ ⟨z2, _, by first | rfl | exact World.drewN_drewN _ _ _⟩
end Go.Proofs.Ytmmcdncaiedmgaa
