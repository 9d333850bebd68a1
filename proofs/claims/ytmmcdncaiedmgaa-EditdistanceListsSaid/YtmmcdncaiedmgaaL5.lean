import Derived.Test.YtmmcdncaiedmgaaL4
set_option linter.unusedVariables false
set_option linter.unusedSimpArgs false
namespace Go.Proofs.Ytmmcdncaiedmgaa
open Go.RowKit
set_option maxHeartbeats 16000000 in
set_option maxRecDepth 1000000 in
theorem rcommon_any (la lb : List ByteArray) (Aa Ab : Option Addr) (ca cb : Nat) (w : World) (hla : la.length ≤ 256) (hlb : lb.length ≤ 256) (SA : Strs w w.heap.size Aa la) (SB : Strs w w.heap.size Ab lb) :
    Calls Try.prog 32 #[.slice Aa la.length ca, .slice Ab lb.length cb] w (CommonPost la lb w) := by
  have hd1 : decide ((256 : Int) < (la.length : Int)) = false := by simp; omega
  have hd2 : decide ((256 : Int) < (lb.length : Int)) = false := by simp; omega
  have hlen := lengths_any la lb Aa Ab ca cb w hla hlb SA SB
  replace hlen := Lib.hid hlen
  go_enter Try.func32, Try.ntmps32
  go_wp2_with fail
  refine hlen.out.mono ?_
  rintro e w1 ⟨rfl, gg, HT⟩
  have hB1 := HT.below
  have HL := HT.lt
  obtain ⟨T, hTT⟩ : ∃ T, w.heap.size = T := ⟨_, rfl⟩
  rw [hTT] at HL ⊢
  have SA1 : Strs w1 w.heap.size Aa la := SA.below hB1
  have SB1 : Strs w1 w.heap.size Ab lb := SB.below hB1
  rw [hTT] at SA1 SB1
  have H0 := Lib.hid (And.intro hB1 (And.intro HL (And.intro SA1 (And.intro SB1 hTT))))
  have hw1 : T ≤ w1.heap.size := by have := hB1.size; omega
  clear hlen HT hB1 HL SA SB SA1 SB1 hd1 hd2
  go_wp2_with fail
  go_loopg [7, 8, 9] (la.length + 1) (fun g s7 s8 s9 wr => CmRel la lb w1 g s7 s8 s9 wr)
  case atStart =>
    go_light
    exact ⟨0, 0, [], by omega, by omega, by omega, by simp, rfl, rfl, rfl, World.ownsRow_nil _ _ _ _, Below.refl _ _⟩
  case round =>
    obtain ⟨G, hG⟩ : ∃ G, G = gk := ⟨_, rfl⟩
    subst hG
    obtain ⟨i, k, L, hi, hk, hg, hL, rfl, rfl, hcm, hown, hbl⟩ := hrel
    have HL := H0.out.2.1.below hbl
    have e0 := HL.cell i k hi hk
    have t0 := HL.top i hi
    have hrle := R_le la lb i k
    have hlt : i ≤ la.length ∧ k ≤ lb.length := ⟨hi, hk⟩
    obtain ⟨ri, hri⟩ : ∃ r, T + 1 + (la.length - i) = r := ⟨_, rfl⟩
    obtain ⟨r, hr⟩ : ∃ r, R la lb i k = r := ⟨_, rfl⟩
    rw [hri] at e0 t0
    rw [hr] at e0 hrle
    have hiz : (i : Int) < (la.length : Int) + 1 := by omega
    have hkz : (k : Int) < (lb.length : Int) + 1 := by omega
    by_cases h0 : 0 < r
    · have h0z : (0 : Int) < (r : Int) := by omega
      have hst := step_spec ltb_irr ltb_trans (show 0 < R la lb i k by omega)
      have HO := Lib.hid (And.intro hcm (And.intro hown (And.intro hbl (And.intro HL (And.intro hst hr)))))
      clear hcm hown hbl HL hst hr
      go_wp2_with fail
      go_loopg [12, 10, 11] (la.length - i) (fun gK s12 s10 s11 wx => ∃ (K q : Nat), i ≤ K ∧ K ≤ la.length ∧ gK = la.length - K ∧ s12 = .int .i64 K ∧ wx = wr.drewN q ∧ SInv la lb i k (fun p _ => p < K) s10 s11)
      case atStart =>
        go_light
        exact ⟨i, 0, by omega, by omega, by omega, rfl, rfl, .inl ⟨rfl, rfl, fun p q u hp hpr => by have := hpr.1; omega⟩⟩
      case round =>
        obtain ⟨K, q, hiK, hK, hgK, rfl, rfl, hSI⟩ := hrel
        by_cases hKn : K < la.length
        · have hKz : (K : Int) < (la.length : Int) := by omega
          have hSI' := Lib.hid hSI
          clear hSI
          go_wp2_with fail
          go_loopg [13, 10, 11] (lb.length - k) (fun gM s13 s10 s11 wx => ∃ (M q : Nat), k ≤ M ∧ M ≤ lb.length ∧ gM = lb.length - M ∧ s13 = .int .i64 M ∧ wx = wr.drewN q ∧ SInv la lb i k (fun p q => p < K ∨ p = K ∧ q < M) s10 s11)
          case atStart =>
            go_light
            exact ⟨k, q, by omega, by omega, by omega, rfl, rfl, hSI'.out.more fun p q u hq hp => by
              rcases hq with h | ⟨_, h⟩
              · exact h
              · have := hp.2.1; omega⟩
          case round =>
            clear hSI'
            obtain ⟨M, q, hkM, hM, hgM, rfl, rfl, hSI⟩ := hrel
            by_cases hMm : M < lb.length
            · have hMz : (M : Int) < (lb.length : Int) := by omega
              have HL := HO.out.2.2.2.1
              have hbl := HO.out.2.2.1
              obtain ⟨ba, oa, rfl, hba, hca⟩ := H0.out.2.2.1 (by omega)
              obtain ⟨bb, ob, rfl, hbb, hcb⟩ := H0.out.2.2.2.1 (by omega)
              have s1 := ((hbl.cell (p := ⟨ba, oa + K, none⟩) (by show ba < _; omega)).trans (hca K hKn))
              have s2 := ((hbl.cell (p := ⟨bb, ob + M, none⟩) (by show bb < _; omega)).trans (hcb M hMm))
              have t1 := HL.top (K + 1) (by omega)
              have e1 := HL.cell (K + 1) (M + 1) (by omega) (by omega)
              have hb3 := R_le la lb (K + 1) (M + 1)
              obtain ⟨rK, hrK⟩ : ∃ r, T + 1 + (la.length - (K + 1)) = r := ⟨_, rfl⟩
              obtain ⟨s, hs⟩ : ∃ y, R la lb (K + 1) (M + 1) = y := ⟨_, rfl⟩
              obtain ⟨xa, hxa⟩ : ∃ y, la.getD K ByteArray.empty = y := ⟨_, rfl⟩
              obtain ⟨xb, hxb⟩ : ∃ y, lb.getD M ByteArray.empty = y := ⟨_, rfl⟩
              have hgA : la[K]? = some xa := by rw [getD_get? hKn, hxa]
              have hgB : lb[M]? = some xb := by rw [getD_get? hMm, hxb]
              have hrr := HO.out.2.2.2.2.2
              have hpair : xa = xb → s + 1 = r → Pr la lb i k K M xa := fun e1 e2 => ⟨hiK, hkM, hgA, by rw [hgB, e1], by rw [hs, hrr, e2]⟩
              have hnot : (xa ≠ xb ∨ s + 1 ≠ r) → ∀ u, ¬ Pr la lb i k K M u := fun h u hp => by
                have h1 := hp.2.2.1
                have h2 := hp.2.2.2.1
                have h3 := hp.2.2.2.2
                rw [hgA] at h1
                rw [hgB] at h2
                cases h1
                cases h2
                rw [hs, hrr] at h3
                rcases h with h | h
                · exact h rfl
                · exact h h3
              rw [hrK] at t1 e1
              rw [hs] at e1 hb3
              rw [hxa] at s1
              rw [hxb] at s2
              have HP := Lib.hid (And.intro hpair (And.intro hnot hgA))
              have HI := Lib.hid hSI
              have hK1z : (K : Int) + 1 < (la.length : Int) + 1 := by omega
              have hM1z : (M : Int) + 1 < (lb.length : Int) + 1 := by omega
              have hallx : ∀ x : Nat, x < la.length → wr.cell? ⟨ba, oa + x, none⟩ = some (.string (la.getD x ByteArray.empty)) := fun x hx => ((hbl.cell (p := ⟨ba, oa + x, none⟩) (by show ba < _; omega)).trans (hca x hx))
              have HA := Lib.hid hallx
              clear HL hbl hca hcb hrK hs hxa hxb hgA hgB hrr hpair hnot hSI hallx
              by_cases he : xa = xb
              · have hb1 : (xa.toList == xb.toList) = true := by rw [str_beq]; simpa using he
                by_cases hsr : s + 1 = r
                · have hb2 : ((s : Int) + 1 == (r : Int)) = true := by simp; omega
                  have hPr := Lib.hid (HP.out.1 he hsr)
                  replace he := Lib.hid he
                  have hsr' := Lib.hid hsr
                  clear hsr
                  rcases HI.out with ⟨rfl, rfl, h3⟩ | ⟨x, y, z, rfl, rfl, h3, h4⟩
                  · have H3 := Lib.hid h3
                    clear h3
                    go_wp2_with fail
                    go_quiet (fail)
                    go_wp2_with fail
                    go_roundg (lb.length - (M + 1))
                    case measure => go_light; omega
                    case rel =>
                      go_light
                      exact ⟨M + 1, _, by omega, by omega, by omega, by go_num, rfl, SInv.first (K := K) (M := M) (fun p q h => by omega) H3.out hPr.out⟩
                  · have hxn := get_lt h3.2.2.1
                    have c3 := HA.out x hxn
                    rw [show la.getD x ByteArray.empty = z by rw [List.getD_eq_getElem?_getD, h3.2.2.1]; rfl] at c3
                    have hx0 : decide ((x : Int) < 0) = false := by simp
                    have hxnz : (x : Int) < (la.length : Int) := by omega
                    have H3 := Lib.hid (And.intro h3 h4)
                    clear h3 h4
                    cases hl : ltb xa z
                    · have hl' : Op.bytesLess xa.toList z.toList = false := hl
                      replace hl := Lib.hid hl
                      go_wp2_with fail
                      go_quiet (fail)
                      go_wp2_with fail
                      go_roundg (lb.length - (M + 1))
                      case measure => go_light; omega
                      case rel =>
                        go_light
                        exact ⟨M + 1, _, by omega, by omega, by omega, by go_num, rfl, SInv.keep (K := K) (M := M) (fun p q h => by omega) H3.out.1 H3.out.2 hPr.out hl.out⟩
                    · have hl' : Op.bytesLess xa.toList z.toList = true := hl
                      replace hl := Lib.hid hl
                      go_wp2_with fail
                      go_quiet (fail)
                      go_wp2_with fail
                      go_roundg (lb.length - (M + 1))
                      case measure => go_light; omega
                      case rel =>
                        go_light
                        exact ⟨M + 1, _, by omega, by omega, by omega, by go_num, rfl, SInv.take (K := K) (M := M) (fun p q h => by omega) H3.out.2 hPr.out hl.out⟩
                · have hb2 : ((s : Int) + 1 == (r : Int)) = false := by simp; omega
                  have HN := Lib.hid (HP.out.2.1 (.inr hsr))
                  clear he
                  go_wp2_with fail
                  go_quiet (fail)
                  go_wp2_with fail
                  go_roundg (lb.length - (M + 1))
                  case measure => go_light; omega
                  case rel =>
                    go_light
                    exact ⟨M + 1, _, by omega, by omega, by omega, by go_num, rfl, HI.out.skip (K := K) (M := M) (fun p q h => by omega) HN.out⟩
              · have hb1 : (xa.toList == xb.toList) = false := by rw [str_beq]; simpa using he
                have HN := Lib.hid (HP.out.2.1 (.inl he))
                clear he
                go_wp2_with fail
                go_quiet (fail)
                go_wp2_with fail
                go_roundg (lb.length - (M + 1))
                case measure => go_light; omega
                case rel =>
                  go_light
                  exact ⟨M + 1, _, by omega, by omega, by omega, by go_num, rfl, HI.out.skip (K := K) (M := M) (fun p q h => by omega) HN.out⟩
            · have hMz : ¬ (M : Int) < (lb.length : Int) := by omega
              have hSI' := Lib.hid hSI
              clear hSI
              go_wp2_with fail
              go_roundg (la.length - (K + 1))
              case measure => go_light; omega
              case rel =>
                go_light
                exact ⟨K + 1, _, by omega, by omega, by omega, by go_num, rfl, hSI'.out.more fun p q u hq hp => by
                  by_cases e : p = K
                  · exact .inr ⟨e, by have := get_lt hp.2.2.2.1; omega⟩
                  · exact .inl (by omega)⟩
        · have hKz : ¬ (K : Int) < (la.length : Int) := by omega
          have hKe : K = la.length := by omega
          subst hKe
          obtain ⟨hcm, hown, hbl, HL, ⟨X, Y, z, hs, a1, a2, a3, a4, a5, a6, a7, a8⟩, hr⟩ := HO.out
          obtain ⟨x, y, rfl, rfl, hxn, hxz⟩ := sinv_end hSI ⟨a2, a4, a1, a3, a5⟩ a8
          obtain ⟨ba, oa, rfl, hba, hca⟩ := H0.out.2.2.1 (by omega)
          have hbw : ba < w1.heap.size := by omega
          have c1 := ((hbl.cell (p := ⟨ba, oa + x, none⟩) hbw).trans (hca x hxn))
          rw [hxz] at c1
          have hxnz : (x : Int) < (la.length : Int) := by omega
          have hX := get_lt a1
          have hY := get_lt a3
          have HS := Lib.hid (And.intro hs (And.intro a1 (And.intro a2 (And.intro a3 (And.intro a4 (And.intro a5 (And.intro a6 (And.intro a7 (And.intro hca hr)))))))))
          clear hcm hown hbl HL hs a1 a2 a3 a4 a5 a6 a7 a8 hr hSI hca hxz t0 e0
          go_wp2_with (at_builtin; refine app_new _ rfl _ _ 27 9 rfl _ 1 16 Try.underlying27 info9 rfl (by decide) w1.heap.size _ L.length (L.map Value.string) rfl (ownsRow_drewN HO.out.2.1 _) 1 1 _ rfl rfl (by simp [Value.oneCell']) (by unfold maxLen; omega) (by omega) (by exact HO.out.2.2.1.size) ?_; intro v' w2 hown' hgrow)
          have hb2 := app_below (drewN_below HO.out.2.2.1 _) HO.out.2.2.1.size (ownsRow_drewN HO.out.2.1 _) hgrow
          rcases own_forms hown' with ⟨_, hbad, _⟩ | ⟨g2, cap2, rfl, hg21, hg22, hcap2⟩
          · omega
          · have cz := (own_has hown').cell (i := L.length) (by omega)
            have hzz : (L.map Value.string ++ (#[Value.string z] : Array Value).toList).getD L.length undef = .string z := by
              simp [List.getD_eq_getElem?_getD, List.getElem?_append]
            rw [hzz] at cz
            have HB2 := Lib.hid (And.intro hown' hb2)
            have hLz : (L.length : Int) < (L.length : Int) + 1 := by omega
            have hLz2 : (L.length : Int) + 1 - 1 = (L.length : Int) := by omega
            have hLz3 : L.length ≤ 256 := by omega
            clear hown' hgrow hb2 hzz c1
            go_loopg [14] (la.length - i) (fun g14 s14 wx => ∃ (j q : Nat), i ≤ j ∧ j ≤ X ∧ g14 = la.length - j ∧ s14 = .int .i64 j ∧ wx = w2.drewN q)
            case atStart =>
              go_light
              exact ⟨i, 0, by omega, HS.out.2.2.1, by omega, rfl, rfl⟩
            case round =>
              obtain ⟨j, q14, hij, hjX, hgj, rfl, rfl⟩ := hrel
              have hjz : (j : Int) < (la.length : Int) := by omega
              obtain ⟨hs, a1, a2, a3, a4, a5, a6, a7, hca, hr⟩ := HS.out
              have c1 := ((HB2.out.2.cell (p := ⟨ba, oa + j, none⟩) hbw).trans (hca j (by omega)))
              have hjne : j < X → la.getD j ByteArray.empty ≠ z := fun h e => a6 j hij h (by rw [getD_get? (by omega), e])
              have hjeq : j = X → la.getD j ByteArray.empty = z := fun e => by subst e; rw [List.getD_eq_getElem?_getD, a1]; rfl
              obtain ⟨u, hu⟩ : ∃ u, la.getD j ByteArray.empty = u := ⟨_, rfl⟩
              rw [hu] at c1 hjne hjeq
              clear hs a1 a2 a3 a4 a5 a6 a7 hca hr hu
              by_cases hjl : j < X
              · have hb1 : (u.toList == z.toList) = false := by rw [str_beq]; simpa using hjne hjl
                clear hjne hjeq
                go_wp2_with fail
                go_quiet (fail)
                go_wp2_with fail
                go_roundg (la.length - (j + 1))
                case measure => go_light; omega
                case rel =>
                  go_light
                  exact ⟨j + 1, _, by omega, by omega, by omega, by go_num, rfl⟩
              · have hjx : j = X := by omega
                have hb1 : (u.toList == z.toList) = true := by rw [str_beq]; simpa using hjeq hjx
                subst hjx
                clear hjne hjeq
                go_wp2_with fail
                go_quiet (fail)
                go_wp2_with fail
                obtain ⟨bb, ob, rfl, hbb, hcb'⟩ := H0.out.2.2.2.1 (by omega)
                have hbwb : bb < w1.heap.size := by omega
                have HCB := Lib.hid hcb'
                clear hcb' c1
                go_loopg [15] (lb.length - k) (fun g15 s15 wx => ∃ (j q : Nat), k ≤ j ∧ j ≤ Y ∧ g15 = lb.length - j ∧ s15 = .int .i64 j ∧ wx = w2.drewN q)
                case atStart =>
                  go_light
                  exact ⟨k, _, by omega, HS.out.2.2.2.2.1, by omega, rfl, World.drewN_drewN _ _ _⟩
                case round =>
                  obtain ⟨j', q15, hkj, hjY, hgj', rfl, rfl⟩ := hrel
                  have hjz' : (j' : Int) < (lb.length : Int) := by omega
                  obtain ⟨hs, a1, a2, a3, a4, a5, a6, a7, hca, hr⟩ := HS.out
                  have c1 := ((HB2.out.2.cell (p := ⟨bb, ob + j', none⟩) hbwb).trans (HCB.out j' (by omega)))
                  have hjne : j' < Y → lb.getD j' ByteArray.empty ≠ z := fun h e => a7 j' hkj h (by rw [getD_get? (by omega), e])
                  have hjeq : j' = Y → lb.getD j' ByteArray.empty = z := fun e => by subst e; rw [List.getD_eq_getElem?_getD, a3]; rfl
                  obtain ⟨u', hu⟩ : ∃ u, lb.getD j' ByteArray.empty = u := ⟨_, rfl⟩
                  rw [hu] at c1 hjne hjeq
                  clear hs a1 a2 a3 a4 a5 a6 a7 hca hr hu hb1
                  by_cases hjl' : j' < Y
                  · have hb1 : (u'.toList == z.toList) = false := by rw [str_beq]; simpa using hjne hjl'
                    clear hjne hjeq
                    go_wp2_with fail
                    go_quiet (fail)
                    go_wp2_with fail
                    go_roundg (lb.length - (j' + 1))
                    case measure => go_light; omega
                    case rel =>
                      go_light
                      exact ⟨j' + 1, _, by omega, by omega, by omega, by go_num, rfl⟩
                  · have hjy : j' = Y := by omega
                    have hb1 : (u'.toList == z.toList) = true := by rw [str_beq]; simpa using hjeq hjy
                    subst hjy
                    clear hjne hjeq
                    go_wp2_with fail
                    go_quiet (fail)
                    go_wp2_with fail
                    go_roundg (G - 1)
                    case measure => go_light; omega
                    case rel =>
                      go_light
                      obtain ⟨z1, z2, z3, z4, _, z6⟩ := HO.out
                      obtain ⟨hs, a1, a2, a3, a4, a5, a6, a7, hca, hr⟩ := HS.out
                      have hst := commonF_step ltb la lb G i k j j' (by omega) (by rw [z6]; exact h0) hs hX
                      have hxx : la[j] = z := (List.getElem?_eq_some_iff.1 a1).2
                      rw [hxx] at hst
                      refine ⟨j + 1, j' + 1, L ++ [z], by omega, by omega, by omega, by simp; omega, by go_num, by go_num, ?_, ?_, drewN_below HB2.out.2 _⟩
                      · rw [← z1, hst]; simp
                      · rw [List.length_append, List.map_append]; exact ownsRow_drewN HB2.out.1 _
    · have h0z : ¬ ((0 : Int) < (r : Int)) := by omega
      have HO := Lib.hid (And.intro hcm (And.intro hown (And.intro hbl hr)))
      clear hcm hown hbl hr HL
      go_wp2_with fail
      go_ret2
      go_light
      obtain ⟨z1, z2, z3, z4⟩ := HO.out
      rw [commonF_zero ltb la lb G i k (by rw [z4]; omega), List.append_nil] at z1
      have hS := strR_of_own z2
      rw [z1] at hS
      refine ⟨_, rfl, ?_, H0.out.1.trans (z3.mono H0.out.1.size)⟩
      rcases hS with h | ⟨g, cap, h1, h2, h3, h4⟩
      · exact .inl h
      · exact .inr ⟨g, cap, h1, by have := H0.out.1.size; omega, h3, h4⟩
end Go.Proofs.Ytmmcdncaiedmgaa
