import Derived.Sort.QuietIn
import Derived.Test.YtpfjeldpckmdoaaC3
set_option linter.unusedVariables false
set_option linter.unusedSimpArgs false
namespace Go.Proofs.Ytpfjeldpckmdoaa
open Go.RowKit Go.Shelf
/-! a region that draws its order and only reads, in a round of a range over a function: no operation of it is a deferred call, so it goes as outside of a round -/
def noDefer (o : Oper) : Bool := match o.op with
  | .defer _ => false
  | _ => true
theorem noDefer_ne {o : Oper} (h : noDefer o = true) : ∀ c, o.op ≠ .defer c := fun c e => by
  unfold noDefer at h
  rw [e] at h
  cases h
section
variable {F : Fence} {n : Nat} {P : Program} {ops : Array Oper} {C : World → Prop}
theorem wpIn_quiet_round {o : Oper} {a : Act} {K : Act → Prop} {K' : Act → World → Prop} {Q' : Exit → Act → World → Prop} {w : World} (hd : noDefer o = true) (hw : C w) (h : ∀ a w', C w' → K a → K' a w')
    (ha : o.askedIn F P a C) (hh : o.quietIn F n P a C K) : o.wpIn F n P a w K' Q' := by
  obtain ⟨v, h1, h2⟩ := hh
  have h3 : Oper.quietUponIn F n P C w v ((execOp a.eval o).run P w) := h1 w hw
  refine ⟨ha w hw, ?_⟩
  rw [Oper.semAt_eq _ _ _ (noDefer_ne hd)]
  cases hr : (execOp a.eval o).run P w with
  | halt x w' => rw [hr] at h3; exact absurd h3 (by simp [Oper.quietUponIn])
  | ok x w' =>
    rw [hr] at h3
    cases x with
    | value u => obtain ⟨rfl, rfl⟩ := h3; exact h _ _ hw h2
    | skip => obtain ⟨rfl, rfl⟩ := h3; exact h _ _ hw h2
    | enter f args =>
      obtain ⟨rfl, hdp, hc⟩ := h3
      exact ⟨hdp, hc.mono fun e w'' ⟨he, hw''⟩ => by subst he; exact h _ _ hw'' h2⟩
    | _ => exact absurd h3 (by simp [Oper.quietUponIn])
theorem wpOpIn_round {i : Nat} {a : Act} {K : Act → Prop} {K' : Act → World → Prop} {Q' : Exit → Act → World → Prop} {w : World} (hd : ∀ (j : Nat) o, ops[j]? = some o → noDefer o = true) (hC : C w) (h : ∀ a w', C w' → K a → K' a w')
    (hh : qOpIn F n P ops C i K a) : wpOpIn F n P ops Q' i K' a w := by
  cases ho : ops[i]? with
  | none =>
    simp only [qOpIn, ho] at hh
    simp only [wpOpIn, ho]
    exact h _ _ hC hh
  | some o =>
    simp only [qOpIn, ho] at hh
    simp only [wpOpIn, ho]
    obtain ⟨ha, hh⟩ := hh
    by_cases hw : Region.wanted o (yielded ops a.tmps) = true
    · rw [if_pos hw] at hh ⊢
      exact wpIn_quiet_round (hd i o ho) hC h ha hh
    · rw [if_neg hw] at hh ⊢
      exact ⟨ha w hC, h _ _ hC hh⟩
theorem wpAnyIn_round {md : Region.Mode} {Q : Act → Prop} {Q' : Exit → Act → World → Prop} (hd : ∀ (j : Nat) o, ops[j]? = some o → noDefer o = true) (hQ : ∀ a w, C w → Q a → Q' .normal a w) : ∀ (fuel : Nat) (listed : Array Bool) (a : Act) (w : World), C w →
    wpAnyQIn F n P md ops C Q fuel listed a → wpAnyIn F n P md ops Q' fuel listed a w
  | 0, _, _, _, hw, h => ⟨h.1, hQ _ _ hw h.2⟩
  | fuel + 1, _, _, _, hw, h => ⟨fun h0 => hQ _ _ hw (h.1 h0), fun i hi => wpOpIn_round hd hw (fun a' w' hw' => wpAnyIn_round hd hQ fuel _ a' w' hw') (h.2 i hi)⟩
theorem wpIn_region_round {id : Nat} {Q : Exit → Act → World → Prop} {a : Act} {w : World} {l : List Oper} (hm : P.follows .mixedOrders = true) (hB : Region.lexB .any l.toArray = true) (hd : l.all noDefer = true)
    (h : wpQuietIn F n P l.toArray (fun w' => ∃ n, w' = w.drewN n) (fun a' => ∀ w', (∃ n, w' = w.drewN n) → Q .normal a' w') l a) : (Code.region id l.toArray true).wpIn F n P Q a w := by
  simp only [Region.lexB, Bool.and_eq_true] at hB
  refine wpIn_region_any hm (wpAnyIn_round (C := fun w' => ∃ n, w' = w.drewN n) (Q := fun a' => ∀ w', (∃ n, w' = w.drewN n) → Q .normal a' w') (fun j o ho => ?_) (fun _ w' hw' h => h w' hw') _ _ _ _ ⟨1, rfl⟩ ?_)
  · refine List.all_eq_true.1 hd o ?_
    have := List.mem_of_getElem? (l := l) (i := j) (a := o) (by simpa using ho)
    exact this
  · have := wpAnyQIn_lex (F := F) (n := n) (P := P) (C := fun w' => ∃ n, w' = w.drewN n) (md := .any) (ops := l.toArray) hB.1 l 0 (Array.replicate l.toArray.size false) a (by simp) (by simpa using hB.2) h
    simpa using this
end
end Go.Proofs.Ytpfjeldpckmdoaa
