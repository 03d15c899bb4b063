/- Contracts of other make: of calls on plain values. -/
import Derived.Test.YtgdeoaiakdkhcaaAmW
namespace Go.Proofs.Ytgdeoaiakdkhcaa.Am
set_option linter.unusedVariables false
open Go Go.RowKit

theorem PCall.ofCalls {P : Program} {f : Nat} (vals : List Value) {v : Value} (hent : ∀ (as : Array Value) (w : World), (callFunc f as).run P w = .ok (.enter f as) w)
    (h : ∀ w, Calls P f vals.toArray w fun e w' => e = .returned v ∧ w' = w) : PCall P f (vals.map fun v => .d (.s v)) (ofVal v) := by
  refine ⟨hent, fun S w vs hl hvs hlt => ?_⟩
  have he : vs = vals := by
    apply List.ext_getElem?
    intro i
    by_cases hi : i < vals.length
    · have h1 := hvs i (.d (.s vals[i])) (vs[i]'(by simpa [← hl] using hi)) (by simp [hi]) (by simp)
      cases h1 with
      | d h1 =>
        generalize hv : vs[i]'(by simpa [← hl] using hi) = u at h1
        cases h1
        rw [List.getElem?_eq_some_iff.2 ⟨by simpa [← hl] using hi, hv⟩]
        simp [hi]
    · rw [List.getElem?_eq_none (by simpa [← hl] using hi), List.getElem?_eq_none (by omega)]
  subst he
  refine CallsIn.mono (callsIn_wide.2 (h w)) ?_
  rintro e w' ⟨rfl, rfl⟩
  exact ⟨v, S, rfl, Below.refl _ _, fun _ _ h => h, fun _ _ h => .inl h, (RV.ofVal v).view⟩

end Go.Proofs.Ytgdeoaiakdkhcaa.Am
