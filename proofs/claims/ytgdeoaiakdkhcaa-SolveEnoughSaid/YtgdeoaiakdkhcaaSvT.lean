import Derived.Test.YtgdeoaiakdkhcaaSvP
import Derived.Test.YtgdeoaiakdkhcaaSvS
namespace Go.Proofs.Ytgdeoaiakdkhcaa.Am
set_option linter.unusedVariables false
open Go Go.RowKit Go.Proofs Go.ChangeShapes Go.WideShapes Go.ChangeAt

set_option maxRecDepth 100000 in
theorem lifted9 (os : Os) (started : os.Started) (H : Type) (enc : TypeId × Value → H) :
    ReturnsInHanded {} Try.checked os 9 .any (Rows.solveEnoughSpec.pre6 enc Try.prog Try.f9 Rows.solveEnoughRow.domain false) (Rows.solveEnoughSpec.post enc Try.prog Try.f9 false true false false) := by
  refine returnsInHanded_of_change (C := Try.checked) Try_own started (by kernel_rfl) Try.func9
    (ChangeSpec.witness6 (enc := enc) (C := Try.checked) false ⟨#[], #[.slice none 0 0], []⟩ 8 (by kernel_rfl) (by kernel_rfl) (by kernel_rfl) (by kernel_rfl)) ?_
  intro W base args ds gs before hval0 hW hcnd _
  have hval : ∀ (j : Nat) t v, Try.f9.params[j]? = some t → args[j]? = some v → Value.okWide Try.prog W .any base t v := hval0
  have hW' : DataW.Whole enc Try.prog Try.f9.params.toList Rows.solveEnoughSpec.vars false W args.toList ds gs before := hW
  obtain ⟨p, q, hA0, hV, rfl, hfz, hnd⟩ := hW
  have hA : DataW.TrodAll enc Try.prog W 0 (fun _ => true) true Try.f9.params.toList args.toList ds p := hA0
  rw [Try.params9] at hA hval
  obtain ⟨v0, vs0, d0, ds0, p0, q0, hargs, rfl, rfl, h0, r0⟩ := trodAll_cons hA
  obtain ⟨rfl, rfl, rfl⟩ := trodAll_nil r0
  obtain rfl : args = #[v0] := by cases args; simp_all
  obtain ⟨x0, t0, g0⟩ := arg_slice Try.underlying22 flat22 (hval 0 22 v0 rfl rfl) h0
  obtain ⟨l, rfl, hl, hb⟩ := rows_of t0
  exact law_calls (tb := 4) Try_laidOut rfl (by kernel_rfl) Try.underlying4 (by kernel_rfl) (fun ds hd => by
    match ds, hd with
    | [d1], _ => rfl) hW' _ (.cons g0 .nil) (pc9 l hl fun r hr => (hb r hr).2)

theorem solveEnough : Rows.SolveEnoughSaid :=
  OpenClaim.holds_of_wide 9 Try.f9 rfl rfl rfl rfl rfl rfl rfl ⟨rfl, rfl, rfl, rfl, rfl⟩ rfl rfl rfl rfl rfl (by kernel_rfl) Try.func9 (by kernel_rfl)
    (of_decide_eq_true (by kernel_rfl)) (by unfold Func.isWrapper; first | (rw [if_pos (by decide +kernel)]; kernel_rfl) | (rw [if_neg (by decide +kernel)]; exact ⟨rfl, rfl⟩))
    (fun os started H enc _ => lifted9 os started H enc)
#print axioms solveEnough
end Go.Proofs.Ytgdeoaiakdkhcaa.Am
