import Derived.Test.YtgdeoaiakdkhcaaSolB
/- SolveFollows is true of the given program, for every input; there are no conditions. -/
namespace Go.Proofs.Ytgdeoaiakdkhcaa.Am
set_option linter.unusedVariables false
open Go Go.RowKit Go.Proofs Go.ChangeShapes Go.WideShapes Go.ChangeAt

set_option maxRecDepth 100000 in
theorem lifted7 (os : Os) (started : os.Started) (H : Type) (enc : TypeId × Value → H) :
    ReturnsInHanded {} Try.checked os 7 .any (Rows.solveFollowsSpec.pre6 enc Try.prog Try.f7 Rows.solveFollowsRow.domain false) (Rows.solveFollowsSpec.post enc Try.prog Try.f7 false true false false) := by
  refine returnsInHanded_of_change (C := Try.checked) Try_own started (by kernel_rfl) Try.func7
    (ChangeSpec.witness6 (enc := enc) (C := Try.checked) false ⟨#[], #[.slice none 0 0, .agg #[.int .i64 0, .slice none 0 0]], []⟩ 8 (by kernel_rfl) (by kernel_rfl) (by kernel_rfl) (by kernel_rfl)) ?_
  intro W base args ds gs before hval0 hW hcnd _
  have hval : ∀ (j : Nat) t v, Try.f7.params[j]? = some t → args[j]? = some v → Value.okWide Try.prog W .any base t v := hval0
  have hW' : DataW.Whole enc Try.prog Try.f7.params.toList Rows.solveFollowsSpec.vars false W args.toList ds gs before := hW
  obtain ⟨p, q, hA0, hV, rfl, hfz, hnd⟩ := hW
  have hA : DataW.TrodAll enc Try.prog W 0 (fun _ => true) true Try.f7.params.toList args.toList ds p := hA0
  rw [Try.params7] at hA hval
  obtain ⟨v0, vs0, d0, ds0, p0, q0, hargs, rfl, rfl, h0, r0⟩ := trodAll_cons hA
  obtain ⟨v1, vs1, d1, ds1, p1, q1, rfl, rfl, rfl, h1, r1⟩ := trodAll_cons r0
  obtain ⟨rfl, rfl, rfl⟩ := trodAll_nil r1
  obtain rfl : args = #[v0, v1] := by cases args; simp_all
  obtain ⟨x0, t0, g0⟩ := arg_slice Try.underlying22 flat22 (hval 0 22 v0 rfl rfl) h0
  obtain ⟨l, rfl, hl0, hb0⟩ := rows_of t0
  obtain ⟨x1, t1, g1⟩ := arg_agg (n := 20) (.inl ⟨_, Try.underlying25⟩) flat25 (hval 1 25 v1 rfl rfl) h1
  obtain ⟨m, b, e1, hb1⟩ := row_of t1
  rw [e1] at g1
  exact law_calls (tb := 4) Try_laidOut rfl (by kernel_rfl) Try.underlying4 (by kernel_rfl) (fun ds hd => by
    match ds, hd with
    | [d1, d2], _ => rfl) hW' _ (.cons g0 (.cons g1 .nil)) (pc7 l m b hl0 hb1)

theorem solveFollows : Rows.SolveFollowsSaid :=
  OpenClaim.holds_of_wide 7 Try.f7 rfl rfl rfl rfl rfl rfl rfl ⟨rfl, rfl, rfl, rfl, rfl⟩ rfl rfl rfl rfl rfl (by kernel_rfl) Try.func7 (by kernel_rfl)
    (of_decide_eq_true (by kernel_rfl)) (by unfold Func.isWrapper; first | (rw [if_pos (by decide +kernel)]; kernel_rfl) | (rw [if_neg (by decide +kernel)]; exact ⟨rfl, rfl⟩))
    (fun os started H enc _ => lifted7 os started H enc)
#print axioms solveFollows

end Go.Proofs.Ytgdeoaiakdkhcaa.Am
