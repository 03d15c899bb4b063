import Derived.Test.YtgdeoaiakdkhcaaSolB
/- SolveOrder is true of the given program, for every input; there are no conditions. -/
namespace Go.Proofs.Ytgdeoaiakdkhcaa.Am
set_option linter.unusedVariables false
open Go Go.RowKit Go.Proofs Go.ChangeShapes Go.WideShapes Go.ChangeAt

theorem blocks_of {row : List Dv} (h : HasTys (List.replicate 256 (.int .u8)) row) : ∃ p : List Int, row.map AV.d = cells256 p ∧ ∀ x ∈ p, 0 ≤ x ∧ x < 256 := by
  obtain ⟨p, rfl, hl, hp⟩ := u8s_of h
  refine ⟨p, ?_, hp⟩
  refine List.ext_getElem (by simp [cells256, hl]) fun i h1 h2 => ?_
  have hi : i < p.length := by simpa using h1
  simp [cells256, nth, List.getD, hi]
set_option maxRecDepth 100000 in
theorem lifted6 (os : Os) (started : os.Started) (H : Type) (enc : TypeId × Value → H) :
    ReturnsInHanded {} Try.checked os 6 .any (Rows.solveOrderSpec.pre6 enc Try.prog Try.f6 Rows.solveOrderRow.domain false) (Rows.solveOrderSpec.post enc Try.prog Try.f6 false true false false) := by
  refine returnsInHanded_of_change (C := Try.checked) Try_own started (by kernel_rfl) Try.func6
    (ChangeSpec.witness6 (enc := enc) (C := Try.checked) false ⟨#[], #[.agg (Array.replicate 256 (.int .u8 0)), .slice none 0 0, .int .u8 0], []⟩ 8 (by kernel_rfl) (by kernel_rfl) (by kernel_rfl) (by kernel_rfl)) ?_
  intro W base args ds gs before hval0 hW hcnd _
  have hval : ∀ (j : Nat) t v, Try.f6.params[j]? = some t → args[j]? = some v → Value.okWide Try.prog W .any base t v := hval0
  have hW' : DataW.Whole enc Try.prog Try.f6.params.toList Rows.solveOrderSpec.vars false W args.toList ds gs before := hW
  obtain ⟨p, q, hA0, hV, rfl, hfz, hnd⟩ := hW
  have hA : DataW.TrodAll enc Try.prog W 0 (fun _ => true) true Try.f6.params.toList args.toList ds p := hA0
  rw [Try.params6] at hA hval
  obtain ⟨v0, vs0, d0, ds0, p0, q0, hargs, rfl, rfl, h0, r0⟩ := trodAll_cons hA
  obtain ⟨v1, vs1, d1, ds1, p1, q1, rfl, rfl, rfl, h1, r1⟩ := trodAll_cons r0
  obtain ⟨v2, vs2, d2, ds2, p2, q2, rfl, rfl, rfl, h2, r2⟩ := trodAll_cons r1
  obtain ⟨rfl, rfl, rfl⟩ := trodAll_nil r2
  obtain rfl : args = #[v0, v1, v2] := by cases args; simp_all
  obtain ⟨x0, t0, g0⟩ := arg_agg (n := 20) (.inr ⟨_, _, Try.underlying38⟩) flat38 (hval 0 38 v0 rfl rfl) h0
  obtain ⟨B, e0, hb0⟩ := blocks_of t0
  rw [e0] at g0
  obtain ⟨x1, t1, g1⟩ := arg_slice Try.underlying39 flat39 (hval 1 39 v1 rfl rfl) h1
  obtain ⟨ms, rfl, hl1, hb1⟩ := words_of t1
  obtain ⟨a, w2, g2⟩ := arg_int Try.underlying5 (hval 2 5 v2 rfl rfl) h2
  exact law_calls (tb := 4) Try_laidOut rfl (by kernel_rfl) Try.underlying4 (by kernel_rfl) (fun ds hd => by
    match ds, hd with
    | [d1, d2, d3], _ => rfl) hW' _ (.cons g0 (.cons g1 (.cons g2 .nil))) (pc6 B ms a hb1)

theorem solveOrder : Rows.SolveOrderSaid :=
  OpenClaim.holds_of_wide 6 Try.f6 rfl rfl rfl rfl rfl rfl rfl ⟨rfl, rfl, rfl, rfl, rfl⟩ rfl rfl rfl rfl rfl (by kernel_rfl) Try.func6 (by kernel_rfl)
    (of_decide_eq_true (by kernel_rfl)) (by unfold Func.isWrapper; first | (rw [if_pos (by decide +kernel)]; kernel_rfl) | (rw [if_neg (by decide +kernel)]; exact ⟨rfl, rfl⟩))
    (fun os started H enc _ => lifted6 os started H enc)
#print axioms solveOrder

end Go.Proofs.Ytgdeoaiakdkhcaa.Am
