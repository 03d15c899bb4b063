import Derived.Test.YthcbbmnjikhihaaGreatPnJ6
/- BargainNobodyDisturbed is true of the given program, for every input; there are no conditions. -/
namespace Go.Proofs.YthcbbmnjikhihaaGreat.Am
set_option linter.unusedVariables false
open Go Go.RowKit Go.Proofs Go.ChangeShapes Go.WideShapes Go.ChangeAt

set_option maxRecDepth 100000 in
theorem lifted6 (os : Os) (started : os.Started) (H : Type) (enc : TypeId × Value → H) :
    ReturnsInHanded {} Tryz.checked os 6 .any (Rows.bargainNobodyDisturbedSpec.pre6 enc Tryz.prog Tryz.f6 Rows.bargainNobodyDisturbedRow.domain false) (Rows.bargainNobodyDisturbedSpec.post enc Tryz.prog Tryz.f6 false true false false) := by
  refine returnsInHanded_of_change (C := Tryz.checked) CFo9 started (by kernel_rfl) Tryz.func6
    (ChangeSpec.witness6 (enc := enc) (C := Tryz.checked) false ⟨#[], #[.agg #[.int .i64 0, .int .i64 0], .agg #[.slice none 0 0, .slice none 0 0, .slice none 0 0], .int .i64 0, .slice none 0 0, .int .i64 0, .int .i64 0, .int .i64 0], []⟩ 8 (by kernel_rfl) (by kernel_rfl) (by kernel_rfl) (by kernel_rfl)) ?_
  intro W base args ds gs before hval0 hW hcnd _
  have hval : ∀ (j : Nat) t v, Tryz.f6.params[j]? = some t → args[j]? = some v → Value.okWide Tryz.prog W .any base t v := hval0
  have hW' : DataW.Whole enc Tryz.prog Tryz.f6.params.toList Rows.bargainNobodyDisturbedSpec.vars false W args.toList ds gs before := hW
  obtain ⟨p, q, hA0, hV, rfl, hfz, hnd⟩ := hW
  have hA : DataW.TrodAll enc Tryz.prog W 0 (fun _ => true) true Tryz.f6.params.toList args.toList ds p := hA0
  rw [Tryz.params6] at hA hval
  obtain ⟨v0, vs0, d0, ds0, p0, q0, hargs, rfl, rfl, h0, r0⟩ := trodAll_cons hA
  obtain ⟨v1, vs1, d1, ds1, p1, q1, rfl, rfl, rfl, h1, r1⟩ := trodAll_cons r0
  obtain ⟨v2, vs2, d2, ds2, p2, q2, rfl, rfl, rfl, h2, r2⟩ := trodAll_cons r1
  obtain ⟨v3, vs3, d3, ds3, p3, q3, rfl, rfl, rfl, h3, r3⟩ := trodAll_cons r2
  obtain ⟨v4, vs4, d4, ds4, p4, q4, rfl, rfl, rfl, h4, r4⟩ := trodAll_cons r3
  obtain ⟨v5, vs5, d5, ds5, p5, q5, rfl, rfl, rfl, h5, r5⟩ := trodAll_cons r4
  obtain ⟨v6, vs6, d6, ds6, p6, q6, rfl, rfl, rfl, h6, r6⟩ := trodAll_cons r5
  obtain ⟨rfl, rfl, rfl⟩ := trodAll_nil r6
  obtain rfl : args = #[v0, v1, v2, v3, v4, v5, v6] := by cases args; simp_all
  obtain ⟨x0, t0, g0⟩ := BRj9 (n := 20) (.inl ⟨_, Tryz.underlying23⟩) CHs9 (hval 0 23 v0 rfl rfl) h0
  obtain ⟨ly, e0, hb0⟩ := CBf9 t0
  rw [e0] at g0
  obtain ⟨x1, t1, g1⟩ := BRj9 (n := 20) (.inl ⟨_, Tryz.underlying28⟩) CHr9 (hval 1 28 v1 rfl rfl) h1
  obtain ⟨t, e1, hb1⟩ := CBe9 t1
  rw [e1] at g1
  obtain ⟨me, w2, g2⟩ := AXz9 Tryz.underlying3 (hval 2 3 v2 rfl rfl) h2
  obtain ⟨x3, t3, g3⟩ := BOk9 Tryz.underlying29 CHq9 (hval 3 29 v3 rfl rfl) h3
  obtain ⟨l, rfl, hl3, hb3⟩ := BVc9 t3
  obtain ⟨pe, w4, g4⟩ := AXz9 Tryz.underlying3 (hval 4 3 v4 rfl rfl) h4
  obtain ⟨many, w5, g5⟩ := AXz9 Tryz.underlying3 (hval 5 3 v5 rfl rfl) h5
  obtain ⟨fr, w6, g6⟩ := AXz9 Tryz.underlying3 (hval 6 3 v6 rfl rfl) h6
  exact BMc9 (tb := 4) BBb9 rfl (by kernel_rfl) Tryz.underlying4 (by kernel_rfl) (fun ds hd => by
    match ds, hd with
    | [d1, d2, d3, d4, d5, d6, d7], _ => rfl) hW' _ (.cons g0 (.cons g1 (.cons g2 (.cons g3 (.cons g4 (.cons g5 (.cons g6 .nil))))))) (CHd9 ly t me l pe many fr hb1 hl3) (glob0 _ _)

theorem bargainNobodyDisturbed : Rows.BargainNobodyDisturbedSaid :=
  OpenClaim.holds_of_wide 6 Tryz.f6 rfl rfl rfl rfl rfl rfl rfl ⟨rfl, rfl, rfl, rfl, rfl⟩ rfl rfl rfl rfl rfl (by kernel_rfl) Tryz.func6 (by kernel_rfl)
    (of_decide_eq_true (by kernel_rfl)) (by unfold Func.isWrapper; first | (rw [if_pos (by decide +kernel)]; kernel_rfl) | (rw [if_neg (by decide +kernel)]; exact ⟨rfl, rfl⟩))
    (fun os started H enc _ => lifted6 os started H enc)
#print axioms bargainNobodyDisturbed

end Go.Proofs.YthcbbmnjikhihaaGreat.Am
