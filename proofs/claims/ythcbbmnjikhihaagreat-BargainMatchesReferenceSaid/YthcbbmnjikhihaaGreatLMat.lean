import Derived.Test.YthcbbmnjikhihaaGreatPmJ5
import Derived.Test.YthcbbmnjikhihaaGreatPmJ6
/- BargainMatchesReference is true of the given program, for every input; there are no conditions. -/
namespace Go.Proofs.YthcbbmnjikhihaaGreat.Am
set_option linter.unusedVariables false
open Go Go.RowKit Go.Proofs Go.ChangeShapes Go.WideShapes Go.ChangeAt

set_option maxRecDepth 100000 in
theorem lifted3 (os : Os) (started : os.Started) (H : Type) (enc : TypeId × Value → H) :
    ReturnsInHanded {} Tryz.checked os 3 .any (Rows.bargainMatchesReferenceSpec.pre6 enc Tryz.prog Tryz.f3 Rows.bargainMatchesReferenceRow.domain false) (Rows.bargainMatchesReferenceSpec.post enc Tryz.prog Tryz.f3 false true false false) := by
  refine returnsInHanded_of_change (C := Tryz.checked) CHi9 started (by kernel_rfl) Tryz.func3
    (ChangeSpec.witness6 (enc := enc) (C := Tryz.checked) false ⟨#[], #[.agg #[.int .i64 0, .int .i64 0], .agg #[.slice none 0 0, .slice none 0 0, .slice none 0 0], .int .i64 0, .slice none 0 0, .int .i64 0, .int .i64 0, .int .i64 0], []⟩ 8 (by kernel_rfl) (by kernel_rfl) (by kernel_rfl) (by kernel_rfl)) ?_
  intro W base args ds gs before hval0 hW hcnd _
  have hval : ∀ (j : Nat) t v, Tryz.f3.params[j]? = some t → args[j]? = some v → Value.okWide Tryz.prog W .any base t v := hval0
  have hW' : DataW.Whole enc Tryz.prog Tryz.f3.params.toList Rows.bargainMatchesReferenceSpec.vars false W args.toList ds gs before := hW
  obtain ⟨p, q, hA0, hV, rfl, hfz, hnd⟩ := hW
  have hA : DataW.TrodAll enc Tryz.prog W 0 (fun _ => true) true Tryz.f3.params.toList args.toList ds p := hA0
  rw [Tryz.params3] at hA hval
  obtain ⟨v0, vs0, d0, ds0, p0, q0, hargs, rfl, rfl, h0, r0⟩ := trodAll_cons hA
  obtain ⟨v1, vs1, d1, ds1, p1, q1, rfl, rfl, rfl, h1, r1⟩ := trodAll_cons r0
  obtain ⟨v2, vs2, d2, ds2, p2, q2, rfl, rfl, rfl, h2, r2⟩ := trodAll_cons r1
  obtain ⟨v3, vs3, d3, ds3, p3, q3, rfl, rfl, rfl, h3, r3⟩ := trodAll_cons r2
  obtain ⟨v4, vs4, d4, ds4, p4, q4, rfl, rfl, rfl, h4, r4⟩ := trodAll_cons r3
  obtain ⟨v5, vs5, d5, ds5, p5, q5, rfl, rfl, rfl, h5, r5⟩ := trodAll_cons r4
  obtain ⟨v6, vs6, d6, ds6, p6, q6, rfl, rfl, rfl, h6, r6⟩ := trodAll_cons r5
  obtain ⟨rfl, rfl, rfl⟩ := trodAll_nil r6
  obtain rfl : args = #[v0, v1, v2, v3, v4, v5, v6] := by cases args; simp_all
  obtain ⟨x0, t0, g0⟩ := BTa9 (n := 20) (.inl ⟨_, Tryz.underlying23⟩) CJh9 (hval 0 23 v0 rfl rfl) h0
  obtain ⟨ly, e0, hb0⟩ := CDb9 t0
  rw [e0] at g0
  obtain ⟨x1, t1, g1⟩ := BTa9 (n := 20) (.inl ⟨_, Tryz.underlying28⟩) CJg9 (hval 1 28 v1 rfl rfl) h1
  obtain ⟨t, e1, hb1⟩ := CDa9 t1
  rw [e1] at g1
  obtain ⟨me, w2, g2⟩ := AYx9 Tryz.underlying3 (hval 2 3 v2 rfl rfl) h2
  obtain ⟨x3, t3, g3⟩ := BQc9 Tryz.underlying29 CJf9 (hval 3 29 v3 rfl rfl) h3
  obtain ⟨l, rfl, hl3, hb3⟩ := BWd9 t3
  obtain ⟨pe, w4, g4⟩ := AYx9 Tryz.underlying3 (hval 4 3 v4 rfl rfl) h4
  obtain ⟨many, w5, g5⟩ := AYx9 Tryz.underlying3 (hval 5 3 v5 rfl rfl) h5
  obtain ⟨fr, w6, g6⟩ := AYx9 Tryz.underlying3 (hval 6 3 v6 rfl rfl) h6
  exact BNj9 (tb := 4) BCe9 rfl (by kernel_rfl) Tryz.underlying4 (by kernel_rfl) (fun ds hd => by
    match ds, hd with
    | [d1, d2, d3, d4, d5, d6, d7], _ => rfl) hW' _ (.cons g0 (.cons g1 (.cons g2 (.cons g3 (.cons g4 (.cons g5 (.cons g6 .nil))))))) (CIw9 ly t me l pe many fr hb1 hl3) (glob0 _ _)

theorem bargainMatchesReference : Rows.BargainMatchesReferenceSaid :=
  OpenClaim.holds_of_wide 3 Tryz.f3 rfl rfl rfl rfl rfl rfl rfl ⟨rfl, rfl, rfl, rfl, rfl⟩ rfl rfl rfl rfl rfl (by kernel_rfl) Tryz.func3 (by kernel_rfl)
    (of_decide_eq_true (by kernel_rfl)) (by unfold Func.isWrapper; first | (rw [if_pos (by decide +kernel)]; kernel_rfl) | (rw [if_neg (by decide +kernel)]; exact ⟨rfl, rfl⟩))
    (fun os started H enc _ => lifted3 os started H enc)
#print axioms bargainMatchesReference

end Go.Proofs.YthcbbmnjikhihaaGreat.Am
