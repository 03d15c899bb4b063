import Derived.Test.YtgdeoaiakdkhcaaSolB
/- SolveMatchesReference is true of the given program, for every input; there are no conditions. -/
namespace Go.Proofs.Ytgdeoaiakdkhcaa.Am
set_option linter.unusedVariables false
open Go Go.RowKit Go.Proofs Go.ChangeShapes Go.WideShapes Go.ChangeAt

def T3 : List (Nat × (List AV → (AV → Prop) → Prop)) := [(10, c10), (11, c11), (12, c12), (13, c13), (14, c14), (15, c15), (16, c16), (17, c17), (18, c18), (19, c19), (20, c20), (21, c21)]
theorem T3_ok : CallsOk Try.prog T3 := CallsOk.cons c10_ok (CallsOk.cons c11_ok (CallsOk.cons c12_ok (CallsOk.cons c13_ok (CallsOk.cons c14_ok (CallsOk.cons c15_ok (CallsOk.cons c16_ok (CallsOk.cons c17_ok (CallsOk.cons c18_ok (CallsOk.cons c19_ok (CallsOk.cons c20_ok (CallsOk.cons c21_ok CallsOk.nil)))))))))))
theorem f3_nf {β : Type} (wl : WLT β) (y : YieldT β) (b : β) (R : AV → β → Prop) (xs : List (List Dv)) (p : List Int) (m i k : Int) : wpFn Try.prog ⟨T3, [], wl, y, false⟩ 200 Try.f3 [.d (.sl 2 xs), rowA m p, .d (i64 i), .d (i64 k)] b R = (
  ([] : List AV) = [] ∧ ∃ l0 : List Row, [AV.d (Dv.sl 2 xs)] = [AV.d (Dv.sl 2 (rowsR l0))] ∧ l0.length ≤ 9223372036854775807 ∧ BIf (!fewS l0) (R (AV.d (bo true)) b) (BIf (decide (((bytesR p).length : Int) > 100)) (R (AV.d (bo true)) b) (
  ∃ (l1 : List Row) (m2 : Int) (b3 : List Int) (x4 : List Row × Bool × Int), [AV.d (Dv.sl 2 xs), rowA m p] = [AV.d (Dv.sl 2 (rowsR l1)), rowA m2 b3] ∧ 2 * l1.length ≤ 1000000 ∧ x4 = addS l1 m2 b3 ∧
  ∃ (l5 : List Row) (m6 : Int) (b7 : List Int) (x8 : List Row × Bool × Int), [AV.d (Dv.sl 2 xs), rowA m p] = [AV.d (Dv.sl 2 (rowsR l5)), rowA m6 b7] ∧ smallRows l5 ∧ x8 = addS l5 m6 b7 ∧
  ∃ (l9 : List Row) (m10 : Int) (x11 : List Int × Bool), [AV.d (Dv.sl 2 xs), AV.d (i64 i)] = [AV.d (Dv.sl 2 (rowsR l9)), AV.d (i64 m10)] ∧ l9.length ≤ 9223372036854775807 ∧ x11 = solvedS l9 m10 ∧
  ∃ (l12 : List Row) (i13 : Int) (x14 : List Int × Bool), [AV.d (Dv.sl 2 xs), AV.d (i64 i)] = [AV.d (Dv.sl 2 (rowsR l12)), AV.d (i64 i13)] ∧ smallRows l12 ∧ x14 = solvedS l12 i13 ∧
  ∃ (l15 : List Row) (m16 : Int) (x17 : List Int × Bool), [AV.d (Dv.sl 2 xs), AV.d (i64 k)] = [AV.d (Dv.sl 2 (rowsR l15)), AV.d (i64 m16)] ∧ l15.length ≤ 9223372036854775807 ∧ x17 = sumS l15 m16 ∧
  ∃ (l18 : List Row) (m19 : Int) (x20 : List Int × Bool), [AV.d (Dv.sl 2 xs), AV.d (i64 k)] = [AV.d (Dv.sl 2 (rowsR l18)), AV.d (i64 m19)] ∧ l18.length ≤ 9223372036854775807 ∧ x20 = sumS l18 m19 ∧
  ∃ (p21 q22 : List Row) (r23 : Bool), [AV.d (Dv.sl 2 (rowsR x4.1)), AV.d (Dv.sl 2 (rowsR x8.1))] = [AV.d (Dv.sl 2 (rowsR p21)), AV.d (Dv.sl 2 (rowsR q22))] ∧ (p21.length ≤ 9223372036854775807 ∧ ∀ r ∈ p21, r.2.length ≤ 9223372036854775807) ∧ r23 = (p21 == q22) ∧
  BIf r23 (BIf (x4.2.1 == x8.2.1) (BIf (x4.2.2 == x8.2.2)
    (∃ (p24 q25 : List Int) (r26 : Bool), [AV.d (Dv.sl 1 (bytesR x11.1)), AV.d (Dv.sl 1 (bytesR x14.1))] = [AV.d (Dv.sl 1 (bytesR p24)), AV.d (Dv.sl 1 (bytesR q25))] ∧ p24.length ≤ 9223372036854775807 ∧ r26 = (p24 == q25) ∧ BIf r26 (BIf (x11.2 == x14.2)
      (∃ (p27 q28 : List Int) (r29 : Bool), [AV.d (Dv.sl 1 (bytesR x17.1)), AV.d (Dv.sl 1 (bytesR x20.1))] = [AV.d (Dv.sl 1 (bytesR p27)), AV.d (Dv.sl 1 (bytesR q28))] ∧ p27.length ≤ 9223372036854775807 ∧ r29 = (p27 == q28) ∧ BIf r29 (BIf (x17.2 == x20.2)
        (∃ l30 : List Row, [AV.d (Dv.sl 2 xs)] = [AV.d (Dv.sl 2 (rowsR l30))] ∧ l30.length ≤ 9223372036854775807 ∧ ∃ l31 : List Row, [AV.d (Dv.sl 2 xs)] = [AV.d (Dv.sl 2 (rowsR l31))] ∧ l31.length ≤ 9223372036854775807 ∧ R (AV.d (bo (validS l30 == validR l31))) b)
        (R (AV.d (bo false)) b)) (R (AV.d (bo false)) b)) (R (AV.d (bo false)) b)) (R (AV.d (bo false)) b)) (R (AV.d (bo false)) b)) (R (AV.d (bo false)) b)) (R (AV.d (bo false)) b)))) := by kernel_rfl
theorem stepB_16 (e : Row) : ∀ (l : List Row) (s : List Row × Bool), (∀ r ∈ s.1, r.2.length = 16) → ∀ r ∈ (l.foldl (stepB e) s).1, r.2.length = 16
  | [], s, h => h
  | r :: l, s, h => by
    rw [List.foldl_cons]
    refine stepB_16 e l _ fun x hx => ?_
    unfold stepB at hx
    simp only [List.mem_append, List.mem_singleton] at hx
    rcases hx with hx | rfl
    · split at hx
      · rcases List.mem_append.1 hx with hx | hx
        · exact h x hx
        · rw [List.mem_singleton.1 hx]; exact b16_len _
      · exact h x hx
    · split <;> exact b16_len _
theorem add_16 (l : List Row) (m : Int) (b : List Int) : ∀ r ∈ (addS l m b).1, r.2.length = 16 := by
  unfold addS
  split
  · intro r hr; cases hr
  · dsimp only
    split
    · intro r hr
      obtain ⟨r', _, rfl⟩ := List.mem_map.1 hr
      exact b16_len _
    · split
      · intro r hr; cases hr
      · have h := stepB_16 (l.foldl red (m, pad b)) l ([], false) (fun r hr => by cases hr)
        intro r hr
        simp only at hr
        split at hr
        · rcases List.mem_append.1 hr with hr | hr
          · exact h r hr
          · rw [List.mem_singleton.1 hr]; exact b16_len _
        · exact h r hr
theorem solved_len (l : List Row) (i : Int) : (solvedS l i).1.length ≤ 16 := by
  unfold solvedS
  split
  · simp
  · split
    · unfold foundS
      split
      · rw [b16_len]; exact Nat.le_refl _
      · simp
    · simp
theorem sum_len (l : List Row) (m : Int) : (sumS l m).1.length ≤ 16 := by
  unfold sumS
  split
  · simp
  · dsimp only
    split
    · simp
    · rw [b16_len]; exact Nat.le_refl _
theorem pc3 (l : List Row) (m : Int) (p : List Int) (i k : Int) (hl : l.length ≤ 9223372036854775807) : PCall Try.prog 3 [.d (.sl 2 (rowsR l)), rowA m p, .d (i64 i), .d (i64 k)] (.d (bo true)) := by
  refine PCall.ofFn (n := 200) (u := false) mixed T3_ok SCallsOk.nil Try.func3 (by rfl) (by rfl) fun Ev b => ?_
  rw [f3_nf]
  refine ⟨rfl, l, rfl, hl, BIf.of (fun _ => rfl) fun hfew => BIf.of (fun _ => rfl) fun _ => ?_⟩
  have hfew : fewS l = true := by simpa using hfew
  have h40 := fewS_len hfew
  have hs : smallRows l := ⟨by omega, fun r hr => by
    unfold fewS at hfew
    simp only [Bool.and_eq_true, List.all_eq_true, decide_eq_true_eq] at hfew
    have := hfew.1 r hr
    omega⟩
  have e1 := add_len l m p
  have e2 := solved_len l i
  have e3 := sum_len l k
  refine ⟨l, m, p, _, rfl, by omega, rfl, l, m, p, _, rfl, hs, rfl, l, i, _, rfl, hl, rfl, l, i, _, rfl, hs, rfl, l, k, _, rfl, hl, rfl, l, k, _, rfl, hl, rfl, _, _, _, rfl, ⟨by omega, fun r hr => by rw [add_16 l m p r hr]; omega⟩, rfl,
    BIf.t (by rw [beq_self_eq_true]) (BIf.t (by rw [beq_self_eq_true]) (BIf.t (by rw [beq_self_eq_true]) ⟨_, _, _, rfl, by omega, rfl, BIf.t (by rw [beq_self_eq_true]) (BIf.t (by rw [beq_self_eq_true]) ⟨_, _, _, rfl, by omega, rfl, BIf.t (by rw [beq_self_eq_true]) (BIf.t (by rw [beq_self_eq_true]) ⟨l, rfl, hl, l, rfl, hl, ?_⟩)⟩)⟩))⟩
  rw [validR_eq l, beq_self_eq_true]
set_option maxRecDepth 100000 in
theorem lifted3 (os : Os) (started : os.Started) (H : Type) (enc : TypeId × Value → H) :
    ReturnsInHanded {} Try.checked os 3 .any (Rows.solveMatchesReferenceSpec.pre6 enc Try.prog Try.f3 Rows.solveMatchesReferenceRow.domain false) (Rows.solveMatchesReferenceSpec.post enc Try.prog Try.f3 false true false false) := by
  refine returnsInHanded_of_change (C := Try.checked) Try_own started (by kernel_rfl) Try.func3
    (ChangeSpec.witness6 (enc := enc) (C := Try.checked) false ⟨#[], #[.slice none 0 0, .agg #[.int .i64 0, .slice none 0 0], .int .i64 0, .int .i64 0], []⟩ 8 (by kernel_rfl) (by kernel_rfl) (by kernel_rfl) (by kernel_rfl)) ?_
  intro W base args ds gs before hval0 hW hcnd _
  have hval : ∀ (j : Nat) t v, Try.f3.params[j]? = some t → args[j]? = some v → Value.okWide Try.prog W .any base t v := hval0
  have hW' : DataW.Whole enc Try.prog Try.f3.params.toList Rows.solveMatchesReferenceSpec.vars false W args.toList ds gs before := hW
  obtain ⟨p, q, hA0, hV, rfl, hfz, hnd⟩ := hW
  have hA : DataW.TrodAll enc Try.prog W 0 (fun _ => true) true Try.f3.params.toList args.toList ds p := hA0
  rw [Try.params3] at hA hval
  obtain ⟨v0, vs0, d0, ds0, p0, q0, hargs, rfl, rfl, h0, r0⟩ := trodAll_cons hA
  obtain ⟨v1, vs1, d1, ds1, p1, q1, rfl, rfl, rfl, h1, r1⟩ := trodAll_cons r0
  obtain ⟨v2, vs2, d2, ds2, p2, q2, rfl, rfl, rfl, h2, r2⟩ := trodAll_cons r1
  obtain ⟨v3, vs3, d3, ds3, p3, q3, rfl, rfl, rfl, h3, r3⟩ := trodAll_cons r2
  obtain ⟨rfl, rfl, rfl⟩ := trodAll_nil r3
  obtain rfl : args = #[v0, v1, v2, v3] := by cases args; simp_all
  obtain ⟨x0, t0, g0⟩ := arg_slice Try.underlying22 flat22 (hval 0 22 v0 rfl rfl) h0
  obtain ⟨l, rfl, hl0, hb0⟩ := rows_of t0
  obtain ⟨x1, t1, g1⟩ := arg_agg (n := 20) (.inl ⟨_, Try.underlying25⟩) flat25 (hval 1 25 v1 rfl rfl) h1
  obtain ⟨m, b, e1, hb1⟩ := row_of t1
  rw [e1] at g1
  obtain ⟨i, w2, g2⟩ := arg_int Try.underlying3 (hval 2 3 v2 rfl rfl) h2
  obtain ⟨k, w3, g3⟩ := arg_int Try.underlying3 (hval 3 3 v3 rfl rfl) h3
  exact law_calls (tb := 4) Try_laidOut rfl (by kernel_rfl) Try.underlying4 (by kernel_rfl) (fun ds hd => by
    match ds, hd with
    | [d1, d2, d3, d4], _ => rfl) hW' _ (.cons g0 (.cons g1 (.cons g2 (.cons g3 .nil)))) (pc3 l m b i k hl0)

theorem solveMatchesReference : Rows.SolveMatchesReferenceSaid :=
  OpenClaim.holds_of_wide 3 Try.f3 rfl rfl rfl rfl rfl rfl rfl ⟨rfl, rfl, rfl, rfl, rfl⟩ rfl rfl rfl rfl rfl (by kernel_rfl) Try.func3 (by kernel_rfl)
    (of_decide_eq_true (by kernel_rfl)) (by unfold Func.isWrapper; first | (rw [if_pos (by decide +kernel)]; kernel_rfl) | (rw [if_neg (by decide +kernel)]; exact ⟨rfl, rfl⟩))
    (fun os started H enc _ => lifted3 os started H enc)
#print axioms solveMatchesReference

end Go.Proofs.Ytgdeoaiakdkhcaa.Am
