import Derived.Test.YtgdeoaiakdkhcaaSvE
namespace Go.Proofs.Ytgdeoaiakdkhcaa.Am
set_option linter.unusedVariables false
open Go Go.RowKit Go.Proofs

abbrev TS : List (Nat × (List AV → (AV → Prop) → Prop)) := [(20, c20), (28, c28), (29, c29), (30, c30), (31, c31), (32, c32), (33, c33)]
theorem TS_ok : CallsOk Try.prog TS := CallsOk.cons c20_ok (CallsOk.cons c28_ok (CallsOk.cons c29_ok (CallsOk.cons c30_ok (CallsOk.cons c31_ok (CallsOk.cons c32_ok (CallsOk.cons c33_ok CallsOk.nil))))))

/-! ### Add -/
abbrev rowB (m : Int) (bs : List (List Dv)) : Blk := ⟨[.d (i64 m), .d (.sl 1 bs)], false, false, 0⟩
abbrev acc (xs : List (List Dv)) : Blk := ⟨[.own 25 2 xs], false, false, 0⟩
noncomputable def rf12a : Code := sub [1, 1, 1, 1, 0, 2, 1, 4, 1, 0, 1, 2] (code Try.f12)
noncomputable def rf12b : Code := sub [1, 1, 1, 1, 1, 1, 1, 0, 1, 2] (code Try.f12)
theorem rf12a_shape : rf12a = .rangeFunc (.tmp 34) #[35, 36] (assignOf rf12a) (bodyOf rf12a) := by kernel_rfl
theorem rf12b_shape : rf12b = .rangeFunc (.tmp 48) #[49, 50] (assignOf rf12b) (bodyOf rf12b) := by kernel_rfl
def tm12a (xs : List (List Dv)) : List AV := List.replicate 9 .bad ++ [.ptr 2 0] ++ List.replicate 24 .bad ++ [.fn (.func 38) [] [.rptr [.sl 2 xs]]] ++ List.replicate 60 .bad
def tm12b (xs : List (List Dv)) : List AV := List.replicate 7 .bad ++ [.ptr 1 0, .bad, .bad, .bad, .ptr 2 0, .ptr 3 0] ++ List.replicate 35 .bad ++ [.fn (.func 38) [] [.rptr [.sl 2 xs]]] ++ List.replicate 46 .bad

section
variable {β : Type} (wl : WLT β) (y : YieldT β) (b : β) (R : AV → β → Prop) (K : Exit → List AV → List Blk → β → Prop) (Kh : Exit → List Blk → β → Prop)
theorem f12a_round (xs out : List (List Dv)) (m m0 : Int) (p p0 : List Int) (f : Bool) (m9 : Int) (bs9 : List (List Dv)) : wpcY Try.prog ⟨TS, [], wl, y, false⟩ 100 #[35, 36] (assignOf rf12a) (bodyOf rf12a) (tm12a xs) [eqA m p, .d (bo f)] [rowB m9 bs9, bq m0 p0, acc out] b (takeK 3 Kh) = (
  ∃ m0_1 p1 q2,
  [eqA m p] = [eqA m0_1 p1] ∧
    q2 = bytesR (b16 p1) ∧
      BIf (true && decide ((List.length out + (1 : Nat)) * (32 : Nat) ≤ (140737488355328 : Nat)))
        (Kh Exit.normal
          [{ cells := [AV.d (i64 m9), AV.d (Dv.sl (1 : Nat) bs9)] }, bq m0 p0,
            { cells := [AV.own (25 : Nat) (2 : Nat) (out ++ [[i64 m0_1, Dv.sl (1 : Nat) q2]])] }]
          b)
        False) := by kernel_rfl
theorem f12b_round (xs out : List (List Dv)) (m m0 : Int) (p p0 : List Int) (f pl : Bool) (m9 : Int) (bs9 : List (List Dv)) : wpcY Try.prog ⟨TS, [], wl, y, false⟩ 100 #[49, 50] (assignOf rf12b) (bodyOf rf12b) (tm12b xs) [eqA m p, .d (bo f)] [rowB m9 bs9, bq m0 p0, acc out, cell (bo pl)] b (takeK 4 Kh) = (
  BIf (!pl)
  (∃ m0_1 p1,
    [eqA m p] = [eqA m0_1 p1] ∧
      ((1 : Int) ≤ m0_1 ∧ m0_1 < (65536 : Int)) ∧
        ∃ m2 p3,
          [eqA m0 p0] = [eqA m2 p3] ∧
            ((1 : Int) ≤ m2 ∧ m2 < (65536 : Int)) ∧
              BIf (decide (lead m0_1 < lead m2))
                (∃ m4 p5 q6,
                  [eqA m0 p0] = [eqA m4 p5] ∧
                    q6 = bytesR (b16 p5) ∧
                      BIf (true && decide ((List.length out + (1 : Nat)) * (32 : Nat) ≤ (140737488355328 : Nat)))
                        (∃ m7 p8,
                          [eqA m0 p0] = [eqA m7 p8] ∧
                            ((1 : Int) ≤ m7 ∧ m7 < (65536 : Int)) ∧
                              BIf (IntKind.wrap IntKind.i64 ↑(BitVec.toNat (BitVec.ofInt (64 : Nat) m &&& BitVec.ofInt (64 : Nat) (lead m7))) != (0 : Int))
                                (∃ p9 q10 r11,
                                  [AV.agg (cells16 p), AV.agg (cells16 p0)] = [AV.agg (cells16 p9), AV.agg (cells16 q10)] ∧
                                    r11 = xorL p9 q10 ∧
                                      ∃ m12 p13 q14,
                                        [eqA (IntKind.wrap IntKind.i64 ↑(BitVec.toNat (BitVec.ofInt (64 : Nat) m ^^^ BitVec.ofInt (64 : Nat) m0))) r11] =
                                            [eqA m12 p13] ∧
                                          q14 = bytesR (b16 p13) ∧
                                            BIf
                                              (true &&
                                                decide
                                                  ((List.length (out ++ [[i64 m4, Dv.sl (1 : Nat) q6]]) + (1 : Nat)) * (32 : Nat) ≤ (140737488355328 : Nat)))
                                              (Kh Exit.normal
                                                [{ cells := [AV.d (i64 m9), AV.d (Dv.sl (1 : Nat) bs9)] }, bq m0 p0,
                                                  {
                                                    cells :=
                                                      [AV.own (25 : Nat) (2 : Nat)
                                                          (out ++ [[i64 m4, Dv.sl (1 : Nat) q6]] ++ [[i64 m12, Dv.sl (1 : Nat) q14]])] },
                                                  cell (bo true)]
                                                b)
                                              False)
                                (∃ m15 p16 q17,
                                  [eqA m p] = [eqA m15 p16] ∧
                                    q17 = bytesR (b16 p16) ∧
                                      BIf
                                        (true &&
                                          decide ((List.length (out ++ [[i64 m4, Dv.sl (1 : Nat) q6]]) + (1 : Nat)) * (32 : Nat) ≤ (140737488355328 : Nat)))
                                        (Kh Exit.normal
                                          [{ cells := [AV.d (i64 m9), AV.d (Dv.sl (1 : Nat) bs9)] }, bq m0 p0,
                                            {
                                              cells :=
                                                [AV.own (25 : Nat) (2 : Nat) (out ++ [[i64 m4, Dv.sl (1 : Nat) q6]] ++ [[i64 m15, Dv.sl (1 : Nat) q17]])] },
                                            cell (bo true)]
                                          b)
                                        False))
                        False)
                (∃ m18 p19,
                  [eqA m0 p0] = [eqA m18 p19] ∧
                    ((1 : Int) ≤ m18 ∧ m18 < (65536 : Int)) ∧
                      BIf (IntKind.wrap IntKind.i64 ↑(BitVec.toNat (BitVec.ofInt (64 : Nat) m &&& BitVec.ofInt (64 : Nat) (lead m18))) != (0 : Int))
                        (∃ p20 q21 r22,
                          [AV.agg (cells16 p), AV.agg (cells16 p0)] = [AV.agg (cells16 p20), AV.agg (cells16 q21)] ∧
                            r22 = xorL p20 q21 ∧
                              ∃ m23 p24 q25,
                                [eqA (IntKind.wrap IntKind.i64 ↑(BitVec.toNat (BitVec.ofInt (64 : Nat) m ^^^ BitVec.ofInt (64 : Nat) m0))) r22] =
                                    [eqA m23 p24] ∧
                                  q25 = bytesR (b16 p24) ∧
                                    BIf (true && decide ((List.length out + (1 : Nat)) * (32 : Nat) ≤ (140737488355328 : Nat)))
                                      (Kh Exit.normal
                                        [{ cells := [AV.d (i64 m9), AV.d (Dv.sl (1 : Nat) bs9)] }, bq m0 p0,
                                          { cells := [AV.own (25 : Nat) (2 : Nat) (out ++ [[i64 m23, Dv.sl (1 : Nat) q25]])] }, cell (bo pl)]
                                        b)
                                      False)
                        (∃ m26 p27 q28,
                          [eqA m p] = [eqA m26 p27] ∧
                            q28 = bytesR (b16 p27) ∧
                              BIf (true && decide ((List.length out + (1 : Nat)) * (32 : Nat) ≤ (140737488355328 : Nat)))
                                (Kh Exit.normal
                                  [{ cells := [AV.d (i64 m9), AV.d (Dv.sl (1 : Nat) bs9)] }, bq m0 p0,
                                    { cells := [AV.own (25 : Nat) (2 : Nat) (out ++ [[i64 m26, Dv.sl (1 : Nat) q28]])] }, cell (bo pl)]
                                  b)
                                False)))
  (∃ m29 p30,
    [eqA m0 p0] = [eqA m29 p30] ∧
      ((1 : Int) ≤ m29 ∧ m29 < (65536 : Int)) ∧
        BIf (IntKind.wrap IntKind.i64 ↑(BitVec.toNat (BitVec.ofInt (64 : Nat) m &&& BitVec.ofInt (64 : Nat) (lead m29))) != (0 : Int))
          (∃ p31 q32 r33,
            [AV.agg (cells16 p), AV.agg (cells16 p0)] = [AV.agg (cells16 p31), AV.agg (cells16 q32)] ∧
              r33 = xorL p31 q32 ∧
                ∃ m34 p35 q36,
                  [eqA (IntKind.wrap IntKind.i64 ↑(BitVec.toNat (BitVec.ofInt (64 : Nat) m ^^^ BitVec.ofInt (64 : Nat) m0))) r33] = [eqA m34 p35] ∧
                    q36 = bytesR (b16 p35) ∧
                      BIf (true && decide ((List.length out + (1 : Nat)) * (32 : Nat) ≤ (140737488355328 : Nat)))
                        (Kh Exit.normal
                          [{ cells := [AV.d (i64 m9), AV.d (Dv.sl (1 : Nat) bs9)] }, bq m0 p0,
                            { cells := [AV.own (25 : Nat) (2 : Nat) (out ++ [[i64 m34, Dv.sl (1 : Nat) q36]])] }, cell (bo pl)]
                          b)
                        False)
          (∃ m37 p38 q39,
            [eqA m p] = [eqA m37 p38] ∧
              q39 = bytesR (b16 p38) ∧
                BIf (true && decide ((List.length out + (1 : Nat)) * (32 : Nat) ≤ (140737488355328 : Nat)))
                  (Kh Exit.normal
                    [{ cells := [AV.d (i64 m9), AV.d (Dv.sl (1 : Nat) bs9)] }, bq m0 p0,
                      { cells := [AV.own (25 : Nat) (2 : Nat) (out ++ [[i64 m37, Dv.sl (1 : Nat) q39]])] }, cell (bo pl)]
                    b)
                  False))) := by kernel_rfl
end

end Go.Proofs.Ytgdeoaiakdkhcaa.Am
