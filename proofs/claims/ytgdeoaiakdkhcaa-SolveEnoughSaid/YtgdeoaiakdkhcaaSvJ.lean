import Derived.Test.YtgdeoaiakdkhcaaSvI
namespace Go.Proofs.Ytgdeoaiakdkhcaa.Am
set_option linter.unusedVariables false
open Go Go.RowKit Go.Proofs

noncomputable def lp37 : Code := sub [1, 1, 0, 2, 3] (code Try.f37)
noncomputable def lp11 : Code := sub [1, 0, 1, 2, 3] (code Try.f11)
noncomputable def lp19 : Code := sub [1, 1, 0, 1, 2, 3] (code Try.f19)
noncomputable def lp18 : Code := sub [1, 1, 0, 1, 2, 3] (code Try.f18)
def tm37 (m k : Int) : List AV := [.d (i64 m), .bad, .bad, .d (i64 k)] ++ List.replicate 7 .bad
def tm11 (xs : List (List Dv)) (i : Int) : List AV := [.d (.sl 2 xs), .bad, .bad, .d (i64 i)] ++ List.replicate 16 .bad
def tm19 (xs ys : List (List Dv)) (i : Int) : List AV := [.d (.sl 1 xs), .d (.sl 1 ys), .bad, .bad, .bad, .d (i64 i)] ++ List.replicate 20 .bad
def tm18 (xs ys : List (List Dv)) (i : Int) : List AV := [.d (.sl 2 xs), .d (.sl 2 ys), .bad, .bad, .bad, .d (i64 i)] ++ List.replicate 36 .bad

section
variable {β : Type} (wl : WLT β) (y : YieldT β) (b : β) (R : AV → β → Prop) (K : Exit → List AV → List Blk → β → Prop)
theorem f37_round (m k : Int) : wpc Try.prog ⟨[], [], wl, y, false⟩ 100 lp37 (tm37 m k) [] b (maskK 0 [0, 3] K) = (
  BIf (decide (IntKind.wrap IntKind.i64 (k * (2 : Int)) ≤ m))
  (K Exit.normal [AV.d (i64 m), AV.bad, AV.bad, AV.d (i64 (IntKind.wrap IntKind.i64 (k * (2 : Int)))), AV.bad, AV.bad, AV.bad, AV.bad, AV.bad, AV.bad, AV.bad]
    [] b)
  (K (Exit.exit (0 : Nat)) [AV.d (i64 m), AV.bad, AV.bad, AV.d (i64 k), AV.bad, AV.bad, AV.bad, AV.bad, AV.bad, AV.bad, AV.bad] [] b)) := by kernel_rfl
theorem f11_round (xs : List (List Dv)) (i : Int) : wpc Try.prog ⟨[], [], wl, y, false⟩ 100 lp11 (tm11 xs i) [] b (maskK 0 [0, 2, 3] K) = (
  BIf (decide (i < ↑(List.length xs)))
  (BIf (true && decide ((0 : Int) ≤ i))
    (∃ x0 xs1,
      xs[Int.toNat i]? = some [i64 x0, Dv.sl (1 : Nat) xs1] ∧
        BIf (decide (↑(List.length xs1) > (100 : Int)))
          (K Exit.ret
            [AV.d (Dv.sl (2 : Nat) xs), AV.bad, AV.d (bo false), AV.d (i64 i), AV.bad, AV.bad, AV.bad, AV.bad, AV.bad, AV.bad, AV.bad, AV.bad, AV.bad, AV.bad,
              AV.bad, AV.bad, AV.bad, AV.bad, AV.bad, AV.bad]
            [] b)
          (K Exit.normal
            [AV.d (Dv.sl (2 : Nat) xs), AV.bad, AV.bad, AV.d (i64 (IntKind.wrap IntKind.i64 (i + (1 : Int)))), AV.bad, AV.bad, AV.bad, AV.bad, AV.bad, AV.bad,
              AV.bad, AV.bad, AV.bad, AV.bad, AV.bad, AV.bad, AV.bad, AV.bad, AV.bad, AV.bad]
            [] b))
    False)
  (K (Exit.exit (0 : Nat))
    [AV.d (Dv.sl (2 : Nat) xs), AV.bad, AV.bad, AV.d (i64 i), AV.bad, AV.bad, AV.bad, AV.bad, AV.bad, AV.bad, AV.bad, AV.bad, AV.bad, AV.bad, AV.bad, AV.bad,
      AV.bad, AV.bad, AV.bad, AV.bad]
    [] b)) := by kernel_rfl
theorem f19_round (xs ys : List (List Dv)) (i : Int) : wpc Try.prog ⟨[], [], wl, y, false⟩ 100 lp19 (tm19 xs ys i) [] b (maskK 0 [0, 1, 4, 5] K) = (
  BIf (decide (i < ↑(List.length xs)))
  (BIf (true && decide ((0 : Int) ≤ i))
    (∃ x0,
      xs[Int.toNat i]? = some [u8 x0] ∧
        BIf (true && decide ((0 : Int) ≤ i))
          (∃ x3,
            ys[Int.toNat i]? = some [u8 x3] ∧
              BIf (x0 != x3)
                (K Exit.ret
                  [AV.d (Dv.sl (1 : Nat) xs), AV.d (Dv.sl (1 : Nat) ys), AV.bad, AV.bad, AV.d (bo false), AV.d (i64 i), AV.bad, AV.bad, AV.bad, AV.bad, AV.bad,
                    AV.bad, AV.bad, AV.bad, AV.bad, AV.bad, AV.bad, AV.bad, AV.bad, AV.bad, AV.bad, AV.bad, AV.bad, AV.bad, AV.bad, AV.bad]
                  [] b)
                (K Exit.normal
                  [AV.d (Dv.sl (1 : Nat) xs), AV.d (Dv.sl (1 : Nat) ys), AV.bad, AV.bad, AV.bad, AV.d (i64 (IntKind.wrap IntKind.i64 (i + (1 : Int)))), AV.bad,
                    AV.bad, AV.bad, AV.bad, AV.bad, AV.bad, AV.bad, AV.bad, AV.bad, AV.bad, AV.bad, AV.bad, AV.bad, AV.bad, AV.bad, AV.bad, AV.bad, AV.bad,
                    AV.bad, AV.bad]
                  [] b))
          False)
    False)
  (K (Exit.exit (0 : Nat))
    [AV.d (Dv.sl (1 : Nat) xs), AV.d (Dv.sl (1 : Nat) ys), AV.bad, AV.bad, AV.bad, AV.d (i64 i), AV.bad, AV.bad, AV.bad, AV.bad, AV.bad, AV.bad, AV.bad, AV.bad,
      AV.bad, AV.bad, AV.bad, AV.bad, AV.bad, AV.bad, AV.bad, AV.bad, AV.bad, AV.bad, AV.bad, AV.bad]
    [] b)) := by kernel_rfl
end
end Go.Proofs.Ytgdeoaiakdkhcaa.Am
