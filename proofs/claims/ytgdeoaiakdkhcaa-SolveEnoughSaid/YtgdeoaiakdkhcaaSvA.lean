import Derived.Test.YtgdeoaiakdkhcaaProg
import Derived.Test.YtgdeoaiakdkhcaaAmZf
namespace Go.Proofs.Ytgdeoaiakdkhcaa.Am
set_option linter.unusedVariables false
open Go Go.RowKit Go.Proofs

theorem mixed : Try.prog.follows .mixedOrders = true := by kernel_rfl


/-! ### data -/
def bytesR (b : List Int) : List (List Dv) := b.map fun x => [u8 x]
def rowA (m : Int) (b : List Int) : AV := .agg [.d (i64 m), .d (.sl 1 (bytesR b))]
def eqA (m : Int) (p : List Int) : AV := .agg (.d (i64 m) :: cells16 p)
def pad (b : List Int) : List Int := (b ++ List.replicate 16 0).take 16
def fine (m : Int) (b : List Int) : Bool := decide (m ≥ 1) && (decide (m < 65536) && ((b.length : Int) == 16))
def xor8 (a b : Int) : Int := IntKind.wrap IntKind.u8 ↑((BitVec.ofInt 8 a ^^^ BitVec.ofInt 8 b).toNat)
def xorL (p q : List Int) : List Int := (List.range 16).map fun i => xor8 (nth p i) (nth q i)

/-- the first string that is looked into -/
def strOfOps : List Oper → Option ByteArray
  | [] => none
  | o :: l => match o.op with
    | .index _ (.const (.string s)) _ => some s
    | _ => strOfOps l
def strOf : Code → Option ByteArray
  | .region _ ops _ => strOfOps ops.toList
  | .seq x y => match strOf x with
    | some s => some s
    | none => strOf y
  | _ => none
/-- the table of bits.Len8 -/
noncomputable def strTab : ByteArray := ((Try.f41.body.bind strOf)).getD ByteArray.empty

section
variable {β : Type} (wl : WLT β) (y : YieldT β) (b : β) (R : AV → β → Prop)
theorem f28_nf (m : Int) (xs : List (List Dv)) : wpFn Try.prog ⟨[], [], wl, y, true⟩ 100 Try.f28 [.agg [.d (i64 m), .d (.sl 1 xs)]] b R = (
  ∃ x0 x1 x2 x3 x4 x5 x6 x7 x8 x9 x10 x11 x12 x13 x14 x15,
  List.map (fun r16 => AV.d (List.headD r16 (Dv.s (Value.tuple { toList := [] })))) (List.take (16 : Nat) xs) ++
        List.drop (min (16 : Nat) (List.length xs))
          [AV.d (u8 (0 : Int)), AV.d (u8 (0 : Int)), AV.d (u8 (0 : Int)), AV.d (u8 (0 : Int)), AV.d (u8 (0 : Int)), AV.d (u8 (0 : Int)), AV.d (u8 (0 : Int)),
            AV.d (u8 (0 : Int)), AV.d (u8 (0 : Int)), AV.d (u8 (0 : Int)), AV.d (u8 (0 : Int)), AV.d (u8 (0 : Int)), AV.d (u8 (0 : Int)), AV.d (u8 (0 : Int)),
            AV.d (u8 (0 : Int)), AV.d (u8 (0 : Int))] =
      [AV.d (u8 x0), AV.d (u8 x1), AV.d (u8 x2), AV.d (u8 x3), AV.d (u8 x4), AV.d (u8 x5), AV.d (u8 x6), AV.d (u8 x7), AV.d (u8 x8), AV.d (u8 x9),
        AV.d (u8 x10), AV.d (u8 x11), AV.d (u8 x12), AV.d (u8 x13), AV.d (u8 x14), AV.d (u8 x15)] ∧
    BIf (decide (m ≥ (1 : Int)))
      (BIf (decide (m < (65536 : Int)))
        (R
          (AV.tup
            [AV.agg
                [AV.d (i64 m), AV.d (u8 x0), AV.d (u8 x1), AV.d (u8 x2), AV.d (u8 x3), AV.d (u8 x4), AV.d (u8 x5), AV.d (u8 x6), AV.d (u8 x7), AV.d (u8 x8),
                  AV.d (u8 x9), AV.d (u8 x10), AV.d (u8 x11), AV.d (u8 x12), AV.d (u8 x13), AV.d (u8 x14), AV.d (u8 x15)],
              AV.d (bo (↑(List.length xs) == (16 : Int)))])
          b)
        (R
          (AV.tup
            [AV.agg
                [AV.d (i64 m), AV.d (u8 x0), AV.d (u8 x1), AV.d (u8 x2), AV.d (u8 x3), AV.d (u8 x4), AV.d (u8 x5), AV.d (u8 x6), AV.d (u8 x7), AV.d (u8 x8),
                  AV.d (u8 x9), AV.d (u8 x10), AV.d (u8 x11), AV.d (u8 x12), AV.d (u8 x13), AV.d (u8 x14), AV.d (u8 x15)],
              AV.d (bo false)])
          b))
      (R
        (AV.tup
          [AV.agg
              [AV.d (i64 m), AV.d (u8 x0), AV.d (u8 x1), AV.d (u8 x2), AV.d (u8 x3), AV.d (u8 x4), AV.d (u8 x5), AV.d (u8 x6), AV.d (u8 x7), AV.d (u8 x8),
                AV.d (u8 x9), AV.d (u8 x10), AV.d (u8 x11), AV.d (u8 x12), AV.d (u8 x13), AV.d (u8 x14), AV.d (u8 x15)],
            AV.d (bo false)])
        b)) := by kernel_rfl
theorem f33_nf (p q : List Int) : wpFn Try.prog ⟨[], [], wl, y, true⟩ 100 Try.f33 [.agg (cells16 p), .agg (cells16 q)] b R = (
  R
  (AV.agg
    [AV.d (u8 (IntKind.wrap IntKind.u8 ↑(BitVec.toNat (BitVec.ofInt (8 : Nat) (nth p (0 : Nat)) ^^^ BitVec.ofInt (8 : Nat) (nth q (0 : Nat)))))),
      AV.d (u8 (IntKind.wrap IntKind.u8 ↑(BitVec.toNat (BitVec.ofInt (8 : Nat) (nth p (1 : Nat)) ^^^ BitVec.ofInt (8 : Nat) (nth q (1 : Nat)))))),
      AV.d (u8 (IntKind.wrap IntKind.u8 ↑(BitVec.toNat (BitVec.ofInt (8 : Nat) (nth p (2 : Nat)) ^^^ BitVec.ofInt (8 : Nat) (nth q (2 : Nat)))))),
      AV.d (u8 (IntKind.wrap IntKind.u8 ↑(BitVec.toNat (BitVec.ofInt (8 : Nat) (nth p (3 : Nat)) ^^^ BitVec.ofInt (8 : Nat) (nth q (3 : Nat)))))),
      AV.d (u8 (IntKind.wrap IntKind.u8 ↑(BitVec.toNat (BitVec.ofInt (8 : Nat) (nth p (4 : Nat)) ^^^ BitVec.ofInt (8 : Nat) (nth q (4 : Nat)))))),
      AV.d (u8 (IntKind.wrap IntKind.u8 ↑(BitVec.toNat (BitVec.ofInt (8 : Nat) (nth p (5 : Nat)) ^^^ BitVec.ofInt (8 : Nat) (nth q (5 : Nat)))))),
      AV.d (u8 (IntKind.wrap IntKind.u8 ↑(BitVec.toNat (BitVec.ofInt (8 : Nat) (nth p (6 : Nat)) ^^^ BitVec.ofInt (8 : Nat) (nth q (6 : Nat)))))),
      AV.d (u8 (IntKind.wrap IntKind.u8 ↑(BitVec.toNat (BitVec.ofInt (8 : Nat) (nth p (7 : Nat)) ^^^ BitVec.ofInt (8 : Nat) (nth q (7 : Nat)))))),
      AV.d (u8 (IntKind.wrap IntKind.u8 ↑(BitVec.toNat (BitVec.ofInt (8 : Nat) (nth p (8 : Nat)) ^^^ BitVec.ofInt (8 : Nat) (nth q (8 : Nat)))))),
      AV.d (u8 (IntKind.wrap IntKind.u8 ↑(BitVec.toNat (BitVec.ofInt (8 : Nat) (nth p (9 : Nat)) ^^^ BitVec.ofInt (8 : Nat) (nth q (9 : Nat)))))),
      AV.d (u8 (IntKind.wrap IntKind.u8 ↑(BitVec.toNat (BitVec.ofInt (8 : Nat) (nth p (10 : Nat)) ^^^ BitVec.ofInt (8 : Nat) (nth q (10 : Nat)))))),
      AV.d (u8 (IntKind.wrap IntKind.u8 ↑(BitVec.toNat (BitVec.ofInt (8 : Nat) (nth p (11 : Nat)) ^^^ BitVec.ofInt (8 : Nat) (nth q (11 : Nat)))))),
      AV.d (u8 (IntKind.wrap IntKind.u8 ↑(BitVec.toNat (BitVec.ofInt (8 : Nat) (nth p (12 : Nat)) ^^^ BitVec.ofInt (8 : Nat) (nth q (12 : Nat)))))),
      AV.d (u8 (IntKind.wrap IntKind.u8 ↑(BitVec.toNat (BitVec.ofInt (8 : Nat) (nth p (13 : Nat)) ^^^ BitVec.ofInt (8 : Nat) (nth q (13 : Nat)))))),
      AV.d (u8 (IntKind.wrap IntKind.u8 ↑(BitVec.toNat (BitVec.ofInt (8 : Nat) (nth p (14 : Nat)) ^^^ BitVec.ofInt (8 : Nat) (nth q (14 : Nat)))))),
      AV.d (u8 (IntKind.wrap IntKind.u8 ↑(BitVec.toNat (BitVec.ofInt (8 : Nat) (nth p (15 : Nat)) ^^^ BitVec.ofInt (8 : Nat) (nth q (15 : Nat))))))])
  b) := by kernel_rfl
theorem f33_nf' (p q : List Int) : wpFn Try.prog ⟨[], [], wl, y, true⟩ 100 Try.f33 [.agg (cells16 p), .agg (cells16 q)] b R = R (.agg (cells16 (xorL p q))) b := by kernel_rfl
theorem f31_nf (m : Int) (p : List Int) : wpFn Try.prog ⟨[], [], wl, y, true⟩ 100 Try.f31 [eqA m p] b R = R (.agg [.d (i64 m), .d (.sl 1 (bytesR ((List.range 16).map (nth p))))]) b := by kernel_rfl
theorem f30_nf (xs : List (List Dv)) : wpFn Try.prog ⟨[], [], wl, y, true⟩ 100 Try.f30 [.d (.sl 2 xs)] b R = R (.fn (.func 38) [] [.rptr [.sl 2 xs]]) b := by kernel_rfl
theorem f41_nf (x : Int) : wpFn Try.prog ⟨[], [], wl, y, true⟩ 100 Try.f41 [.d (u64 x)] b R = (
  BIf (decide (x ≥ (4294967296 : Int)))
  (BIf (decide (Int.fdiv x (4294967296 : Int) ≥ (65536 : Int)))
    (BIf (decide (Int.fdiv (Int.fdiv x (4294967296 : Int)) (65536 : Int) ≥ (256 : Int)))
      (BIf (decide ((0 : Int) ≤ IntKind.wrap IntKind.u8 (Int.fdiv (Int.fdiv (Int.fdiv x (4294967296 : Int)) (65536 : Int)) (256 : Int))))
        (∃ c0,
          strTab[Int.toNat (IntKind.wrap IntKind.u8 (Int.fdiv (Int.fdiv (Int.fdiv x (4294967296 : Int)) (65536 : Int)) (256 : Int)))]? = some c0 ∧
            R (AV.d (i64 (IntKind.wrap IntKind.i64 ((56 : Int) + IntKind.wrap IntKind.i64 ↑(UInt8.toNat c0))))) b)
        False)
      (BIf (decide ((0 : Int) ≤ IntKind.wrap IntKind.u8 (Int.fdiv (Int.fdiv x (4294967296 : Int)) (65536 : Int))))
        (∃ c7,
          strTab[Int.toNat (IntKind.wrap IntKind.u8 (Int.fdiv (Int.fdiv x (4294967296 : Int)) (65536 : Int)))]? = some c7 ∧
            R (AV.d (i64 (IntKind.wrap IntKind.i64 ((48 : Int) + IntKind.wrap IntKind.i64 ↑(UInt8.toNat c7))))) b)
        False))
    (BIf (decide (Int.fdiv x (4294967296 : Int) ≥ (256 : Int)))
      (BIf (decide ((0 : Int) ≤ IntKind.wrap IntKind.u8 (Int.fdiv (Int.fdiv x (4294967296 : Int)) (256 : Int))))
        (∃ c14,
          strTab[Int.toNat (IntKind.wrap IntKind.u8 (Int.fdiv (Int.fdiv x (4294967296 : Int)) (256 : Int)))]? = some c14 ∧
            R (AV.d (i64 (IntKind.wrap IntKind.i64 ((40 : Int) + IntKind.wrap IntKind.i64 ↑(UInt8.toNat c14))))) b)
        False)
      (BIf (decide ((0 : Int) ≤ IntKind.wrap IntKind.u8 (Int.fdiv x (4294967296 : Int))))
        (∃ c21,
          strTab[Int.toNat (IntKind.wrap IntKind.u8 (Int.fdiv x (4294967296 : Int)))]? = some c21 ∧
            R (AV.d (i64 (IntKind.wrap IntKind.i64 ((32 : Int) + IntKind.wrap IntKind.i64 ↑(UInt8.toNat c21))))) b)
        False)))
  (BIf (decide (x ≥ (65536 : Int)))
    (BIf (decide (Int.fdiv x (65536 : Int) ≥ (256 : Int)))
      (BIf (decide ((0 : Int) ≤ IntKind.wrap IntKind.u8 (Int.fdiv (Int.fdiv x (65536 : Int)) (256 : Int))))
        (∃ c28,
          strTab[Int.toNat (IntKind.wrap IntKind.u8 (Int.fdiv (Int.fdiv x (65536 : Int)) (256 : Int)))]? = some c28 ∧
            R (AV.d (i64 (IntKind.wrap IntKind.i64 ((24 : Int) + IntKind.wrap IntKind.i64 ↑(UInt8.toNat c28))))) b)
        False)
      (BIf (decide ((0 : Int) ≤ IntKind.wrap IntKind.u8 (Int.fdiv x (65536 : Int))))
        (∃ c35,
          strTab[Int.toNat (IntKind.wrap IntKind.u8 (Int.fdiv x (65536 : Int)))]? = some c35 ∧
            R (AV.d (i64 (IntKind.wrap IntKind.i64 ((16 : Int) + IntKind.wrap IntKind.i64 ↑(UInt8.toNat c35))))) b)
        False))
    (BIf (decide (x ≥ (256 : Int)))
      (BIf (decide ((0 : Int) ≤ IntKind.wrap IntKind.u8 (Int.fdiv x (256 : Int))))
        (∃ c42,
          strTab[Int.toNat (IntKind.wrap IntKind.u8 (Int.fdiv x (256 : Int)))]? = some c42 ∧
            R (AV.d (i64 (IntKind.wrap IntKind.i64 ((8 : Int) + IntKind.wrap IntKind.i64 ↑(UInt8.toNat c42))))) b)
        False)
      (BIf (decide ((0 : Int) ≤ IntKind.wrap IntKind.u8 x))
        (∃ c49,
          strTab[Int.toNat (IntKind.wrap IntKind.u8 x)]? = some c49 ∧
            R (AV.d (i64 (IntKind.wrap IntKind.i64 ((0 : Int) + IntKind.wrap IntKind.i64 ↑(UInt8.toNat c49))))) b)
        False)))) := by kernel_rfl
end
end Go.Proofs.Ytgdeoaiakdkhcaa.Am
