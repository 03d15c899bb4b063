import Derived.Test.YtgdeoaiakdkhcaaProg
import Derived.Test.YtgdeoaiakdkhcaaEngC
set_option linter.unusedSimpArgs false
namespace Go.Proofs.Ytgdeoaiakdkhcaa.Am
set_option linter.unusedVariables false
open Go Go.RowKit Go.Proofs

theorem mixed : Try.prog.follows .mixedOrders = true := by kernel_rfl


/-! ### data -/
def bytesR (b : List Int) : List (List Dv) := b.map fun x => [u8 x]
def rowA (m : Int) (b : List Int) : AV := .agg [.d (i64 m), .d (.sl 1 (bytesR b))]
def eqA (m : Int) (p : List Int) : AV := .agg (.d (i64 m) :: cells16 p)
def pad (b : List Int) : List Int := (b ++ List.replicate 16 0).take 16
def fine (m : Int) (b : List Int) : Bool := decide (m ≥ 1) && (decide (m < 65536) && ((b.length : Int) == 16))
def xor8 (a b : Int) : Int := IntKind.wrap IntKind.u8 ↑((BitVec.ofInt 8 a ^^^ BitVec.ofInt 8 b).toNat)
def xorL (p q : List Int) : List Int := (List.range 16).map fun i => xor8 (nth p i) (nth q i)

/-- the first string that is looked into -/
def strOfOps : List Oper → Option ByteArray
  | [] => none
  | o :: l => match o.op with
    | .index _ (.const (.string s)) _ => some s
    | _ => strOfOps l
def strOf : Code → Option ByteArray
  | .region _ ops _ => strOfOps ops.toList
  | .seq x y => match strOf x with
    | some s => some s
    | none => strOf y
  | _ => none
/-- the table of bits.Len8 -/
noncomputable def strTab : ByteArray := ((Try.f41.body.bind strOf)).getD ByteArray.empty

section
variable {β : Type} (wl : WLT β) (y : YieldT β) (b : β) (R : AV → β → Prop)
theorem f28_nf (m : Int) (xs : List (List Dv)) : wpFn Try.prog ⟨[], [], wl, y, true⟩ 100 Try.f28 [.agg [.d (i64 m), .d (.sl 1 xs)]] b R = (
  ∃ x0 x1 x2 x3 x4 x5 x6 x7 x8 x9 x10 x11 x12 x13 x14 x15,
  List.map (fun r16 => AV.d (List.headD r16 (Dv.s (Value.tuple { toList := [] })))) (List.take (16 : Nat) xs) ++
        List.drop (min (16 : Nat) (List.length xs))
          [AV.d (u8 (0 : Int)), AV.d (u8 (0 : Int)), AV.d (u8 (0 : Int)), AV.d (u8 (0 : Int)), AV.d (u8 (0 : Int)), AV.d (u8 (0 : Int)), AV.d (u8 (0 : Int)),
            AV.d (u8 (0 : Int)), AV.d (u8 (0 : Int)), AV.d (u8 (0 : Int)), AV.d (u8 (0 : Int)), AV.d (u8 (0 : Int)), AV.d (u8 (0 : Int)), AV.d (u8 (0 : Int)),
            AV.d (u8 (0 : Int)), AV.d (u8 (0 : Int))] =
      [AV.d (u8 x0), AV.d (u8 x1), AV.d (u8 x2), AV.d (u8 x3), AV.d (u8 x4), AV.d (u8 x5), AV.d (u8 x6), AV.d (u8 x7), AV.d (u8 x8), AV.d (u8 x9),
        AV.d (u8 x10), AV.d (u8 x11), AV.d (u8 x12), AV.d (u8 x13), AV.d (u8 x14), AV.d (u8 x15)] ∧
    BIf (decide (m ≥ (1 : Int)))
      (BIf (decide (m < (65536 : Int)))
        (R
          (AV.tup
            [AV.agg
                [AV.d (i64 m), AV.d (u8 x0), AV.d (u8 x1), AV.d (u8 x2), AV.d (u8 x3), AV.d (u8 x4), AV.d (u8 x5), AV.d (u8 x6), AV.d (u8 x7), AV.d (u8 x8),
                  AV.d (u8 x9), AV.d (u8 x10), AV.d (u8 x11), AV.d (u8 x12), AV.d (u8 x13), AV.d (u8 x14), AV.d (u8 x15)],
              AV.d (bo (↑(List.length xs) == (16 : Int)))])
          b)
        (R
          (AV.tup
            [AV.agg
                [AV.d (i64 m), AV.d (u8 x0), AV.d (u8 x1), AV.d (u8 x2), AV.d (u8 x3), AV.d (u8 x4), AV.d (u8 x5), AV.d (u8 x6), AV.d (u8 x7), AV.d (u8 x8),
                  AV.d (u8 x9), AV.d (u8 x10), AV.d (u8 x11), AV.d (u8 x12), AV.d (u8 x13), AV.d (u8 x14), AV.d (u8 x15)],
              AV.d (bo false)])
          b))
      (R
        (AV.tup
          [AV.agg
              [AV.d (i64 m), AV.d (u8 x0), AV.d (u8 x1), AV.d (u8 x2), AV.d (u8 x3), AV.d (u8 x4), AV.d (u8 x5), AV.d (u8 x6), AV.d (u8 x7), AV.d (u8 x8),
                AV.d (u8 x9), AV.d (u8 x10), AV.d (u8 x11), AV.d (u8 x12), AV.d (u8 x13), AV.d (u8 x14), AV.d (u8 x15)],
            AV.d (bo false)])
        b)) := by kernel_rfl
theorem f33_nf (p q : List Int) : wpFn Try.prog ⟨[], [], wl, y, true⟩ 100 Try.f33 [.agg (cells16 p), .agg (cells16 q)] b R = (
  R
  (AV.agg
    [AV.d (u8 (IntKind.wrap IntKind.u8 ↑(BitVec.toNat (BitVec.ofInt (8 : Nat) (nth p (0 : Nat)) ^^^ BitVec.ofInt (8 : Nat) (nth q (0 : Nat)))))),
      AV.d (u8 (IntKind.wrap IntKind.u8 ↑(BitVec.toNat (BitVec.ofInt (8 : Nat) (nth p (1 : Nat)) ^^^ BitVec.ofInt (8 : Nat) (nth q (1 : Nat)))))),
      AV.d (u8 (IntKind.wrap IntKind.u8 ↑(BitVec.toNat (BitVec.ofInt (8 : Nat) (nth p (2 : Nat)) ^^^ BitVec.ofInt (8 : Nat) (nth q (2 : Nat)))))),
      AV.d (u8 (IntKind.wrap IntKind.u8 ↑(BitVec.toNat (BitVec.ofInt (8 : Nat) (nth p (3 : Nat)) ^^^ BitVec.ofInt (8 : Nat) (nth q (3 : Nat)))))),
      AV.d (u8 (IntKind.wrap IntKind.u8 ↑(BitVec.toNat (BitVec.ofInt (8 : Nat) (nth p (4 : Nat)) ^^^ BitVec.ofInt (8 : Nat) (nth q (4 : Nat)))))),
      AV.d (u8 (IntKind.wrap IntKind.u8 ↑(BitVec.toNat (BitVec.ofInt (8 : Nat) (nth p (5 : Nat)) ^^^ BitVec.ofInt (8 : Nat) (nth q (5 : Nat)))))),
      AV.d (u8 (IntKind.wrap IntKind.u8 ↑(BitVec.toNat (BitVec.ofInt (8 : Nat) (nth p (6 : Nat)) ^^^ BitVec.ofInt (8 : Nat) (nth q (6 : Nat)))))),
      AV.d (u8 (IntKind.wrap IntKind.u8 ↑(BitVec.toNat (BitVec.ofInt (8 : Nat) (nth p (7 : Nat)) ^^^ BitVec.ofInt (8 : Nat) (nth q (7 : Nat)))))),
      AV.d (u8 (IntKind.wrap IntKind.u8 ↑(BitVec.toNat (BitVec.ofInt (8 : Nat) (nth p (8 : Nat)) ^^^ BitVec.ofInt (8 : Nat) (nth q (8 : Nat)))))),
      AV.d (u8 (IntKind.wrap IntKind.u8 ↑(BitVec.toNat (BitVec.ofInt (8 : Nat) (nth p (9 : Nat)) ^^^ BitVec.ofInt (8 : Nat) (nth q (9 : Nat)))))),
      AV.d (u8 (IntKind.wrap IntKind.u8 ↑(BitVec.toNat (BitVec.ofInt (8 : Nat) (nth p (10 : Nat)) ^^^ BitVec.ofInt (8 : Nat) (nth q (10 : Nat)))))),
      AV.d (u8 (IntKind.wrap IntKind.u8 ↑(BitVec.toNat (BitVec.ofInt (8 : Nat) (nth p (11 : Nat)) ^^^ BitVec.ofInt (8 : Nat) (nth q (11 : Nat)))))),
      AV.d (u8 (IntKind.wrap IntKind.u8 ↑(BitVec.toNat (BitVec.ofInt (8 : Nat) (nth p (12 : Nat)) ^^^ BitVec.ofInt (8 : Nat) (nth q (12 : Nat)))))),
      AV.d (u8 (IntKind.wrap IntKind.u8 ↑(BitVec.toNat (BitVec.ofInt (8 : Nat) (nth p (13 : Nat)) ^^^ BitVec.ofInt (8 : Nat) (nth q (13 : Nat)))))),
      AV.d (u8 (IntKind.wrap IntKind.u8 ↑(BitVec.toNat (BitVec.ofInt (8 : Nat) (nth p (14 : Nat)) ^^^ BitVec.ofInt (8 : Nat) (nth q (14 : Nat)))))),
      AV.d (u8 (IntKind.wrap IntKind.u8 ↑(BitVec.toNat (BitVec.ofInt (8 : Nat) (nth p (15 : Nat)) ^^^ BitVec.ofInt (8 : Nat) (nth q (15 : Nat))))))])
  b) := by kernel_rfl
theorem f33_nf' (p q : List Int) : wpFn Try.prog ⟨[], [], wl, y, true⟩ 100 Try.f33 [.agg (cells16 p), .agg (cells16 q)] b R = R (.agg (cells16 (xorL p q))) b := by kernel_rfl
theorem f31_nf (m : Int) (p : List Int) : wpFn Try.prog ⟨[], [], wl, y, true⟩ 100 Try.f31 [eqA m p] b R = R (.agg [.d (i64 m), .d (.sl 1 (bytesR ((List.range 16).map (nth p))))]) b := by kernel_rfl
theorem f30_nf (xs : List (List Dv)) : wpFn Try.prog ⟨[], [], wl, y, true⟩ 100 Try.f30 [.d (.sl 2 xs)] b R = R (.fn (.func 38) [] [.rptr [.sl 2 xs]]) b := by kernel_rfl
theorem f41_nf (x : Int) : wpFn Try.prog ⟨[], [], wl, y, true⟩ 100 Try.f41 [.d (u64 x)] b R = (
  BIf (decide (x ≥ (4294967296 : Int)))
  (BIf (decide (Int.fdiv x (4294967296 : Int) ≥ (65536 : Int)))
    (BIf (decide (Int.fdiv (Int.fdiv x (4294967296 : Int)) (65536 : Int) ≥ (256 : Int)))
      (BIf (decide ((0 : Int) ≤ IntKind.wrap IntKind.u8 (Int.fdiv (Int.fdiv (Int.fdiv x (4294967296 : Int)) (65536 : Int)) (256 : Int))))
        (∃ c0,
          strTab[Int.toNat (IntKind.wrap IntKind.u8 (Int.fdiv (Int.fdiv (Int.fdiv x (4294967296 : Int)) (65536 : Int)) (256 : Int)))]? = some c0 ∧
            R (AV.d (i64 (IntKind.wrap IntKind.i64 ((56 : Int) + IntKind.wrap IntKind.i64 ↑(UInt8.toNat c0))))) b)
        False)
      (BIf (decide ((0 : Int) ≤ IntKind.wrap IntKind.u8 (Int.fdiv (Int.fdiv x (4294967296 : Int)) (65536 : Int))))
        (∃ c7,
          strTab[Int.toNat (IntKind.wrap IntKind.u8 (Int.fdiv (Int.fdiv x (4294967296 : Int)) (65536 : Int)))]? = some c7 ∧
            R (AV.d (i64 (IntKind.wrap IntKind.i64 ((48 : Int) + IntKind.wrap IntKind.i64 ↑(UInt8.toNat c7))))) b)
        False))
    (BIf (decide (Int.fdiv x (4294967296 : Int) ≥ (256 : Int)))
      (BIf (decide ((0 : Int) ≤ IntKind.wrap IntKind.u8 (Int.fdiv (Int.fdiv x (4294967296 : Int)) (256 : Int))))
        (∃ c14,
          strTab[Int.toNat (IntKind.wrap IntKind.u8 (Int.fdiv (Int.fdiv x (4294967296 : Int)) (256 : Int)))]? = some c14 ∧
            R (AV.d (i64 (IntKind.wrap IntKind.i64 ((40 : Int) + IntKind.wrap IntKind.i64 ↑(UInt8.toNat c14))))) b)
        False)
      (BIf (decide ((0 : Int) ≤ IntKind.wrap IntKind.u8 (Int.fdiv x (4294967296 : Int))))
        (∃ c21,
          strTab[Int.toNat (IntKind.wrap IntKind.u8 (Int.fdiv x (4294967296 : Int)))]? = some c21 ∧
            R (AV.d (i64 (IntKind.wrap IntKind.i64 ((32 : Int) + IntKind.wrap IntKind.i64 ↑(UInt8.toNat c21))))) b)
        False)))
  (BIf (decide (x ≥ (65536 : Int)))
    (BIf (decide (Int.fdiv x (65536 : Int) ≥ (256 : Int)))
      (BIf (decide ((0 : Int) ≤ IntKind.wrap IntKind.u8 (Int.fdiv (Int.fdiv x (65536 : Int)) (256 : Int))))
        (∃ c28,
          strTab[Int.toNat (IntKind.wrap IntKind.u8 (Int.fdiv (Int.fdiv x (65536 : Int)) (256 : Int)))]? = some c28 ∧
            R (AV.d (i64 (IntKind.wrap IntKind.i64 ((24 : Int) + IntKind.wrap IntKind.i64 ↑(UInt8.toNat c28))))) b)
        False)
      (BIf (decide ((0 : Int) ≤ IntKind.wrap IntKind.u8 (Int.fdiv x (65536 : Int))))
        (∃ c35,
          strTab[Int.toNat (IntKind.wrap IntKind.u8 (Int.fdiv x (65536 : Int)))]? = some c35 ∧
            R (AV.d (i64 (IntKind.wrap IntKind.i64 ((16 : Int) + IntKind.wrap IntKind.i64 ↑(UInt8.toNat c35))))) b)
        False))
    (BIf (decide (x ≥ (256 : Int)))
      (BIf (decide ((0 : Int) ≤ IntKind.wrap IntKind.u8 (Int.fdiv x (256 : Int))))
        (∃ c42,
          strTab[Int.toNat (IntKind.wrap IntKind.u8 (Int.fdiv x (256 : Int)))]? = some c42 ∧
            R (AV.d (i64 (IntKind.wrap IntKind.i64 ((8 : Int) + IntKind.wrap IntKind.i64 ↑(UInt8.toNat c42))))) b)
        False)
      (BIf (decide ((0 : Int) ≤ IntKind.wrap IntKind.u8 x))
        (∃ c49,
          strTab[Int.toNat (IntKind.wrap IntKind.u8 x)]? = some c49 ∧
            R (AV.d (i64 (IntKind.wrap IntKind.i64 ((0 : Int) + IntKind.wrap IntKind.i64 ↑(UInt8.toNat c49))))) b)
        False)))) := by kernel_rfl
end
end Go.Proofs.Ytgdeoaiakdkhcaa.Am

namespace Go.Proofs.Ytgdeoaiakdkhcaa.Am
set_option linter.unusedVariables false
open Go Go.RowKit Go.Proofs

/-! ### numbers of bits -/
def nbits (n : Nat) : Nat := if n = 0 then 0 else n.log2 + 1
def lead (m : Int) : Int := (2 ^ m.toNat.log2 : Nat)

theorem strTab_all : (List.range 256).map (fun i => strTab[i]?) = (List.range 256).map (fun i => some (UInt8.ofNat (nbits i))) := by kernel_rfl
theorem strTab_at {i : Nat} (h : i < 256) : strTab[i]? = some (UInt8.ofNat (nbits i)) := by
  have := congrArg (fun l => l[i]?) strTab_all
  simpa [h] using this

theorem log2_eq {n k : Nat} (h1 : 2 ^ k ≤ n) (h2 : n < 2 ^ (k + 1)) : n.log2 = k := by
  have h0 : n ≠ 0 := by have := Nat.two_pow_pos k; omega
  have a := (Nat.le_log2 h0).2 h1
  have b := (Nat.log2_lt h0).2 h2
  omega

theorem log2_bounds {n : Nat} (h : n ≠ 0) : 2 ^ n.log2 ≤ n ∧ n < 2 ^ (n.log2 + 1) := ⟨(Nat.le_log2 h).1 (Nat.le_refl _), (Nat.log2_lt h).1 (Nat.lt_succ_self _)⟩

theorem nbits_small {n : Nat} (h : n < 256) : nbits n ≤ 8 := by
  unfold nbits
  split
  · omega
  · rename_i h0
    have : n.log2 < 8 := (Nat.log2_lt h0).2 h
    omega

theorem nbits_div {n : Nat} (h : 256 ≤ n) : nbits n = 8 + nbits (n / 256) := by
  have h0 : n / 256 ≠ 0 := by omega
  obtain ⟨h1, h2⟩ := log2_bounds h0
  have : n.log2 = (n / 256).log2 + 8 := by
    refine log2_eq ?_ ?_
    · rw [Nat.pow_add]; omega
    · rw [show (n / 256).log2 + 8 + 1 = ((n / 256).log2 + 1) + 8 by omega, Nat.pow_add]; omega
  unfold nbits
  rw [if_neg (by omega), if_neg h0]; omega

theorem wrap_u8 {x : Int} (h0 : 0 ≤ x) (h1 : x < 256) : IntKind.wrap .u8 x = x := by
  simp only [IntKind.wrap]; simp [IntKind.signed, IntKind.bits]; omega
theorem wrap_i64 {x : Int} (h0 : -9223372036854775808 ≤ x) (h1 : x < 9223372036854775808) : IntKind.wrap .i64 x = x := by
  simp only [IntKind.wrap]; simp [IntKind.signed, IntKind.bits]; omega
theorem wrap_u64 {x : Int} (h0 : 0 ≤ x) (h1 : x < 18446744073709551616) : IntKind.wrap .u64 x = x := by
  simp only [IntKind.wrap]; simp [IntKind.signed, IntKind.bits]; omega

theorem pc41 (x : Int) (h0 : 0 ≤ x) (h1 : x < 65536) : PCall Try.prog 41 [.d (u64 x)] (.d (i64 (nbits x.toNat))) := by
  refine PCall.ofFn (n := 100) (u := true) mixed CallsOk.nil SCallsOk.nil Try.func41 (by rfl) (by rfl) fun Ev b => ?_
  rw [f41_nf]
  refine BIf.f (by simp; omega) (BIf.f (by simp; omega) (BIf.of (fun h => ?_) fun h => ?_))
  · have h : 256 ≤ x := by simpa using h
    have e : Int.fdiv x 256 = x / 256 := by rw [Int.fdiv_eq_ediv_of_nonneg _ (by omega)]
    rw [e, wrap_u8 (by omega) (by omega)]
    refine BIf.t (by simp; omega) ⟨_, strTab_at (by omega), ?_⟩
    have e2 : (x / 256).toNat = x.toNat / 256 := by omega
    have h3 := nbits_small (n := x.toNat / 256) (by omega)
    have h4 : nbits x.toNat = 8 + nbits (x.toNat / 256) := nbits_div (by omega)
    rw [e2]
    have e3 : (((UInt8.ofNat (nbits (x.toNat / 256))).toNat : Nat) : Int) = nbits (x.toNat / 256) := by
      simp; omega
    rw [e3, wrap_i64 (x := (nbits (x.toNat / 256) : Int)) (by omega) (by omega), wrap_i64 (by omega) (by omega), h4]
    simp
  · have h : x < 256 := by simpa using h
    rw [wrap_u8 (by omega) (by omega)]
    refine BIf.t (by simp; omega) ⟨_, strTab_at (by omega), ?_⟩
    have h3 := nbits_small (n := x.toNat) (by omega)
    have e3 : (((UInt8.ofNat (nbits x.toNat)).toNat : Nat) : Int) = nbits x.toNat := by
      simp; omega
    rw [e3, wrap_i64 (x := (nbits x.toNat : Int)) (by omega) (by omega), wrap_i64 (by omega) (by omega)]
    simp

/-! ### calls' contracts, as what must be shown at a call -/
def c41 (args : List AV) (K : AV → Prop) : Prop := ∃ x : Int, args = [.d (u64 x)] ∧ (0 ≤ x ∧ x < 65536) ∧ K (.d (i64 (nbits x.toNat)))
theorem c41_ok : ∀ args K, c41 args K → ∃ x, PCall Try.prog 41 args x ∧ K x := by
  rintro _ K ⟨x, rfl, ⟨h0, h1⟩, h⟩; exact ⟨_, pc41 x h0 h1, h⟩

theorem f39_nf {β : Type} (wl : WLT β) (y : YieldT β) (b : β) (R : AV → β → Prop) (x : Int) : wpFn Try.prog ⟨[(41, c41)], [], wl, y, true⟩ 100 Try.f39 [.d (u64 x)] b R =
    (∃ x' : Int, [AV.d (u64 x)] = [AV.d (u64 x')] ∧ (0 ≤ x' ∧ x' < 65536) ∧ R (.d (i64 (nbits x'.toNat))) b) := by kernel_rfl
theorem pc39 (x : Int) (h0 : 0 ≤ x) (h1 : x < 65536) : PCall Try.prog 39 [.d (u64 x)] (.d (i64 (nbits x.toNat))) := by
  refine PCall.ofFn (n := 100) (u := true) mixed (CallsOk.cons c41_ok CallsOk.nil) SCallsOk.nil Try.func39 (by rfl) (by rfl) fun Ev b => ?_
  rw [f39_nf]
  exact ⟨x, rfl, ⟨h0, h1⟩, rfl⟩
def c39 (args : List AV) (K : AV → Prop) : Prop := ∃ x : Int, args = [.d (u64 x)] ∧ (0 ≤ x ∧ x < 65536) ∧ K (.d (i64 (nbits x.toNat)))
theorem c39_ok : ∀ args K, c39 args K → ∃ x, PCall Try.prog 39 args x ∧ K x := by
  rintro _ K ⟨x, rfl, ⟨h0, h1⟩, h⟩; exact ⟨_, pc39 x h0 h1, h⟩

/-- leading -/
theorem f32_nf {β : Type} (wl : WLT β) (y : YieldT β) (b : β) (R : AV → β → Prop) (m : Int) (p : List Int) : wpFn Try.prog ⟨[(39, c39)], [], wl, y, true⟩ 100 Try.f32 [eqA m p] b R =
    (∃ x : Int, [AV.d (u64 (IntKind.wrap .u64 m))] = [AV.d (u64 x)] ∧ (0 ≤ x ∧ x < 65536) ∧ BIf (decide ((nbits x.toNat : Int) < 0)) False (R (.d (i64 (Int.fdiv (IntKind.wrap .i64 (1 * 2 ^ min (Int.toNat (nbits x.toNat)) 64)) 2))) b)) := by kernel_rfl
theorem pc32 (m : Int) (p : List Int) (h0 : 1 ≤ m) (h1 : m < 65536) : PCall Try.prog 32 [eqA m p] (.d (i64 (lead m))) := by
  refine PCall.ofFn (n := 100) (u := true) mixed (CallsOk.cons c39_ok CallsOk.nil) SCallsOk.nil Try.func32 (by rfl) (by rfl) fun Ev b => ?_
  rw [f32_nf]
  rw [wrap_u64 (by omega) (by omega)]
  refine ⟨m, rfl, ⟨by omega, h1⟩, BIf.f (by simp) ?_⟩
  have hn : m.toNat ≠ 0 := by omega
  have hl : m.toNat.log2 < 16 := (Nat.log2_lt hn).2 (by omega)
  have e : nbits m.toNat = m.toNat.log2 + 1 := by unfold nbits; rw [if_neg hn]
  have e2 : min (Int.toNat (nbits m.toNat)) 64 = m.toNat.log2 + 1 := by rw [e]; omega
  rw [e2]
  have h2 : 2 ^ m.toNat.log2 ≤ m.toNat := (log2_bounds hn).1
  have h3 : (1 : Int) * 2 ^ (m.toNat.log2 + 1) = ((2 ^ m.toNat.log2 : Nat) : Int) * 2 := by
    rw [Int.one_mul, Int.pow_succ]; simp
  rw [h3]
  unfold lead
  generalize 2 ^ m.toNat.log2 = z at h2
  rw [wrap_i64 (by omega) (by omega), Int.fdiv_eq_ediv_of_nonneg _ (by omega)]
  congr 4; omega
def c32 (args : List AV) (K : AV → Prop) : Prop := ∃ (m : Int) (p : List Int), args = [eqA m p] ∧ (1 ≤ m ∧ m < 65536) ∧ K (.d (i64 (lead m)))
theorem c32_ok : ∀ args K, c32 args K → ∃ x, PCall Try.prog 32 args x ∧ K x := by
  rintro _ K ⟨m, p, rfl, ⟨h0, h1⟩, h⟩; exact ⟨_, pc32 m p h0 h1, h⟩

/-- plus -/
theorem pc33 (p q : List Int) : PCall Try.prog 33 [.agg (cells16 p), .agg (cells16 q)] (.agg (cells16 (xorL p q))) := by
  refine PCall.ofFn (n := 100) (u := true) mixed CallsOk.nil SCallsOk.nil Try.func33 (by rfl) (by rfl) fun Ev b => ?_
  rw [f33_nf']
def c33 (args : List AV) (K : AV → Prop) : Prop := ∃ (p q r : List Int), args = [.agg (cells16 p), .agg (cells16 q)] ∧ r = xorL p q ∧ K (.agg (cells16 r))
theorem c33_ok : ∀ args K, c33 args K → ∃ x, PCall Try.prog 33 args x ∧ K x := by
  rintro _ K ⟨p, q, _, rfl, rfl, h⟩; exact ⟨_, pc33 p q, h⟩

/-- row -/
theorem pc31 (m : Int) (p : List Int) : PCall Try.prog 31 [eqA m p] (rowA m ((List.range 16).map (nth p))) := by
  refine PCall.ofFn (n := 100) (u := true) mixed CallsOk.nil SCallsOk.nil Try.func31 (by rfl) (by rfl) fun Ev b => ?_
  rw [f31_nf]; rfl
def b16 (p : List Int) : List Int := (List.range 16).map (nth p)
def c31 (args : List AV) (K : AV → Prop) : Prop := ∃ (m : Int) (p : List Int) (q : List (List Dv)), args = [eqA m p] ∧ q = bytesR (b16 p) ∧ K (.agg [.d (i64 m), .d (.sl 1 q)])
theorem c31_ok : ∀ args K, c31 args K → ∃ x, PCall Try.prog 31 args x ∧ K x := by
  rintro _ K ⟨m, p, _, rfl, rfl, h⟩; exact ⟨_, pc31 m p, h⟩

/-- formed -/
theorem pad_cells (b : List Int) (z : Dv) : (List.map (fun r => AV.d (List.headD r z)) ((bytesR b).take 16)) ++ (cells16 []).drop (min 16 (bytesR b).length) = cells16 (pad b) := by
  have hz : cells16 [] = (List.replicate 16 (0 : Int)).map fun x => AV.d (u8 x) := rfl
  have hc : cells16 (pad b) = (pad b).map fun x => AV.d (u8 x) := by
    have hl : (pad b).length = 16 := by simp [pad]
    unfold cells16
    apply List.ext_getElem
    · simp [hl]
    · intro i h1 h2
      simp only [List.getElem_map, List.getElem_range, nth]
      rw [List.getD_eq_getElem?_getD, List.getElem?_eq_getElem (by simpa using h2)]; rfl
  rw [hz, hc]
  unfold pad bytesR
  rw [List.take_append, ← List.map_take, List.map_map, ← List.map_drop, List.map_append]
  congr 1
  congr 1
  rw [List.length_map, List.drop_replicate, List.take_replicate]
  congr 1; omega

theorem pc28 (m : Int) (b : List Int) : PCall Try.prog 28 [rowA m b] (.tup [eqA m (pad b), .d (bo (fine m b))]) := by
  refine PCall.ofFn (n := 100) (u := true) mixed CallsOk.nil SCallsOk.nil Try.func28 (by rfl) (by rfl) fun Ev bb => ?_
  rw [rowA, f28_nf]
  refine ⟨_, _, _, _, _, _, _, _, _, _, _, _, _, _, _, _, pad_cells b _, BIf.of (fun h1 => BIf.of (fun h2 => ?_) fun h2 => ?_) fun h1 => ?_⟩
  · have : fine m b = ((b.length : Int) == 16) := by simp [fine, h1, h2]
    rw [this]; simp [bytesR]; rfl
  · have : fine m b = false := by simp [fine, h2]
    rw [this]; rfl
  · have : fine m b = false := by simp [fine, h1]
    rw [this]; rfl
def c28 (args : List AV) (K : AV → Prop) : Prop := ∃ (m : Int) (b : List Int), args = [rowA m b] ∧ K (.tup [eqA m (pad b), .d (bo (fine m b))])
theorem c28_ok : ∀ args K, c28 args K → ∃ x, PCall Try.prog 28 args x ∧ K x := by
  rintro _ K ⟨m, p, rfl, h⟩; exact ⟨_, pc28 m p, h⟩

end Go.Proofs.Ytgdeoaiakdkhcaa.Am

namespace Go.Proofs.Ytgdeoaiakdkhcaa.Am
set_option linter.unusedVariables false
open Go Go.RowKit Go.Proofs

abbrev Row := Int × List Int
def rowD (r : Row) : List Dv := [i64 r.1, .sl 1 (bytesR r.2)]
def rowsR (l : List Row) : List (List Dv) := l.map rowD
def item (r : Row) : List AV := [eqA r.1 (pad r.2), .d (bo (fine r.1 r.2))]

noncomputable def lp38 : Code := inLoop (inBlock (restOf (code Try.f38)))
theorem f38_shape : code Try.f38 = .seq (firstOf (code Try.f38)) (.block 0 (.loop lp38)) := by kernel_rfl
def tm38 (xs : List (List Dv)) (n k : Int) : List AV := [.yl, .rptr [.sl 2 xs], .bad, .bad, .bad, .d (.sl 2 xs), .d (i64 n), .d (i64 k)] ++ List.replicate 11 .bad
section
variable {β : Type} (wl : WLT β) (y : YieldT β) (b : β) (R : AV → β → Prop) (K : Exit → List AV → List Blk → β → Prop)
theorem f38_0 (xs : List (List Dv)) : wpc Try.prog ⟨[(28, c28)], [], wl, y, true⟩ 100 (firstOf (code Try.f38)) (startTm Try.f38 [.yl, .rptr [.sl 2 xs]]) [] b K = K .normal (tm38 xs xs.length 0) [] b := by kernel_rfl
theorem f38_round (xs : List (List Dv)) (n k : Int) : wpc Try.prog ⟨[(28, c28)], [], wl, y, true⟩ 100 lp38 (tm38 xs n k) [] b (maskK 0 [0, 1, 5, 6, 7] K) =
    BIf (decide (k < n)) (BIf (true && decide (0 ≤ k))
      (∃ x0 xs1, xs[k.toNat]? = some [i64 x0, .sl 1 xs1] ∧ ∃ m b5, [AV.agg [.d (i64 x0), .d (.sl 1 xs1)]] = [rowA m b5] ∧
        y b [eqA m (pad b5), .d (bo (fine m b5))] fun c b' => BIf (!c) (K .ret (tm38 xs n k) [] b') (K .normal (tm38 xs n (IntKind.wrap .i64 (k + 1))) [] b')) False)
    (K (.exit 0) (tm38 xs n k) [] b) := by kernel_rfl
end

theorem wr38 {Ev : Env Try.prog} {QQ : Ev.β → Prop} (l : List Row) (hl : l.length ≤ 9223372036854775807) : ∀ (rest : List Row) (k : Nat) (b : Ev.β), l.drop k = rest → YList Ev.Y (rest.map item) b QQ →
    WR Ev lp38 (rest.length + 1) ⟨tm38 (rowsR l) l.length k, [], b⟩ (fun e s => (e = .exit 0 ∨ e = .ret) ∧ QQ s.b)
  | [], k, b, hd, hY => by
    refine WR.ofMask [0, 1, 5, 6, 7] mixed (CX.Ok.of (u := true) (CallsOk.cons c28_ok CallsOk.nil) SCallsOk.nil) (k := 100) ?_
    show wpc _ _ _ _ _ _ _ (maskK 0 _ _)
    rw [f38_round]
    have : l.length ≤ k := List.drop_eq_nil_iff.1 hd
    exact BIf.f (by simpa using this) ⟨.inl rfl, hY⟩
  | r :: rest, k, b, hd, hY => by
    refine WR.ofMask [0, 1, 5, 6, 7] mixed (CX.Ok.of (u := true) (CallsOk.cons c28_ok CallsOk.nil) SCallsOk.nil) (k := 100) ?_
    show wpc _ _ _ _ _ _ _ (maskK 0 _ _)
    rw [f38_round]
    have hk : k < l.length := by
      rcases Nat.lt_or_ge k l.length with h | h
      · exact h
      · rw [List.drop_eq_nil_of_le h] at hd; cases hd
    have hr : l[k]? = some r := by
      have := congrArg (fun x => x[0]?) hd
      simpa using this
    have hd' : l.drop (k + 1) = rest := by
      have := congrArg List.tail hd
      simpa using this
    refine BIf.t (by simpa using hk) (BIf.t (by simp) ⟨r.1, bytesR r.2, by simp [rowsR, hr, rowD], r.1, r.2, rfl, ?_⟩)
    simp only [List.map_cons, YList] at hY
    refine Ev.Ymono hY fun c b' h => ?_
    cases c with
    | false => exact ⟨.inr rfl, h⟩
    | true =>
      have e : IntKind.wrap .i64 ((k : Int) + 1) = ((k + 1 : Nat) : Int) := by rw [wrap_i64 (by omega) (by omega)]; simp
      show WR Ev lp38 _ _ _
      rw [e]
      exact wr38 l hl rest (k + 1) b' hd' h

/-- the iterator of equations -/
theorem ic38 (l : List Row) (hl : l.length ≤ 9223372036854775807) : ICall Try.prog 38 [.yl, .rptr [.sl 2 (rowsR l)]] (fun Y b Q => YList Y (l.map item) b Q) := by
  refine ICall.ofW (c := code Try.f38) Try.func38 (by rfl) (by rfl) fun Ev b Q hQ => ?_
  rw [f38_shape]
  refine W.seq (wpc_sound mixed (CX.Ok.of (u := true) (CallsOk.cons c28_ok CallsOk.nil) SCallsOk.nil) (n := 100) ((f38_0 ..).symm ▸ ?_) (fun e tm hp b h => h))
  rw [show (((rowsR l).length : Nat) : Int) = (l.length : Int) by simp [rowsR]]
  refine W.block (W.mono (W.rounds (wr38 l hl l 0 b rfl hQ)) fun e s h => ?_)
  obtain ⟨rfl | rfl, h⟩ := h
  · exact ⟨.inr rfl, [], rfl, h⟩
  · exact ⟨.inl rfl, [], rfl, h⟩

theorem pc30 (xs : List (List Dv)) : PCall Try.prog 30 [.d (.sl 2 xs)] (.fn (.func 38) [] [.rptr [.sl 2 xs]]) := by
  refine PCall.ofFn (n := 100) (u := true) mixed CallsOk.nil SCallsOk.nil Try.func30 (by rfl) (by rfl) fun Ev bb => ?_
  rw [f30_nf]
def c30 (args : List AV) (K : AV → Prop) : Prop := ∃ xs, args = [.d (.sl 2 xs)] ∧ K (.fn (.func 38) [] [.rptr [.sl 2 xs]])
theorem c30_ok : ∀ args K, c30 args K → ∃ x, PCall Try.prog 30 args x ∧ K x := by
  rintro _ K ⟨xs, rfl, h⟩; exact ⟨_, pc30 xs, h⟩

end Go.Proofs.Ytgdeoaiakdkhcaa.Am

namespace Go.Proofs.Ytgdeoaiakdkhcaa.Am
set_option linter.unusedVariables false
open Go Go.RowKit Go.Proofs

def and64 (a b : Int) : Int := IntKind.wrap .i64 ((BitVec.ofInt 64 a &&& BitVec.ofInt 64 b).toNat : Nat)
def or64 (a b : Int) : Int := IntKind.wrap .i64 ((BitVec.ofInt 64 a ||| BitVec.ofInt 64 b).toNat : Nat)
def xor64 (a b : Int) : Int := IntKind.wrap .i64 ((BitVec.ofInt 64 a ^^^ BitVec.ofInt 64 b).toNat : Nat)
def bq (m : Int) (p : List Int) : Blk := ⟨.d (i64 m) :: cells16 p, false, false, 0⟩
abbrev okMask (r : Row) : Prop := 1 ≤ r.1 ∧ r.1 < 65536

/-! ### reduce -/
def red (x : Row) (r : Row) : Row := if and64 x.1 (lead r.1) != 0 then (xor64 x.1 r.1, xorL x.2 (pad r.2)) else x

noncomputable def rf29 : Code := sub [1, 0, 1, 2] (code Try.f29)
theorem rf29_shape : rf29 = .rangeFunc (.tmp 7) #[8, 9] (assignOf rf29) (bodyOf rf29) := by kernel_rfl
def tm29 (xs : List (List Dv)) : List AV := [.bad, .bad, .bad, .ptr 0 0, .ptr 1 0, .bad, .bad, .fn (.func 38) [] [.rptr [.sl 2 xs]]] ++ List.replicate 20 .bad
abbrev T29 : List (Nat × (List AV → (AV → Prop) → Prop)) := [(30, c30), (32, c32), (33, c33)]
theorem T29_ok : CallsOk Try.prog T29 := CallsOk.cons c30_ok (CallsOk.cons c32_ok (CallsOk.cons c33_ok CallsOk.nil))

/-- what the range comes to -/
def wl29 {β : Type} : WLT β := fun c tm hp b K => ∃ (l : List Row) (x : Row), c = rf29 ∧ maskTm [3, 4, 7] 0 tm = tm29 (rowsR l) ∧ hp = [bq x.1 x.2, bq 0 []] ∧ ((∀ r ∈ l, okMask r) ∧ l.length ≤ 9223372036854775807) ∧
  K .normal (tm29 (rowsR l)) [bq (l.foldl red x).1 (l.foldl red x).2, bq 0 []] b

section
variable {β : Type} (wl : WLT β) (y : YieldT β) (b : β) (R : AV → β → Prop) (K : Exit → List AV → List Blk → β → Prop) (Kh : Exit → List Blk → β → Prop)
theorem f29_round (xs : List (List Dv)) (m m0 : Int) (p p0 : List Int) (f : Bool) : wpcY Try.prog ⟨T29, [], wl, y, false⟩ 100 #[8, 9] (assignOf rf29) (bodyOf rf29) (tm29 xs) [eqA m p, .d (bo f)] [bq m0 p0, bq 0 []] b (takeK 2 Kh) =
    (∃ m1 p1, [eqA m p] = [eqA m1 p1] ∧ (1 ≤ m1 ∧ m1 < 65536) ∧ BIf (and64 m0 (lead m1) != 0)
      (∃ p2 q3 r4, [AV.agg (cells16 p0), .agg (cells16 p)] = [.agg (cells16 p2), .agg (cells16 q3)] ∧ r4 = xorL p2 q3 ∧ Kh .normal [bq (xor64 m0 m) r4, bq 0 []] b) (Kh .normal [bq m0 p0, bq 0 []] b)) := by kernel_rfl
theorem f29_nf (xs : List (List Dv)) (m : Int) (p : List Int) : wpFn Try.prog ⟨T29, [], wl29, y, false⟩ 100 Try.f29 [.d (.sl 2 xs), eqA m p] b R =
    (∃ xs0, [AV.d (.sl 2 xs)] = [AV.d (.sl 2 xs0)] ∧ ∃ (l : List Row) (x : Row), rf29 = rf29 ∧ tm29 xs0 = tm29 (rowsR l) ∧ [bq m p, bq 0 []] = [bq x.1 x.2, bq 0 []] ∧ ((∀ r ∈ l, okMask r) ∧ l.length ≤ 9223372036854775807) ∧
      R (eqA (l.foldl red x).1 (l.foldl red x).2) b) := by kernel_rfl
end

theorem range29 {Ev : Env Try.prog} {b : Ev.β} {Q : Exit → St Ev.β → Prop} (xs : List (List Dv)) : ∀ (l : List Row) (x : Row), (∀ r ∈ l, okMask r) → Q .normal ⟨tm29 xs, [bq (l.foldl red x).1 (l.foldl red x).2, bq 0 []], b⟩ →
    YList (YBody Ev (tm29 xs) #[8, 9] (assignOf rf29) (bodyOf rf29) 2) (l.map item) ([bq x.1 x.2, bq 0 []], b, none) (rangeQ (tm29 xs) Q)
  | [], x, _, h => h
  | r :: l, x, hok, h => by
    refine YList.step (X := ⟨T29, [], wlW Ev, Ev.Y, false⟩) (k := 100) mixed (CX.Ok.of T29_ok SCallsOk.nil) rfl ?_
    show wpcY _ _ _ _ _ _ _ [eqA _ _, .d (bo _)] [bq _ _, bq 0 []] b (takeK 2 _)
    rw [f29_round]
    refine ⟨r.1, pad r.2, rfl, hok r (List.mem_cons_self ..), BIf.of (fun hc => ⟨x.2, pad r.2, _, rfl, rfl, ?_⟩) fun hc => ?_⟩
    · refine range29 xs l (xor64 x.1 r.1, xorL x.2 (pad r.2)) (fun r' hr => hok r' (List.mem_cons_of_mem _ hr)) ?_
      have : red x r = (xor64 x.1 r.1, xorL x.2 (pad r.2)) := by unfold red; rw [if_pos hc]
      rw [List.foldl_cons, this] at h; exact h
    · refine range29 xs l x (fun r' hr => hok r' (List.mem_cons_of_mem _ hr)) ?_
      have : red x r = x := by unfold red; rw [if_neg (by simp [hc])]
      rw [List.foldl_cons, this] at h; exact h

theorem wl29_ok {Ev : Env Try.prog} (c : Code) (tm : List AV) (hp : List Blk) (b : Ev.β) (K : Exit → List AV → List Blk → Ev.β → Prop) (h : wl29 c tm hp b K) : W Ev c ⟨tm, hp, b⟩ (fun e s => K e s.tm s.hp s.b) := by
  obtain ⟨l, x, rfl, htm, rfl, hpre, hK⟩ := h
  refine W.cast (htm ▸ maskTm_le [3, 4, 7] tm 0) (LeH.refl _) ?_
  rw [rf29_shape]
  exact W.range (s := ⟨tm29 (rowsR l), _, b⟩) (k := 38) (first := []) (caps := [.rptr [.sl 2 (rowsR l)]]) rfl rfl rfl (ic38 l hpre.2) (range29 (rowsR l) l x hpre.1 hK)

theorem pc29 (l : List Row) (m : Int) (p : List Int) (h1 : ∀ r ∈ l, okMask r) (h2 : l.length ≤ 9223372036854775807) : PCall Try.prog 29 [.d (.sl 2 (rowsR l)), eqA m p] (eqA (l.foldl red (m, p)).1 (l.foldl red (m, p)).2) := by
  refine PCall.ofFnW (n := 100) (u := false) (fun _ => wl29) mixed T29_ok SCallsOk.nil (fun Ev => wl29_ok) Try.func29 (by rfl) (by rfl) fun Ev bb => ?_
  rw [f29_nf]
  exact ⟨_, rfl, l, (m, p), rfl, rfl, rfl, ⟨h1, h2⟩, rfl⟩
def c29 (args : List AV) (K : AV → Prop) : Prop := ∃ (l : List Row) (m : Int) (p : List Int) (x : Row), args = [.d (.sl 2 (rowsR l)), eqA m p] ∧ ((∀ r ∈ l, okMask r) ∧ l.length ≤ 9223372036854775807) ∧ x = l.foldl red (m, p) ∧ K (eqA x.1 x.2)
theorem c29_ok : ∀ args K, c29 args K → ∃ x, PCall Try.prog 29 args x ∧ K x := by
  rintro _ K ⟨l, m, p, _, rfl, ⟨h1, h2⟩, rfl, h⟩; exact ⟨_, pc29 l m p h1 h2, h⟩

end Go.Proofs.Ytgdeoaiakdkhcaa.Am

namespace Go.Proofs.Ytgdeoaiakdkhcaa.Am
set_option linter.unusedVariables false
open Go Go.RowKit Go.Proofs

/-! ### Valid -/
abbrev cell (x : Dv) : Blk := ⟨[.d x], false, false, 0⟩

def vA : List Row → Int × Int → (Int × Int) × Bool
  | [], s => (s, true)
  | r :: l, s => if fine r.1 r.2 && decide (lead r.1 < s.2) then vA l (or64 s.1 (lead r.1), lead r.1) else (s, false)
def vB (L : Int) (l : List Row) : Bool := l.all fun r => and64 r.1 L == lead r.1
def validS (l : List Row) : Bool := (vA l (0, 65536)).2 && vB (vA l (0, 65536)).1.1 l

theorem fine_ok {r : Row} (h : fine r.1 r.2 = true) : okMask r := by
  simp only [fine, Bool.and_eq_true, decide_eq_true_eq] at h
  exact ⟨h.1, h.2.1⟩
theorem vA_ok : ∀ {l : List Row} {s : Int × Int}, (vA l s).2 = true → ∀ r ∈ l, fine r.1 r.2 = true
  | [], _, _, r, hr => by cases hr
  | r0 :: l, s, h, r, hr => by
    simp only [vA] at h
    split at h
    · rename_i hc
      simp only [Bool.and_eq_true] at hc
      rcases List.mem_cons.1 hr with rfl | hr
      · exact hc.1
      · exact vA_ok h r hr
    · cases h

noncomputable def rf20a : Code := sub [1, 1, 0, 1, 2] (code Try.f20)
noncomputable def rf20b : Code := sub [1, 1, 1, 0, 1, 2] (code Try.f20)
theorem rf20a_shape : rf20a = .rangeFunc (.tmp 9) #[10, 11] (assignOf rf20a) (bodyOf rf20a) := by kernel_rfl
theorem rf20b_shape : rf20b = .rangeFunc (.tmp 26) #[27, 28] (assignOf rf20b) (bodyOf rf20b) := by kernel_rfl
def tm20a (xs : List (List Dv)) : List AV := [.d (.sl 2 xs), .bad, .ptr 0 0, .ptr 1 0, .ptr 2 0, .bad, .bad, .bad, .bad, .fn (.func 38) [] [.rptr [.sl 2 xs]]] ++ List.replicate 26 .bad
def tm20b (xs : List (List Dv)) : List AV := [.bad, .bad, .ptr 0 0, .ptr 1 0, .ptr 2 0] ++ List.replicate 21 .bad ++ [.fn (.func 38) [] [.rptr [.sl 2 xs]]] ++ List.replicate 9 .bad
def hp20 (v : Bool) (s : Int × Int) : List Blk := [cell (bo v), cell (i64 s.1), cell (i64 s.2)]

def wl20 {β : Type} : WLT β := fun c tm hp b K => match cidO c with
  | 4 => ∃ (l : List Row) (s : Int × Int), c = rf20a ∧ maskTm [0, 2, 3, 4, 9] 0 tm = tm20a (rowsR l) ∧ hp = hp20 false s ∧ l.length ≤ 9223372036854775807 ∧
      BIf (vA l s).2 (K .normal (tm20a (rowsR l)) (hp20 false (vA l s).1) b) (K .ret (tm20a (rowsR l)) (hp20 false (vA l s).1) b)
  | 11 => ∃ (l : List Row) (s : Int × Int), c = rf20b ∧ maskTm [2, 3, 4, 26] 0 tm = tm20b (rowsR l) ∧ hp = hp20 false s ∧ ((∀ r ∈ l, okMask r) ∧ l.length ≤ 9223372036854775807) ∧
      BIf (vB s.1 l) (K .normal (tm20b (rowsR l)) (hp20 false s) b) (K .ret (tm20b (rowsR l)) (hp20 false s) b)
  | _ => False

section
variable {β : Type} (wl : WLT β) (y : YieldT β) (b : β) (R : AV → β → Prop) (K : Exit → List AV → List Blk → β → Prop) (Kh : Exit → List Blk → β → Prop)
theorem f20a_round (xs : List (List Dv)) (m : Int) (p : List Int) (f : Bool) (L P : Int) : wpcY Try.prog ⟨T29, [], wl, y, false⟩ 100 #[10, 11] (assignOf rf20a) (bodyOf rf20a) (tm20a xs) [eqA m p, .d (bo f)] [cell (bo false), cell (i64 L), cell (i64 P)] b (takeK 3 Kh) = (
  BIf (!f) (Kh Exit.ret [cell (bo false), cell (i64 L), cell (i64 P)] b)
  (∃ m0 p1,
    [eqA m p] = [eqA m0 p1] ∧
      ((1 : Int) ≤ m0 ∧ m0 < (65536 : Int)) ∧
        BIf (decide (lead m0 ≥ P)) (Kh Exit.ret [cell (bo false), cell (i64 L), cell (i64 P)] b)
          (∃ m2 p3,
            [eqA m p] = [eqA m2 p3] ∧
              ((1 : Int) ≤ m2 ∧ m2 < (65536 : Int)) ∧
                Kh Exit.normal
                  [cell (bo false), cell (i64 (IntKind.wrap IntKind.i64 ↑(BitVec.toNat (BitVec.ofInt (64 : Nat) L ||| BitVec.ofInt (64 : Nat) (lead m2))))),
                    cell (i64 (lead m2))]
                  b))) := by kernel_rfl
theorem f20b_round (xs : List (List Dv)) (m : Int) (p : List Int) (f : Bool) (L P : Int) : wpcY Try.prog ⟨T29, [], wl, y, false⟩ 100 #[27, 28] (assignOf rf20b) (bodyOf rf20b) (tm20b xs) [eqA m p, .d (bo f)] [cell (bo false), cell (i64 L), cell (i64 P)] b (takeK 3 Kh) = (
  ∃ m0 p1,
  [eqA m p] = [eqA m0 p1] ∧
    ((1 : Int) ≤ m0 ∧ m0 < (65536 : Int)) ∧
      BIf (IntKind.wrap IntKind.i64 ↑(BitVec.toNat (BitVec.ofInt (64 : Nat) m &&& BitVec.ofInt (64 : Nat) L)) != lead m0)
        (Kh Exit.ret [cell (bo false), cell (i64 L), cell (i64 P)] b) (Kh Exit.normal [cell (bo false), cell (i64 L), cell (i64 P)] b)) := by kernel_rfl
theorem f20_nf (xs : List (List Dv)) : wpFn Try.prog ⟨T29, [], wl20, y, false⟩ 100 Try.f20 [.d (.sl 2 xs)] b R = (
  ∃ xs0,
  [AV.d (Dv.sl (2 : Nat) xs)] = [AV.d (Dv.sl (2 : Nat) xs0)] ∧
    ∃ l1 s2,
      rf20a = rf20a ∧
        [AV.d (Dv.sl (2 : Nat) xs), AV.bad, AV.ptr (0 : Nat) (0 : Nat), AV.ptr (1 : Nat) (0 : Nat), AV.ptr (2 : Nat) (0 : Nat), AV.bad, AV.bad, AV.bad, AV.bad,
              AV.fn (Fn.func (38 : Nat)) [] [AV.rptr [Dv.sl (2 : Nat) xs0]], AV.bad, AV.bad, AV.bad, AV.bad, AV.bad, AV.bad, AV.bad, AV.bad, AV.bad, AV.bad,
              AV.bad, AV.bad, AV.bad, AV.bad, AV.bad, AV.bad, AV.bad, AV.bad, AV.bad, AV.bad, AV.bad, AV.bad, AV.bad, AV.bad, AV.bad, AV.bad] =
            [AV.d (Dv.sl (2 : Nat) (rowsR l1)), AV.bad, AV.ptr (0 : Nat) (0 : Nat), AV.ptr (1 : Nat) (0 : Nat), AV.ptr (2 : Nat) (0 : Nat), AV.bad, AV.bad,
              AV.bad, AV.bad, AV.fn (Fn.func (38 : Nat)) [] [AV.rptr [Dv.sl (2 : Nat) (rowsR l1)]], AV.bad, AV.bad, AV.bad, AV.bad, AV.bad, AV.bad, AV.bad,
              AV.bad, AV.bad, AV.bad, AV.bad, AV.bad, AV.bad, AV.bad, AV.bad, AV.bad, AV.bad, AV.bad, AV.bad, AV.bad, AV.bad, AV.bad, AV.bad, AV.bad, AV.bad,
              AV.bad] ∧
          [cell (bo false), cell (i64 (0 : Int)), cell (i64 (65536 : Int))] = [cell (bo false), cell (i64 (Prod.fst s2)), cell (i64 (Prod.snd s2))] ∧
            List.length l1 ≤ (9223372036854775807 : Nat) ∧
              BIf (Prod.snd (vA l1 s2))
                (∃ xs3,
                  [AV.d (Dv.sl (2 : Nat) (rowsR l1))] = [AV.d (Dv.sl (2 : Nat) xs3)] ∧
                    ∃ l4 s5,
                      rf20b = rf20b ∧
                        [AV.bad, AV.bad, AV.ptr (0 : Nat) (0 : Nat), AV.ptr (1 : Nat) (0 : Nat), AV.ptr (2 : Nat) (0 : Nat), AV.bad, AV.bad, AV.bad, AV.bad,
                              AV.bad, AV.bad, AV.bad, AV.bad, AV.bad, AV.bad, AV.bad, AV.bad, AV.bad, AV.bad, AV.bad, AV.bad, AV.bad, AV.bad, AV.bad, AV.bad,
                              AV.bad, AV.fn (Fn.func (38 : Nat)) [] [AV.rptr [Dv.sl (2 : Nat) xs3]], AV.bad, AV.bad, AV.bad, AV.bad, AV.bad, AV.bad, AV.bad,
                              AV.bad, AV.bad] =
                            [AV.bad, AV.bad, AV.ptr (0 : Nat) (0 : Nat), AV.ptr (1 : Nat) (0 : Nat), AV.ptr (2 : Nat) (0 : Nat), AV.bad, AV.bad, AV.bad, AV.bad,
                              AV.bad, AV.bad, AV.bad, AV.bad, AV.bad, AV.bad, AV.bad, AV.bad, AV.bad, AV.bad, AV.bad, AV.bad, AV.bad, AV.bad, AV.bad, AV.bad,
                              AV.bad, AV.fn (Fn.func (38 : Nat)) [] [AV.rptr [Dv.sl (2 : Nat) (rowsR l4)]], AV.bad, AV.bad, AV.bad, AV.bad, AV.bad, AV.bad,
                              AV.bad, AV.bad, AV.bad] ∧
                          [cell (bo false), cell (i64 (Prod.fst (Prod.fst (vA l1 s2)))), cell (i64 (Prod.snd (Prod.fst (vA l1 s2))))] =
                              [cell (bo false), cell (i64 (Prod.fst s5)), cell (i64 (Prod.snd s5))] ∧
                            ((∀ (r : Row), r ∈ l4 → (1 : Int) ≤ Prod.fst r ∧ Prod.fst r < (65536 : Int)) ∧ List.length l4 ≤ (9223372036854775807 : Nat)) ∧
                              BIf (vB (Prod.fst s5) l4) (R (AV.d (bo true)) b) (R (AV.d (bo false)) b))
                (R (AV.d (bo false)) b)) := by kernel_rfl
end

theorem range20a {Ev : Env Try.prog} {b : Ev.β} {Q : Exit → St Ev.β → Prop} (xs : List (List Dv)) : ∀ (l : List Row) (s : Int × Int),
    BIf (vA l s).2 (Q .normal ⟨tm20a xs, hp20 false (vA l s).1, b⟩) (Q .ret ⟨tm20a xs, hp20 false (vA l s).1, b⟩) →
    YList (YBody Ev (tm20a xs) #[10, 11] (assignOf rf20a) (bodyOf rf20a) 3) (l.map item) (hp20 false s, b, none) (rangeQ (tm20a xs) Q)
  | [], s, h => h
  | r :: l, s, h => by
    refine YList.step (X := ⟨T29, [], wlW Ev, Ev.Y, false⟩) (k := 100) mixed (CX.Ok.of T29_ok SCallsOk.nil) rfl ?_
    show wpcY _ _ _ _ _ _ _ [eqA _ _, .d (bo _)] [cell (bo false), cell (i64 _), cell (i64 _)] b (takeK 3 _)
    rw [f20a_round]
    simp only [vA] at h
    refine BIf.of (fun hf => ?_) fun hf => ?_
    · have hf : fine r.1 r.2 = false := by simpa using hf
      rw [hf] at h; exact h
    · have hf : fine r.1 r.2 = true := by simpa using hf
      have hm := fine_ok hf
      refine ⟨_, _, rfl, hm, BIf.of (fun hc => ?_) fun hc => ⟨_, _, rfl, hm, ?_⟩⟩
      · rw [if_neg (by simp only [ge_iff_le, decide_eq_true_eq] at hc; simp [hf]; omega)] at h; exact h
      · rw [if_pos (by simp only [ge_iff_le, decide_eq_false_iff_not] at hc; simp [hf]; omega)] at h
        exact range20a xs l (or64 s.1 (lead r.1), lead r.1) h

theorem range20b {Ev : Env Try.prog} {b : Ev.β} {Q : Exit → St Ev.β → Prop} (xs : List (List Dv)) (s : Int × Int) : ∀ (l : List Row), (∀ r ∈ l, okMask r) →
    BIf (vB s.1 l) (Q .normal ⟨tm20b xs, hp20 false s, b⟩) (Q .ret ⟨tm20b xs, hp20 false s, b⟩) →
    YList (YBody Ev (tm20b xs) #[27, 28] (assignOf rf20b) (bodyOf rf20b) 3) (l.map item) (hp20 false s, b, none) (rangeQ (tm20b xs) Q)
  | [], _, h => h
  | r :: l, hok, h => by
    refine YList.step (X := ⟨T29, [], wlW Ev, Ev.Y, false⟩) (k := 100) mixed (CX.Ok.of T29_ok SCallsOk.nil) rfl ?_
    show wpcY _ _ _ _ _ _ _ [eqA _ _, .d (bo _)] [cell (bo false), cell (i64 _), cell (i64 _)] b (takeK 3 _)
    rw [f20b_round]
    refine ⟨_, _, rfl, hok r (List.mem_cons_self ..), BIf.of (fun hc => ?_) fun hc => ?_⟩
    · change (and64 r.1 s.1 != lead r.1) = true at hc
      have : vB s.1 (r :: l) = false := by
        simp only [vB, List.all_cons]
        rw [show (and64 r.1 s.1 == lead r.1) = false by simpa [bne] using hc]; rfl
      rw [this] at h; exact h
    · change (and64 r.1 s.1 != lead r.1) = false at hc
      refine range20b xs s l (fun r' hr => hok r' (List.mem_cons_of_mem _ hr)) ?_
      have : vB s.1 (r :: l) = vB s.1 l := by
        simp only [vB, List.all_cons]
        rw [show (and64 r.1 s.1 == lead r.1) = true by simpa [bne] using hc]; rfl
      rw [this] at h; exact h

theorem wl20_ok {Ev : Env Try.prog} (c : Code) (tm : List AV) (hp : List Blk) (b : Ev.β) (K : Exit → List AV → List Blk → Ev.β → Prop) (h : wl20 c tm hp b K) : W Ev c ⟨tm, hp, b⟩ (fun e s => K e s.tm s.hp s.b) := by
  unfold wl20 at h
  split at h
  · obtain ⟨l, s, rfl, htm, rfl, hpre, hK⟩ := h
    refine W.cast (htm ▸ maskTm_le _ tm 0) (LeH.refl _) ?_
    rw [rf20a_shape]
    exact W.range (s := ⟨tm20a (rowsR l), _, b⟩) (k := 38) (first := []) (caps := [.rptr [.sl 2 (rowsR l)]]) rfl rfl rfl (ic38 l hpre) (range20a (rowsR l) l s hK)
  · obtain ⟨l, s, rfl, htm, rfl, hpre, hK⟩ := h
    refine W.cast (htm ▸ maskTm_le _ tm 0) (LeH.refl _) ?_
    rw [rf20b_shape]
    exact W.range (s := ⟨tm20b (rowsR l), _, b⟩) (k := 38) (first := []) (caps := [.rptr [.sl 2 (rowsR l)]]) rfl rfl rfl (ic38 l hpre.2) (range20b (rowsR l) s l hpre.1 hK)
  · exact h.elim

theorem pc20 (l : List Row) (hl : l.length ≤ 9223372036854775807) : PCall Try.prog 20 [.d (.sl 2 (rowsR l))] (.d (bo (validS l))) := by
  refine PCall.ofFnW (n := 100) (u := false) (fun _ => wl20) mixed T29_ok SCallsOk.nil (fun Ev => wl20_ok) Try.func20 (by rfl) (by rfl) fun Ev bb => ?_
  rw [f20_nf]
  refine ⟨_, rfl, l, (0, 65536), rfl, rfl, rfl, hl, BIf.of (fun ha => ⟨_, rfl, l, _, rfl, rfl, rfl, ⟨fun r hr => fine_ok (vA_ok ha r hr), hl⟩, BIf.of (fun hb => ?_) fun hb => ?_⟩) fun ha => ?_⟩
  · rw [show validS l = true by simp only [validS, ha, hb]; rfl]
  · rw [show validS l = false by simp only [validS, ha, hb]; rfl]
  · rw [show validS l = false by simp only [validS, ha]; rfl]
def c20 (args : List AV) (K : AV → Prop) : Prop := ∃ (l : List Row), args = [.d (.sl 2 (rowsR l))] ∧ l.length ≤ 9223372036854775807 ∧ K (.d (bo (validS l)))
theorem c20_ok : ∀ args K, c20 args K → ∃ x, PCall Try.prog 20 args x ∧ K x := by
  rintro _ K ⟨l, rfl, h1, h⟩; exact ⟨_, pc20 l h1, h⟩

end Go.Proofs.Ytgdeoaiakdkhcaa.Am

namespace Go.Proofs.Ytgdeoaiakdkhcaa.Am
set_option linter.unusedVariables false
open Go Go.RowKit Go.Proofs

abbrev TS : List (Nat × (List AV → (AV → Prop) → Prop)) := [(20, c20), (28, c28), (29, c29), (30, c30), (31, c31), (32, c32), (33, c33)]
theorem TS_ok : CallsOk Try.prog TS := CallsOk.cons c20_ok (CallsOk.cons c28_ok (CallsOk.cons c29_ok (CallsOk.cons c30_ok (CallsOk.cons c31_ok (CallsOk.cons c32_ok (CallsOk.cons c33_ok CallsOk.nil))))))

/-! ### Add -/
abbrev rowB (m : Int) (bs : List (List Dv)) : Blk := ⟨[.d (i64 m), .d (.sl 1 bs)], false, false, 0⟩
abbrev acc (xs : List (List Dv)) : Blk := ⟨[.own 25 2 xs], false, false, 0⟩
noncomputable def rf12a : Code := sub [1, 1, 1, 1, 0, 2, 1, 4, 1, 0, 1, 2] (code Try.f12)
noncomputable def rf12b : Code := sub [1, 1, 1, 1, 1, 1, 1, 0, 1, 2] (code Try.f12)
theorem rf12a_shape : rf12a = .rangeFunc (.tmp 34) #[35, 36] (assignOf rf12a) (bodyOf rf12a) := by kernel_rfl
theorem rf12b_shape : rf12b = .rangeFunc (.tmp 48) #[49, 50] (assignOf rf12b) (bodyOf rf12b) := by kernel_rfl
def tm12a (xs : List (List Dv)) : List AV := List.replicate 9 .bad ++ [.ptr 2 0] ++ List.replicate 24 .bad ++ [.fn (.func 38) [] [.rptr [.sl 2 xs]]] ++ List.replicate 60 .bad
def tm12b (xs : List (List Dv)) : List AV := List.replicate 7 .bad ++ [.ptr 1 0, .bad, .bad, .bad, .ptr 2 0, .ptr 3 0] ++ List.replicate 35 .bad ++ [.fn (.func 38) [] [.rptr [.sl 2 xs]]] ++ List.replicate 46 .bad

section
variable {β : Type} (wl : WLT β) (y : YieldT β) (b : β) (R : AV → β → Prop) (K : Exit → List AV → List Blk → β → Prop) (Kh : Exit → List Blk → β → Prop)
theorem f12a_round (xs out : List (List Dv)) (m m0 : Int) (p p0 : List Int) (f : Bool) (m9 : Int) (bs9 : List (List Dv)) : wpcY Try.prog ⟨TS, [], wl, y, false⟩ 100 #[35, 36] (assignOf rf12a) (bodyOf rf12a) (tm12a xs) [eqA m p, .d (bo f)] [rowB m9 bs9, bq m0 p0, acc out] b (takeK 3 Kh) = (
  ∃ m0_1 p1 q2,
  [eqA m p] = [eqA m0_1 p1] ∧
    q2 = bytesR (b16 p1) ∧
      BIf (true && decide ((List.length out + (1 : Nat)) * (32 : Nat) ≤ (140737488355328 : Nat)))
        (Kh Exit.normal
          [{ cells := [AV.d (i64 m9), AV.d (Dv.sl (1 : Nat) bs9)] }, bq m0 p0,
            { cells := [AV.own (25 : Nat) (2 : Nat) (out ++ [[i64 m0_1, Dv.sl (1 : Nat) q2]])] }]
          b)
        False) := by kernel_rfl
theorem f12b_round (xs out : List (List Dv)) (m m0 : Int) (p p0 : List Int) (f pl : Bool) (m9 : Int) (bs9 : List (List Dv)) : wpcY Try.prog ⟨TS, [], wl, y, false⟩ 100 #[49, 50] (assignOf rf12b) (bodyOf rf12b) (tm12b xs) [eqA m p, .d (bo f)] [rowB m9 bs9, bq m0 p0, acc out, cell (bo pl)] b (takeK 4 Kh) = (
  BIf (!pl)
  (∃ m0_1 p1,
    [eqA m p] = [eqA m0_1 p1] ∧
      ((1 : Int) ≤ m0_1 ∧ m0_1 < (65536 : Int)) ∧
        ∃ m2 p3,
          [eqA m0 p0] = [eqA m2 p3] ∧
            ((1 : Int) ≤ m2 ∧ m2 < (65536 : Int)) ∧
              BIf (decide (lead m0_1 < lead m2))
                (∃ m4 p5 q6,
                  [eqA m0 p0] = [eqA m4 p5] ∧
                    q6 = bytesR (b16 p5) ∧
                      BIf (true && decide ((List.length out + (1 : Nat)) * (32 : Nat) ≤ (140737488355328 : Nat)))
                        (∃ m7 p8,
                          [eqA m0 p0] = [eqA m7 p8] ∧
                            ((1 : Int) ≤ m7 ∧ m7 < (65536 : Int)) ∧
                              BIf (IntKind.wrap IntKind.i64 ↑(BitVec.toNat (BitVec.ofInt (64 : Nat) m &&& BitVec.ofInt (64 : Nat) (lead m7))) != (0 : Int))
                                (∃ p9 q10 r11,
                                  [AV.agg (cells16 p), AV.agg (cells16 p0)] = [AV.agg (cells16 p9), AV.agg (cells16 q10)] ∧
                                    r11 = xorL p9 q10 ∧
                                      ∃ m12 p13 q14,
                                        [eqA (IntKind.wrap IntKind.i64 ↑(BitVec.toNat (BitVec.ofInt (64 : Nat) m ^^^ BitVec.ofInt (64 : Nat) m0))) r11] =
                                            [eqA m12 p13] ∧
                                          q14 = bytesR (b16 p13) ∧
                                            BIf
                                              (true &&
                                                decide
                                                  ((List.length (out ++ [[i64 m4, Dv.sl (1 : Nat) q6]]) + (1 : Nat)) * (32 : Nat) ≤ (140737488355328 : Nat)))
                                              (Kh Exit.normal
                                                [{ cells := [AV.d (i64 m9), AV.d (Dv.sl (1 : Nat) bs9)] }, bq m0 p0,
                                                  {
                                                    cells :=
                                                      [AV.own (25 : Nat) (2 : Nat)
                                                          (out ++ [[i64 m4, Dv.sl (1 : Nat) q6]] ++ [[i64 m12, Dv.sl (1 : Nat) q14]])] },
                                                  cell (bo true)]
                                                b)
                                              False)
                                (∃ m15 p16 q17,
                                  [eqA m p] = [eqA m15 p16] ∧
                                    q17 = bytesR (b16 p16) ∧
                                      BIf
                                        (true &&
                                          decide ((List.length (out ++ [[i64 m4, Dv.sl (1 : Nat) q6]]) + (1 : Nat)) * (32 : Nat) ≤ (140737488355328 : Nat)))
                                        (Kh Exit.normal
                                          [{ cells := [AV.d (i64 m9), AV.d (Dv.sl (1 : Nat) bs9)] }, bq m0 p0,
                                            {
                                              cells :=
                                                [AV.own (25 : Nat) (2 : Nat) (out ++ [[i64 m4, Dv.sl (1 : Nat) q6]] ++ [[i64 m15, Dv.sl (1 : Nat) q17]])] },
                                            cell (bo true)]
                                          b)
                                        False))
                        False)
                (∃ m18 p19,
                  [eqA m0 p0] = [eqA m18 p19] ∧
                    ((1 : Int) ≤ m18 ∧ m18 < (65536 : Int)) ∧
                      BIf (IntKind.wrap IntKind.i64 ↑(BitVec.toNat (BitVec.ofInt (64 : Nat) m &&& BitVec.ofInt (64 : Nat) (lead m18))) != (0 : Int))
                        (∃ p20 q21 r22,
                          [AV.agg (cells16 p), AV.agg (cells16 p0)] = [AV.agg (cells16 p20), AV.agg (cells16 q21)] ∧
                            r22 = xorL p20 q21 ∧
                              ∃ m23 p24 q25,
                                [eqA (IntKind.wrap IntKind.i64 ↑(BitVec.toNat (BitVec.ofInt (64 : Nat) m ^^^ BitVec.ofInt (64 : Nat) m0))) r22] =
                                    [eqA m23 p24] ∧
                                  q25 = bytesR (b16 p24) ∧
                                    BIf (true && decide ((List.length out + (1 : Nat)) * (32 : Nat) ≤ (140737488355328 : Nat)))
                                      (Kh Exit.normal
                                        [{ cells := [AV.d (i64 m9), AV.d (Dv.sl (1 : Nat) bs9)] }, bq m0 p0,
                                          { cells := [AV.own (25 : Nat) (2 : Nat) (out ++ [[i64 m23, Dv.sl (1 : Nat) q25]])] }, cell (bo pl)]
                                        b)
                                      False)
                        (∃ m26 p27 q28,
                          [eqA m p] = [eqA m26 p27] ∧
                            q28 = bytesR (b16 p27) ∧
                              BIf (true && decide ((List.length out + (1 : Nat)) * (32 : Nat) ≤ (140737488355328 : Nat)))
                                (Kh Exit.normal
                                  [{ cells := [AV.d (i64 m9), AV.d (Dv.sl (1 : Nat) bs9)] }, bq m0 p0,
                                    { cells := [AV.own (25 : Nat) (2 : Nat) (out ++ [[i64 m26, Dv.sl (1 : Nat) q28]])] }, cell (bo pl)]
                                  b)
                                False)))
  (∃ m29 p30,
    [eqA m0 p0] = [eqA m29 p30] ∧
      ((1 : Int) ≤ m29 ∧ m29 < (65536 : Int)) ∧
        BIf (IntKind.wrap IntKind.i64 ↑(BitVec.toNat (BitVec.ofInt (64 : Nat) m &&& BitVec.ofInt (64 : Nat) (lead m29))) != (0 : Int))
          (∃ p31 q32 r33,
            [AV.agg (cells16 p), AV.agg (cells16 p0)] = [AV.agg (cells16 p31), AV.agg (cells16 q32)] ∧
              r33 = xorL p31 q32 ∧
                ∃ m34 p35 q36,
                  [eqA (IntKind.wrap IntKind.i64 ↑(BitVec.toNat (BitVec.ofInt (64 : Nat) m ^^^ BitVec.ofInt (64 : Nat) m0))) r33] = [eqA m34 p35] ∧
                    q36 = bytesR (b16 p35) ∧
                      BIf (true && decide ((List.length out + (1 : Nat)) * (32 : Nat) ≤ (140737488355328 : Nat)))
                        (Kh Exit.normal
                          [{ cells := [AV.d (i64 m9), AV.d (Dv.sl (1 : Nat) bs9)] }, bq m0 p0,
                            { cells := [AV.own (25 : Nat) (2 : Nat) (out ++ [[i64 m34, Dv.sl (1 : Nat) q36]])] }, cell (bo pl)]
                          b)
                        False)
          (∃ m37 p38 q39,
            [eqA m p] = [eqA m37 p38] ∧
              q39 = bytesR (b16 p38) ∧
                BIf (true && decide ((List.length out + (1 : Nat)) * (32 : Nat) ≤ (140737488355328 : Nat)))
                  (Kh Exit.normal
                    [{ cells := [AV.d (i64 m9), AV.d (Dv.sl (1 : Nat) bs9)] }, bq m0 p0,
                      { cells := [AV.own (25 : Nat) (2 : Nat) (out ++ [[i64 m37, Dv.sl (1 : Nat) q39]])] }, cell (bo pl)]
                    b)
                  False))) := by kernel_rfl
end

end Go.Proofs.Ytgdeoaiakdkhcaa.Am

namespace Go.Proofs.Ytgdeoaiakdkhcaa.Am
set_option linter.unusedVariables false
open Go Go.RowKit Go.Proofs

theorem rowsR_snoc (out : List Row) (m : Int) (p : List Int) : rowsR out ++ [[i64 m, .sl 1 (bytesR (b16 p))]] = rowsR (out ++ [(m, b16 p)]) := by simp [rowsR, rowD]
theorem rowsR_len (out : List Row) : (rowsR out).length = out.length := by simp [rowsR]

theorem tt32 {n : Nat} (h : n ≤ 1000000) : (true && decide ((n + 1) * 32 ≤ 140737488355328)) = true := by
  rw [decide_eq_true (Nat.le_trans (Nat.mul_le_mul_right 32 (Nat.succ_le_succ h)) (by decide))]; rfl

/-- the rows as they are kept -/
def keepR (r : Row) : Row := (r.1, b16 (pad r.2))

theorem range12a {Ev : Env Try.prog} {b : Ev.β} {Q : Exit → St Ev.β → Prop} (xs : List (List Dv)) (m9 : Int) (bs9 : List (List Dv)) (x : Row) : ∀ (l out : List Row), out.length + l.length ≤ 1000000 →
    Q .normal ⟨tm12a xs, [rowB m9 bs9, bq x.1 x.2, acc (rowsR (out ++ l.map keepR))], b⟩ →
    YList (YBody Ev (tm12a xs) #[35, 36] (assignOf rf12a) (bodyOf rf12a) 3) (l.map item) ([rowB m9 bs9, bq x.1 x.2, acc (rowsR out)], b, none) (rangeQ (tm12a xs) Q)
  | [], out, _, h => by simpa [YList, rangeQ] using h
  | r :: l, out, hl, h => by
    refine YList.step (X := ⟨TS, [], wlW Ev, Ev.Y, false⟩) (k := 100) mixed (CX.Ok.of TS_ok SCallsOk.nil) rfl ?_
    show wpcY _ _ _ _ _ _ _ [eqA _ _, .d (bo _)] [rowB _ _, bq _ _, acc _] b (takeK 3 _)
    rw [f12a_round]
    simp only [List.length_cons] at hl
    refine ⟨r.1, pad r.2, _, rfl, rfl, BIf.t (tt32 (by rw [rowsR_len]; omega)) ?_⟩
    show YList _ _ ([rowB m9 bs9, bq x.1 x.2, acc (rowsR out ++ [[i64 r.1, .sl 1 (bytesR (b16 (pad r.2)))]])], b, none) _
    rw [rowsR_snoc]
    refine range12a xs m9 bs9 x l (out ++ [keepR r]) (by simp; omega) ?_
    simpa using h

/-- one row more among the rows -/
def stepB (e : Row) (s : List Row × Bool) (r : Row) : List Row × Bool :=
  ((if !s.2 && decide (lead r.1 < lead e.1) then s.1 ++ [(e.1, b16 e.2)] else s.1) ++ [if and64 r.1 (lead e.1) != 0 then (xor64 r.1 e.1, b16 (xorL (pad r.2) e.2)) else (r.1, b16 (pad r.2))],
   s.2 || decide (lead r.1 < lead e.1))

set_option maxHeartbeats 4000000 in
theorem range12b {Ev : Env Try.prog} {b : Ev.β} {Q : Exit → St Ev.β → Prop} (xs : List (List Dv)) (m9 : Int) (bs9 : List (List Dv)) (e : Row) (he : okMask e) : ∀ (l out : List Row) (pl : Bool), (∀ r ∈ l, okMask r) → out.length + 2 * l.length ≤ 1000000 →
    Q .normal ⟨tm12b xs, [rowB m9 bs9, bq e.1 e.2, acc (rowsR (l.foldl (stepB e) (out, pl)).1), cell (bo (l.foldl (stepB e) (out, pl)).2)], b⟩ →
    YList (YBody Ev (tm12b xs) #[49, 50] (assignOf rf12b) (bodyOf rf12b) 4) (l.map item) ([rowB m9 bs9, bq e.1 e.2, acc (rowsR out), cell (bo pl)], b, none) (rangeQ (tm12b xs) Q)
  | [], out, pl, _, _, h => h
  | r :: l, out, pl, hok, hl, h => by
    refine YList.step (X := ⟨TS, [], wlW Ev, Ev.Y, false⟩) (k := 100) mixed (CX.Ok.of TS_ok SCallsOk.nil) rfl ?_
    show wpcY _ _ _ _ _ _ _ [eqA _ _, .d (bo _)] [rowB _ _, bq _ _, acc _, cell (bo _)] b (takeK 4 _)
    rw [f12b_round]
    simp only [List.length_cons] at hl
    have hr := hok r (List.mem_cons_self ..)
    have hok' : ∀ r ∈ l, okMask r := fun r' h' => hok r' (List.mem_cons_of_mem _ h')
    rw [List.foldl_cons] at h
    have key : ∀ (out1 : List Row) (pl1 : Bool), out1.length ≤ out.length + 1 → (∀ (m : Int) (p : List Int), stepB e (out, pl) r = (out1 ++ [(m, b16 p)], pl1) →
        YList (YBody Ev (tm12b xs) #[49, 50] (assignOf rf12b) (bodyOf rf12b) 4) (l.map item) ([rowB m9 bs9, bq e.1 e.2, acc (rowsR out1 ++ [[i64 m, .sl 1 (bytesR (b16 p))]]), cell (bo pl1)], b, none) (rangeQ (tm12b xs) Q)) := by
      intro out1 pl1 hlen m p hs
      rw [rowsR_snoc]
      refine range12b xs m9 bs9 e he l (out1 ++ [(m, b16 p)]) pl1 hok' (by rw [List.length_append, List.length_singleton]; omega) ?_
      rw [← hs]; exact h
    have hn0 := tt32 (n := (rowsR out).length) (by rw [rowsR_len]; omega)
    have hn1 : ∀ (p : List Int), (true && decide (((rowsR out ++ [[i64 e.1, .sl 1 (bytesR (b16 p))]]).length + 1) * 32 ≤ 140737488355328)) = true := fun p => tt32 (by rw [rowsR_snoc, rowsR_len, List.length_append, List.length_singleton]; omega)
    refine BIf.of (fun h1 => ?_) fun h1 => ?_
    · have h1 : pl = false := by simpa using h1
      refine ⟨r.1, pad r.2, rfl, hr, e.1, e.2, rfl, he, BIf.of (fun h2 => ?_) fun h2 => ?_⟩
      · refine ⟨e.1, e.2, _, rfl, rfl, BIf.t hn0 ⟨e.1, e.2, rfl, he, BIf.of (fun h3 => ?_) fun h3 => ?_⟩⟩
        · change (and64 r.1 (lead e.1) != 0) = true at h3
          refine ⟨pad r.2, e.2, _, rfl, rfl, _, _, _, rfl, rfl, BIf.t (hn1 _) ?_⟩
          show YList _ _ ([rowB m9 bs9, bq e.1 e.2, acc ((rowsR out ++ _) ++ _), cell (bo true)], b, none) _
          rw [rowsR_snoc]
          refine key (out ++ [(e.1, b16 e.2)]) true (by simp) _ _ ?_
          simp only [stepB, h1, h2, h3, Bool.not_false, Bool.and_self, if_true, Bool.or_true]; rfl
        · change (and64 r.1 (lead e.1) != 0) = false at h3
          refine ⟨_, _, _, rfl, rfl, BIf.t (hn1 _) ?_⟩
          show YList _ _ ([rowB m9 bs9, bq e.1 e.2, acc ((rowsR out ++ _) ++ _), cell (bo true)], b, none) _
          rw [rowsR_snoc]
          refine key (out ++ [(e.1, b16 e.2)]) true (by simp) _ _ ?_
          simp only [stepB, h1, h2, h3, Bool.not_false, Bool.and_self, if_true, Bool.or_true, Bool.false_eq_true, if_false]
      · refine ⟨e.1, e.2, rfl, he, BIf.of (fun h3 => ?_) fun h3 => ?_⟩
        · change (and64 r.1 (lead e.1) != 0) = true at h3
          refine ⟨pad r.2, e.2, _, rfl, rfl, _, _, _, rfl, rfl, BIf.t hn0 (key out pl (by omega) _ _ ?_)⟩
          simp only [stepB, h1, h2, h3, Bool.and_false, if_true, Bool.or_false, Bool.false_eq_true, if_false]; rfl
        · change (and64 r.1 (lead e.1) != 0) = false at h3
          refine ⟨_, _, _, rfl, rfl, BIf.t hn0 (key out pl (by omega) _ _ ?_)⟩
          simp only [stepB, h1, h2, h3, Bool.and_false, Bool.or_false, Bool.false_eq_true, if_false]
    · have h1 : pl = true := by simpa using h1
      refine ⟨e.1, e.2, rfl, he, BIf.of (fun h3 => ?_) fun h3 => ?_⟩
      · change (and64 r.1 (lead e.1) != 0) = true at h3
        refine ⟨pad r.2, e.2, _, rfl, rfl, _, _, _, rfl, rfl, BIf.t hn0 (key out pl (by omega) _ _ ?_)⟩
        simp only [stepB, h1, h3, Bool.not_true, Bool.false_and, if_true, Bool.true_or, Bool.false_eq_true, if_false]; rfl
      · change (and64 r.1 (lead e.1) != 0) = false at h3
        refine ⟨_, _, _, rfl, rfl, BIf.t hn0 (key out pl (by omega) _ _ ?_)⟩
        simp only [stepB, h1, h3, Bool.not_true, Bool.false_and, Bool.true_or, Bool.false_eq_true, if_false]

/-- what the ranges of Add come to -/
def wl12 {β : Type} : WLT β := fun c tm hp b K => match cidO c with
  | 9 => ∃ (l : List Row) (m9 : Int) (bs9 : List (List Dv)) (x : Row), c = rf12a ∧ maskTm [9, 34] 0 tm = tm12a (rowsR l) ∧ hp = [rowB m9 bs9, bq x.1 x.2, cell (.s (.slice none 0 0))] ∧ l.length ≤ 1000000 ∧
      K .normal (tm12a (rowsR l)) [rowB m9 bs9, bq x.1 x.2, acc (rowsR (l.map keepR))] b
  | 17 => ∃ (l : List Row) (m9 : Int) (bs9 : List (List Dv)) (e : Row) (s : List Row × Bool), c = rf12b ∧ maskTm [7, 11, 12, 48] 0 tm = tm12b (rowsR l) ∧ hp = [rowB m9 bs9, bq e.1 e.2, cell (.s (.slice none 0 0)), cell (bo false)] ∧ (okMask e ∧ (∀ r ∈ l, okMask r) ∧ 2 * l.length ≤ 1000000) ∧
      s = l.foldl (stepB e) ([], false) ∧ K .normal (tm12b (rowsR l)) [rowB m9 bs9, bq e.1 e.2, acc (rowsR s.1), cell (bo s.2)] b
  | _ => False

theorem wl12_ok {Ev : Env Try.prog} (c : Code) (tm : List AV) (hp : List Blk) (b : Ev.β) (K : Exit → List AV → List Blk → Ev.β → Prop) (h : wl12 c tm hp b K) : W Ev c ⟨tm, hp, b⟩ (fun e s => K e s.tm s.hp s.b) := by
  unfold wl12 at h
  split at h
  · obtain ⟨l, m9, bs9, x, rfl, htm, rfl, hpre, hK⟩ := h
    refine W.cast (hp' := [rowB m9 bs9, bq x.1 x.2, acc (rowsR [])]) (htm ▸ maskTm_le _ tm 0) (.cons (LeL.refl _) (.cons (LeL.refl _) (.cons (.cons (LeA.nilOwn rfl) .nil) .nil))) ?_
    rw [rf12a_shape]
    exact W.range (s := ⟨tm12a (rowsR l), _, b⟩) (k := 38) (first := []) (caps := [.rptr [.sl 2 (rowsR l)]]) rfl rfl rfl (ic38 l (by omega)) (range12a (rowsR l) m9 bs9 x l [] (by simpa using hpre) hK)
  · obtain ⟨l, m9, bs9, e, s, rfl, htm, rfl, ⟨he, hok, hl⟩, rfl, hK⟩ := h
    refine W.cast (hp' := [rowB m9 bs9, bq e.1 e.2, acc (rowsR []), cell (bo false)]) (htm ▸ maskTm_le _ tm 0) (.cons (LeL.refl _) (.cons (LeL.refl _) (.cons (.cons (LeA.nilOwn rfl) .nil) (.cons (LeL.refl _) .nil)))) ?_
    rw [rf12b_shape]
    exact W.range (s := ⟨tm12b (rowsR l), _, b⟩) (k := 38) (first := []) (caps := [.rptr [.sl 2 (rowsR l)]]) rfl rfl rfl (ic38 l (by omega)) (range12b (rowsR l) m9 bs9 e he l [] false hok (by simpa using hl) hK)
  · exact h.elim

section
variable {β : Type} (wl : WLT β) (y : YieldT β) (b : β) (R : AV → β → Prop)
theorem f12_nf (xs : List (List Dv)) (m : Int) (p : List Int) : wpFn Try.prog ⟨TS, [], wl12, y, false⟩ 100 Try.f12 [.d (.sl 2 xs), rowA m p] b R = (
  ∃ m0 b1,
  [AV.agg [AV.d (i64 m), AV.d (Dv.sl (1 : Nat) (bytesR p))]] = [AV.agg [AV.d (i64 m0), AV.d (Dv.sl (1 : Nat) (bytesR b1))]] ∧
    ∃ l2,
      [AV.d (Dv.sl (2 : Nat) xs)] = [AV.d (Dv.sl (2 : Nat) (rowsR l2))] ∧
        List.length l2 ≤ (9223372036854775807 : Nat) ∧
          BIf (!validS l2) (R (AV.tup [AV.d (Dv.s (Value.slice none (0 : Nat) (0 : Nat))), AV.d (bo false), AV.d (i64 (1 : Int))]) b)
            (BIf (!fine m0 b1) (R (AV.tup [AV.d (Dv.s (Value.slice none (0 : Nat) (0 : Nat))), AV.d (bo false), AV.d (i64 (1 : Int))]) b)
              (∃ l3 m4 p5 x6,
                [AV.d (Dv.sl (2 : Nat) xs), eqA m0 (pad b1)] = [AV.d (Dv.sl (2 : Nat) (rowsR l3)), eqA m4 p5] ∧
                  ((∀ (r : Row), r ∈ l3 → (1 : Int) ≤ Prod.fst r ∧ Prod.fst r < (65536 : Int)) ∧ List.length l3 ≤ (9223372036854775807 : Nat)) ∧
                    x6 = List.foldl red (m4, p5) l3 ∧
                      BIf
                        (Prod.fst x6 == (0 : Int) &&
                          (nth (Prod.snd x6) (0 : Nat) == (0 : Int) &&
                              (nth (Prod.snd x6) (1 : Nat) == (0 : Int) &&
                                (nth (Prod.snd x6) (2 : Nat) == (0 : Int) &&
                                  (nth (Prod.snd x6) (3 : Nat) == (0 : Int) &&
                                    (nth (Prod.snd x6) (4 : Nat) == (0 : Int) &&
                                      (nth (Prod.snd x6) (5 : Nat) == (0 : Int) &&
                                        (nth (Prod.snd x6) (6 : Nat) == (0 : Int) &&
                                          (nth (Prod.snd x6) (7 : Nat) == (0 : Int) &&
                                            (nth (Prod.snd x6) (8 : Nat) == (0 : Int) &&
                                              (nth (Prod.snd x6) (9 : Nat) == (0 : Int) &&
                                                (nth (Prod.snd x6) (10 : Nat) == (0 : Int) &&
                                                  (nth (Prod.snd x6) (11 : Nat) == (0 : Int) &&
                                                    (nth (Prod.snd x6) (12 : Nat) == (0 : Int) &&
                                                      (nth (Prod.snd x6) (13 : Nat) == (0 : Int) &&
                                                        (nth (Prod.snd x6) (14 : Nat) == (0 : Int) &&
                                                          (nth (Prod.snd x6) (15 : Nat) == (0 : Int) && true))))))))))))))) &&
                            true))
                        (∃ xs7,
                          [AV.d (Dv.sl (2 : Nat) xs)] = [AV.d (Dv.sl (2 : Nat) xs7)] ∧
                            ∃ l8 m9 bs10 x11,
                              rf12a = rf12a ∧
                                [AV.bad, AV.bad, AV.bad, AV.bad, AV.bad, AV.bad, AV.bad, AV.bad, AV.bad, AV.ptr (2 : Nat) (0 : Nat), AV.bad, AV.bad, AV.bad,
                                      AV.bad, AV.bad, AV.bad, AV.bad, AV.bad, AV.bad, AV.bad, AV.bad, AV.bad, AV.bad, AV.bad, AV.bad, AV.bad, AV.bad, AV.bad,
                                      AV.bad, AV.bad, AV.bad, AV.bad, AV.bad, AV.bad, AV.fn (Fn.func (38 : Nat)) [] [AV.rptr [Dv.sl (2 : Nat) xs7]], AV.bad,
                                      AV.bad, AV.bad, AV.bad, AV.bad, AV.bad, AV.bad, AV.bad, AV.bad, AV.bad, AV.bad, AV.bad, AV.bad, AV.bad, AV.bad, AV.bad,
                                      AV.bad, AV.bad, AV.bad, AV.bad, AV.bad, AV.bad, AV.bad, AV.bad, AV.bad, AV.bad, AV.bad, AV.bad, AV.bad, AV.bad, AV.bad,
                                      AV.bad, AV.bad, AV.bad, AV.bad, AV.bad, AV.bad, AV.bad, AV.bad, AV.bad, AV.bad, AV.bad, AV.bad, AV.bad, AV.bad, AV.bad,
                                      AV.bad, AV.bad, AV.bad, AV.bad, AV.bad, AV.bad, AV.bad, AV.bad, AV.bad, AV.bad, AV.bad, AV.bad, AV.bad, AV.bad] =
                                    [AV.bad, AV.bad, AV.bad, AV.bad, AV.bad, AV.bad, AV.bad, AV.bad, AV.bad, AV.ptr (2 : Nat) (0 : Nat), AV.bad, AV.bad, AV.bad,
                                      AV.bad, AV.bad, AV.bad, AV.bad, AV.bad, AV.bad, AV.bad, AV.bad, AV.bad, AV.bad, AV.bad, AV.bad, AV.bad, AV.bad, AV.bad,
                                      AV.bad, AV.bad, AV.bad, AV.bad, AV.bad, AV.bad, AV.fn (Fn.func (38 : Nat)) [] [AV.rptr [Dv.sl (2 : Nat) (rowsR l8)]],
                                      AV.bad, AV.bad, AV.bad, AV.bad, AV.bad, AV.bad, AV.bad, AV.bad, AV.bad, AV.bad, AV.bad, AV.bad, AV.bad, AV.bad, AV.bad,
                                      AV.bad, AV.bad, AV.bad, AV.bad, AV.bad, AV.bad, AV.bad, AV.bad, AV.bad, AV.bad, AV.bad, AV.bad, AV.bad, AV.bad, AV.bad,
                                      AV.bad, AV.bad, AV.bad, AV.bad, AV.bad, AV.bad, AV.bad, AV.bad, AV.bad, AV.bad, AV.bad, AV.bad, AV.bad, AV.bad, AV.bad,
                                      AV.bad, AV.bad, AV.bad, AV.bad, AV.bad, AV.bad, AV.bad, AV.bad, AV.bad, AV.bad, AV.bad, AV.bad, AV.bad, AV.bad, AV.bad] ∧
                                  [{ cells := [AV.d (i64 m), AV.d (Dv.sl (1 : Nat) (bytesR p))] }, bq (Prod.fst x6) (Prod.snd x6),
                                        cell (Dv.s (Value.slice none (0 : Nat) (0 : Nat)))] =
                                      [{ cells := [AV.d (i64 m9), AV.d (Dv.sl (1 : Nat) bs10)] }, bq (Prod.fst x11) (Prod.snd x11),
                                        cell (Dv.s (Value.slice none (0 : Nat) (0 : Nat)))] ∧
                                    List.length l8 ≤ (1000000 : Nat) ∧
                                      R (AV.tup [AV.d (Dv.sl (2 : Nat) (rowsR (List.map keepR l8))), AV.d (bo false), AV.d (i64 (0 : Int))]) b)
                        (BIf (Prod.fst x6 == (0 : Int))
                          (R (AV.tup [AV.d (Dv.s (Value.slice none (0 : Nat) (0 : Nat))), AV.d (bo false), AV.d (i64 (12 : Int))]) b)
                          (∃ xs12,
                            [AV.d (Dv.sl (2 : Nat) xs)] = [AV.d (Dv.sl (2 : Nat) xs12)] ∧
                              ∃ l13 m14 bs15 e16 s17,
                                rf12b = rf12b ∧
                                  [AV.bad, AV.bad, AV.bad, AV.bad, AV.bad, AV.bad, AV.bad, AV.ptr (1 : Nat) (0 : Nat), AV.bad, AV.bad, AV.bad,
                                        AV.ptr (2 : Nat) (0 : Nat), AV.ptr (3 : Nat) (0 : Nat), AV.bad, AV.bad, AV.bad, AV.bad, AV.bad, AV.bad, AV.bad, AV.bad,
                                        AV.bad, AV.bad, AV.bad, AV.bad, AV.bad, AV.bad, AV.bad, AV.bad, AV.bad, AV.bad, AV.bad, AV.bad, AV.bad, AV.bad, AV.bad,
                                        AV.bad, AV.bad, AV.bad, AV.bad, AV.bad, AV.bad, AV.bad, AV.bad, AV.bad, AV.bad, AV.bad, AV.bad,
                                        AV.fn (Fn.func (38 : Nat)) [] [AV.rptr [Dv.sl (2 : Nat) xs12]], AV.bad, AV.bad, AV.bad, AV.bad, AV.bad, AV.bad, AV.bad,
                                        AV.bad, AV.bad, AV.bad, AV.bad, AV.bad, AV.bad, AV.bad, AV.bad, AV.bad, AV.bad, AV.bad, AV.bad, AV.bad, AV.bad, AV.bad,
                                        AV.bad, AV.bad, AV.bad, AV.bad, AV.bad, AV.bad, AV.bad, AV.bad, AV.bad, AV.bad, AV.bad, AV.bad, AV.bad, AV.bad, AV.bad,
                                        AV.bad, AV.bad, AV.bad, AV.bad, AV.bad, AV.bad, AV.bad, AV.bad, AV.bad] =
                                      [AV.bad, AV.bad, AV.bad, AV.bad, AV.bad, AV.bad, AV.bad, AV.ptr (1 : Nat) (0 : Nat), AV.bad, AV.bad, AV.bad,
                                        AV.ptr (2 : Nat) (0 : Nat), AV.ptr (3 : Nat) (0 : Nat), AV.bad, AV.bad, AV.bad, AV.bad, AV.bad, AV.bad, AV.bad, AV.bad,
                                        AV.bad, AV.bad, AV.bad, AV.bad, AV.bad, AV.bad, AV.bad, AV.bad, AV.bad, AV.bad, AV.bad, AV.bad, AV.bad, AV.bad, AV.bad,
                                        AV.bad, AV.bad, AV.bad, AV.bad, AV.bad, AV.bad, AV.bad, AV.bad, AV.bad, AV.bad, AV.bad, AV.bad,
                                        AV.fn (Fn.func (38 : Nat)) [] [AV.rptr [Dv.sl (2 : Nat) (rowsR l13)]], AV.bad, AV.bad, AV.bad, AV.bad, AV.bad, AV.bad,
                                        AV.bad, AV.bad, AV.bad, AV.bad, AV.bad, AV.bad, AV.bad, AV.bad, AV.bad, AV.bad, AV.bad, AV.bad, AV.bad, AV.bad, AV.bad,
                                        AV.bad, AV.bad, AV.bad, AV.bad, AV.bad, AV.bad, AV.bad, AV.bad, AV.bad, AV.bad, AV.bad, AV.bad, AV.bad, AV.bad, AV.bad,
                                        AV.bad, AV.bad, AV.bad, AV.bad, AV.bad, AV.bad, AV.bad, AV.bad, AV.bad, AV.bad] ∧
                                    [{ cells := [AV.d (i64 m), AV.d (Dv.sl (1 : Nat) (bytesR p))] }, bq (Prod.fst x6) (Prod.snd x6),
                                          cell (Dv.s (Value.slice none (0 : Nat) (0 : Nat))), cell (bo false)] =
                                        [{ cells := [AV.d (i64 m14), AV.d (Dv.sl (1 : Nat) bs15)] }, bq (Prod.fst e16) (Prod.snd e16),
                                          cell (Dv.s (Value.slice none (0 : Nat) (0 : Nat))), cell (bo false)] ∧
                                      (((1 : Int) ≤ Prod.fst e16 ∧ Prod.fst e16 < (65536 : Int)) ∧
                                          (∀ (r : Row), r ∈ l13 → (1 : Int) ≤ Prod.fst r ∧ Prod.fst r < (65536 : Int)) ∧
                                            (2 : Nat) * List.length l13 ≤ (1000000 : Nat)) ∧
                                        s17 = List.foldl (stepB e16) ([], false) l13 ∧
                                          BIf (!Prod.snd s17)
                                            (∃ m18 p19 q20,
                                              [eqA (Prod.fst e16) (Prod.snd e16)] = [eqA m18 p19] ∧
                                                q20 = bytesR (b16 p19) ∧
                                                  BIf (true && decide ((List.length (rowsR (Prod.fst s17)) + (1 : Nat)) * (32 : Nat) ≤ (140737488355328 : Nat)))
                                                    (R
                                                      (AV.tup
                                                        [AV.d (Dv.sl (2 : Nat) (rowsR (Prod.fst s17) ++ [[i64 m18, Dv.sl (1 : Nat) q20]])), AV.d (bo true),
                                                          AV.d (i64 (0 : Int))])
                                                      b)
                                                    False)
                                            (R (AV.tup [AV.d (Dv.sl (2 : Nat) (rowsR (Prod.fst s17))), AV.d (bo true), AV.d (i64 (0 : Int))]) b)))))) := by kernel_rfl
end
end Go.Proofs.Ytgdeoaiakdkhcaa.Am

namespace Go.Proofs.Ytgdeoaiakdkhcaa.Am
set_option linter.unusedVariables false
open Go Go.RowKit Go.Proofs

/-! ### words on masks -/
theorem ofInt_toNat {a : Int} (h0 : 0 ≤ a) (h1 : a < 18446744073709551616) : (BitVec.ofInt 64 a).toNat = a.toNat := by
  simp [BitVec.toNat_ofInt]; omega
theorem xor64_eq {a b : Int} (h0 : 0 ≤ a) (h1 : a < 65536) (h2 : 0 ≤ b) (h3 : b < 65536) : xor64 a b = ((a.toNat ^^^ b.toNat : Nat) : Int) := by
  unfold xor64
  rw [BitVec.toNat_xor, ofInt_toNat h0 (by omega), ofInt_toNat h2 (by omega)]
  have : a.toNat ^^^ b.toNat < 2 ^ 16 := Nat.xor_lt_two_pow (by omega) (by omega)
  rw [wrap_i64 (by omega) (by omega)]
theorem and64_eq {a b : Int} (h0 : 0 ≤ a) (h1 : a < 65536) (h2 : 0 ≤ b) (h3 : b < 65536) : and64 a b = ((a.toNat &&& b.toNat : Nat) : Int) := by
  unfold and64
  rw [BitVec.toNat_and, ofInt_toNat h0 (by omega), ofInt_toNat h2 (by omega)]
  have : a.toNat &&& b.toNat < 2 ^ 16 := Nat.and_lt_two_pow _ (by omega)
  rw [wrap_i64 (by omega) (by omega)]
theorem or64_eq {a b : Int} (h0 : 0 ≤ a) (h1 : a < 65536) (h2 : 0 ≤ b) (h3 : b < 65536) : or64 a b = ((a.toNat ||| b.toNat : Nat) : Int) := by
  unfold or64
  rw [BitVec.toNat_or, ofInt_toNat h0 (by omega), ofInt_toNat h2 (by omega)]
  have : a.toNat ||| b.toNat < 2 ^ 16 := Nat.or_lt_two_pow (by omega) (by omega)
  rw [wrap_i64 (by omega) (by omega)]
theorem xor64_bd {a b : Int} (h0 : 0 ≤ a) (h1 : a < 65536) (h2 : 0 ≤ b) (h3 : b < 65536) : 0 ≤ xor64 a b ∧ xor64 a b < 65536 := by
  rw [xor64_eq h0 h1 h2 h3]
  have : a.toNat ^^^ b.toNat < 2 ^ 16 := Nat.xor_lt_two_pow (by omega) (by omega)
  omega

theorem red_bd {x r : Row} (hx : 0 ≤ x.1 ∧ x.1 < 65536) (hr : okMask r) : 0 ≤ (red x r).1 ∧ (red x r).1 < 65536 := by
  unfold red
  split
  · exact xor64_bd hx.1 hx.2 (by have := hr.1; omega) hr.2
  · exact hx
theorem foldl_red_bd : ∀ {l : List Row} {x : Row}, 0 ≤ x.1 ∧ x.1 < 65536 → (∀ r ∈ l, okMask r) → 0 ≤ (l.foldl red x).1 ∧ (l.foldl red x).1 < 65536
  | [], x, hx, _ => hx
  | r :: l, x, hx, h => foldl_red_bd (l := l) (x := red x r) (red_bd hx (h r (List.mem_cons_self ..))) fun r' h' => h r' (List.mem_cons_of_mem _ h')

theorem stepB_len (e : Row) : ∀ (l : List Row) (s : List Row × Bool), (l.foldl (stepB e) s).1.length ≤ s.1.length + 2 * l.length
  | [], s => by simp
  | r :: l, s => by
    have h1 := stepB_len e l (stepB e s r)
    have h2 : (stepB e s r).1.length ≤ s.1.length + 2 := by
      simp only [stepB]; split <;> simp
    simp only [List.foldl_cons, List.length_cons]; omega

/-! ### Add -/
def zero16 (p : List Int) : Bool := (List.range 16).all fun i => nth p i == 0
def addR (x : List Row × Bool × Int) : AV := .tup [.d (.sl 2 (rowsR x.1)), .d (bo x.2.1), .d (i64 x.2.2)]
def addS (l : List Row) (m : Int) (b : List Int) : List Row × Bool × Int :=
  if !validS l || !fine m b then ([], false, 1) else
  let x := l.foldl red (m, pad b)
  if x.1 == 0 && zero16 x.2 then (l.map keepR, false, 0) else if x.1 == 0 then ([], false, 12) else
  let s := l.foldl (stepB x) ([], false)
  (if !s.2 then s.1 ++ [(x.1, b16 x.2)] else s.1, true, 0)

theorem nilTup (a b : AV) : LeT (.tup [.d (.s (.slice none 0 0)), a, b]) (.tup [.d (.sl 2 (rowsR [])), a, b]) := .tup (.cons (LeA.nilSl rfl) (LeL.refl _))

theorem pc12 (l : List Row) (m : Int) (b : List Int) (hl : 2 * l.length ≤ 1000000) : PCall Try.prog 12 [.d (.sl 2 (rowsR l)), rowA m b] (addR (addS l m b)) := by
  refine PCall.ofFnL (n := 100) (u := false) (fun _ => wl12) mixed TS_ok SCallsOk.nil (fun Ev => wl12_ok) Try.func12 (by rfl) (by rfl) fun Ev bb => ?_
  rw [f12_nf]
  refine ⟨m, b, rfl, l, rfl, by omega, BIf.of (fun h1 => ?_) fun h1 => BIf.of (fun h2 => ?_) fun h2 => ?_⟩
  · rw [show addS l m b = ([], false, 1) by simp only [addS, h1, Bool.true_or, if_true]]; exact nilTup _ _
  · rw [show addS l m b = ([], false, 1) by simp only [addS, h2, Bool.or_true, if_true]]; exact nilTup _ _
  · have hv : validS l = true := by simpa using h1
    have hok : ∀ r ∈ l, okMask r := by
      simp only [validS, Bool.and_eq_true] at hv
      exact fun r hr => fine_ok (vA_ok hv.1 r hr)
    have hf : fine m b = true := by simpa using h2
    have hm : 0 ≤ m ∧ m < 65536 := by
      have := fine_ok (r := (m, b)) hf
      exact ⟨by have := this.1; omega, this.2⟩
    have hx := foldl_red_bd (l := l) (x := (m, pad b)) hm hok
    refine ⟨l, m, pad b, _, rfl, ⟨hok, by omega⟩, rfl, ?_⟩
    show BIf ((l.foldl red (m, pad b)).1 == 0 && (zero16 (l.foldl red (m, pad b)).2 && true)) _ _
    have e0 : addS l m b = (let x := l.foldl red (m, pad b)
        if x.1 == 0 && zero16 x.2 then (l.map keepR, false, 0) else if x.1 == 0 then ([], false, 12) else
        let s := l.foldl (stepB x) ([], false)
        (if !s.2 then s.1 ++ [(x.1, b16 x.2)] else s.1, true, 0)) := by
      simp only [addS, h1, h2, Bool.or_false, Bool.false_eq_true, if_false]
    rw [e0]
    generalize l.foldl red (m, pad b) = x at hx
    refine BIf.of (fun h3 => ?_) fun h3 => BIf.of (fun h4 => ?_) fun h4 => ?_
    · rw [Bool.and_true] at h3
      refine ⟨_, rfl, l, _, _, x, rfl, rfl, rfl, by omega, ?_⟩
      simp only [h3, if_true]
      exact .rfl
    · rw [Bool.and_true] at h3
      show LeT _ (addR (if (x.1 == 0 && zero16 x.2) = true then _ else _))
      rw [h3, if_neg (by simp), if_pos h4]
      exact nilTup _ _
    · rw [Bool.and_true] at h3
      have hne : x.1 ≠ 0 := by simpa using h4
      have hxo : okMask x := ⟨by omega, hx.2⟩
      refine ⟨_, rfl, l, _, _, x, _, rfl, rfl, rfl, ⟨hxo, hok, hl⟩, rfl, ?_⟩
      have hlen := stepB_len x l ([], false)
      simp only [h3, h4, Bool.false_eq_true, if_false]
      generalize l.foldl (stepB x) ([], false) = s at hlen
      simp only [List.length_nil] at hlen
      refine BIf.of (fun h5 => ?_) fun h5 => ?_
      · refine ⟨_, _, _, rfl, rfl, BIf.t (tt32 (by rw [rowsR_len]; omega)) ?_⟩
        rw [rowsR_snoc]
        simp only [h5, if_true]
        exact .rfl
      · simp only [h5, Bool.false_eq_true, if_false]
        exact .rfl
def c12 (args : List AV) (K : AV → Prop) : Prop := ∃ (l : List Row) (m : Int) (b : List Int) (x : List Row × Bool × Int), args = [.d (.sl 2 (rowsR l)), rowA m b] ∧ 2 * l.length ≤ 1000000 ∧ x = addS l m b ∧ K (addR x)
theorem c12_ok : ∀ args K, c12 args K → ∃ x, PCall Try.prog 12 args x ∧ K x := by
  rintro _ K ⟨l, m, b, _, rfl, h1, rfl, h⟩; exact ⟨_, pc12 l m b h1, h⟩

end Go.Proofs.Ytgdeoaiakdkhcaa.Am

namespace Go.Proofs.Ytgdeoaiakdkhcaa.Am
set_option linter.unusedVariables false
open Go Go.RowKit Go.Proofs

/-! ### Sum -/
def bytesB (x : List Int × Bool) : AV := .tup [.d (.sl 1 (bytesR x.1)), .d (bo x.2)]
theorem nilTup1 (a : AV) : LeT (.tup [.d (.s (.slice none 0 0)), a]) (.tup [.d (.sl 1 (bytesR [])), a]) := .tup (.cons (LeA.nilSl rfl) (LeL.refl _))
def sumS (l : List Row) (m : Int) : List Int × Bool :=
  if decide (m < 0) || (decide (m ≥ 65536) || !validS l) then ([], false) else
  let x := l.foldl red (m, [])
  if x.1 != 0 then ([], false) else (b16 x.2, true)

noncomputable def rf14 : Code := sub [1, 8, 1, 1, 1, 0, 1, 2] (code Try.f14)
theorem rf14_shape : rf14 = .rangeFunc (.tmp 20) #[21, 22] (assignOf rf14) (bodyOf rf14) := by kernel_rfl
def tm14 (xs : List (List Dv)) : List AV := [.bad, .bad, .bad, .ptr 0 0, .bad, .bad, .ptr 1 0] ++ List.replicate 13 .bad ++ [.fn (.func 38) [] [.rptr [.sl 2 xs]]] ++ List.replicate 13 .bad

section
variable {β : Type} (wl : WLT β) (y : YieldT β) (b : β) (R : AV → β → Prop) (Kh : Exit → List Blk → β → Prop)
theorem f16_nf (xs : List (List Dv)) (m : Int) : wpFn Try.prog ⟨TS, [], wl, y, false⟩ 100 Try.f16 [.d (.sl 2 xs), .d (i64 m)] b R = (
  BIf (decide (m < (0 : Int))) (R (AV.tup [AV.d (Dv.s (Value.slice none (0 : Nat) (0 : Nat))), AV.d (bo false)]) b)
  (BIf (decide (m ≥ (65536 : Int))) (R (AV.tup [AV.d (Dv.s (Value.slice none (0 : Nat) (0 : Nat))), AV.d (bo false)]) b)
    (∃ l0,
      [AV.d (Dv.sl (2 : Nat) xs)] = [AV.d (Dv.sl (2 : Nat) (rowsR l0))] ∧
        List.length l0 ≤ (9223372036854775807 : Nat) ∧
          BIf (!validS l0) (R (AV.tup [AV.d (Dv.s (Value.slice none (0 : Nat) (0 : Nat))), AV.d (bo false)]) b)
            (∃ l1 m2 p3 x4,
              [AV.d (Dv.sl (2 : Nat) xs),
                    AV.agg
                      [AV.d (i64 m), AV.d (u8 (0 : Int)), AV.d (u8 (0 : Int)), AV.d (u8 (0 : Int)), AV.d (u8 (0 : Int)), AV.d (u8 (0 : Int)),
                        AV.d (u8 (0 : Int)), AV.d (u8 (0 : Int)), AV.d (u8 (0 : Int)), AV.d (u8 (0 : Int)), AV.d (u8 (0 : Int)), AV.d (u8 (0 : Int)),
                        AV.d (u8 (0 : Int)), AV.d (u8 (0 : Int)), AV.d (u8 (0 : Int)), AV.d (u8 (0 : Int)), AV.d (u8 (0 : Int))]] =
                  [AV.d (Dv.sl (2 : Nat) (rowsR l1)), eqA m2 p3] ∧
                ((∀ (r : Row), r ∈ l1 → (1 : Int) ≤ Prod.fst r ∧ Prod.fst r < (65536 : Int)) ∧ List.length l1 ≤ (9223372036854775807 : Nat)) ∧
                  x4 = List.foldl red (m2, p3) l1 ∧
                    BIf (Prod.fst x4 != (0 : Int)) (R (AV.tup [AV.d (Dv.s (Value.slice none (0 : Nat) (0 : Nat))), AV.d (bo false)]) b)
                      (∃ m5 p6 q7,
                        [eqA (Prod.fst x4) (Prod.snd x4)] = [eqA m5 p6] ∧ q7 = bytesR (b16 p6) ∧ R (AV.tup [AV.d (Dv.sl (1 : Nat) q7), AV.d (bo true)]) b))))) := by kernel_rfl
theorem f14_round (xs : List (List Dv)) (m i : Int) (p : List Int) (f : Bool) (v : Dv) : wpcY Try.prog ⟨TS, [], wl, y, false⟩ 100 #[21, 22] (assignOf rf14) (bodyOf rf14) (tm14 xs) [eqA m p, .d (bo f)] [cell (i64 i), cell v] b (takeK 2 Kh) = (
  BIf (decide (i < (0 : Int))) False
  (BIf (m == IntKind.wrap IntKind.i64 ((1 : Int) * (2 : Int) ^ min (Int.toNat i) (64 : Nat)))
    (∃ m0 p1 q2, [eqA m p] = [eqA m0 p1] ∧ q2 = bytesR (b16 p1) ∧ Kh (Exit.exit (0 : Nat)) [cell (i64 i), cell (Dv.sl (1 : Nat) q2)] b)
    (Kh Exit.normal [cell (i64 i), cell v] b))) := by kernel_rfl
end

theorem pc16 (l : List Row) (m : Int) (hl : l.length ≤ 9223372036854775807) : PCall Try.prog 16 [.d (.sl 2 (rowsR l)), .d (i64 m)] (bytesB (sumS l m)) := by
  refine PCall.ofFnL (n := 100) (u := false) wlNo mixed TS_ok SCallsOk.nil wlNo_ok Try.func16 (by rfl) (by rfl) fun Ev bb => ?_
  rw [f16_nf]
  refine BIf.of (fun h1 => ?_) fun h1 => BIf.of (fun h2 => ?_) fun h2 => ⟨l, rfl, hl, BIf.of (fun h3 => ?_) fun h3 => ?_⟩
  · rw [show sumS l m = ([], false) by simp only [sumS, h1, Bool.true_or, if_true]]; exact nilTup1 _
  · rw [show sumS l m = ([], false) by simp only [sumS, h2, Bool.true_or, Bool.or_true, if_true]]; exact nilTup1 _
  · rw [show sumS l m = ([], false) by simp only [sumS, h3, Bool.or_true, if_true]]; exact nilTup1 _
  · have hv : validS l = true := by simpa using h3
    have hok : ∀ r ∈ l, okMask r := by
      simp only [validS, Bool.and_eq_true] at hv
      exact fun r hr => fine_ok (vA_ok hv.1 r hr)
    have e0 : sumS l m = (let x := l.foldl red (m, []); if x.1 != 0 then ([], false) else (b16 x.2, true)) := by
      simp only [sumS, h1, h2, h3, Bool.or_false, Bool.false_eq_true, if_false]
    rw [e0]
    refine ⟨l, m, [], _, rfl, ⟨hok, hl⟩, rfl, BIf.of (fun h4 => ?_) fun h4 => ⟨_, _, _, rfl, rfl, ?_⟩⟩
    · rw [show (let x := l.foldl red (m, []); if x.1 != 0 then ([], false) else (b16 x.2, true)) = (([], false) : List Int × Bool) by simp only [h4, if_true]]; exact nilTup1 _
    · rw [show (let x := l.foldl red (m, []); if x.1 != 0 then ([], false) else (b16 x.2, true)) = ((b16 (l.foldl red (m, [])).2, true) : List Int × Bool) by simp only [h4, Bool.false_eq_true, if_false]]; exact .rfl
def c16 (args : List AV) (K : AV → Prop) : Prop := ∃ (l : List Row) (m : Int) (x : List Int × Bool), args = [.d (.sl 2 (rowsR l)), .d (i64 m)] ∧ l.length ≤ 9223372036854775807 ∧ x = sumS l m ∧ K (bytesB x)
theorem c16_ok : ∀ args K, c16 args K → ∃ x, PCall Try.prog 16 args x ∧ K x := by
  rintro _ K ⟨l, m, _, rfl, h1, rfl, h⟩; exact ⟨_, pc16 l m h1, h⟩

/-! ### Solved -/
def bit (i : Int) : Int := IntKind.wrap .i64 (1 * 2 ^ min i.toNat 64)
def findS (l : List Row) (i : Int) : Option Row := l.find? fun r => r.1 == bit i
def foundS (l : List Row) (i : Int) : List Int := match findS l i with
  | some r => b16 (pad r.2)
  | none => []
def solvedS (l : List Row) (i : Int) : List Int × Bool :=
  if decide (i < 0) || (decide (i ≥ 16) || !validS l) then ([], false) else
  if (findS l i).isSome then (foundS l i, true) else ([], false)

def wl14 {β : Type} : WLT β := fun c tm hp b K => ∃ (l : List Row) (i : Int), c = rf14 ∧ maskTm [3, 6, 20] 0 tm = tm14 (rowsR l) ∧ hp = [cell (i64 i), cell (.s (.slice none 0 0))] ∧ (0 ≤ i ∧ l.length ≤ 9223372036854775807) ∧
  BIf (findS l i).isSome (∃ q, q = foundS l i ∧ K (.exit 0) (tm14 (rowsR l)) [cell (i64 i), cell (.sl 1 (bytesR (b16 q)))] b) (K .normal (tm14 (rowsR l)) [cell (i64 i), cell (.s (.slice none 0 0))] b)

theorem range14 {Ev : Env Try.prog} {b : Ev.β} {Q : Exit → St Ev.β → Prop} (xs : List (List Dv)) (i : Int) (hi : 0 ≤ i) : ∀ (l : List Row),
    BIf (findS l i).isSome (Q (.exit 0) ⟨tm14 xs, [cell (i64 i), cell (.sl 1 (bytesR (b16 (foundS l i))))], b⟩) (Q .normal ⟨tm14 xs, [cell (i64 i), cell (.s (.slice none 0 0))], b⟩) →
    YList (YBody Ev (tm14 xs) #[21, 22] (assignOf rf14) (bodyOf rf14) 2) (l.map item) ([cell (i64 i), cell (.s (.slice none 0 0))], b, none) (rangeQ (tm14 xs) Q)
  | [], h => h
  | r :: l, h => by
    refine YList.step (X := ⟨TS, [], wlW Ev, Ev.Y, false⟩) (k := 100) mixed (CX.Ok.of TS_ok SCallsOk.nil) rfl ?_
    show wpcY _ _ _ _ _ _ _ [eqA _ _, .d (bo _)] [cell (i64 _), cell _] b (takeK 2 _)
    rw [f14_round]
    refine BIf.f (by simpa using hi) (BIf.of (fun hc => ⟨_, _, _, rfl, rfl, ?_⟩) fun hc => ?_)
    · change (r.1 == bit i) = true at hc
      have e1 : findS (r :: l) i = some r := by simp only [findS, List.find?_cons, hc]
      have e2 : foundS (r :: l) i = b16 (pad r.2) := by simp only [foundS, e1]
      rw [e1, e2] at h
      exact h
    · change (r.1 == bit i) = false at hc
      have e1 : findS (r :: l) i = findS l i := by simp only [findS, List.find?_cons, hc]
      have e2 : foundS (r :: l) i = foundS l i := by simp only [foundS, e1]
      rw [e1, e2] at h
      exact range14 xs i hi l h

theorem wl14_ok {Ev : Env Try.prog} (c : Code) (tm : List AV) (hp : List Blk) (b : Ev.β) (K : Exit → List AV → List Blk → Ev.β → Prop) (h : wl14 c tm hp b K) : W Ev c ⟨tm, hp, b⟩ (fun e s => K e s.tm s.hp s.b) := by
  obtain ⟨l, i, rfl, htm, rfl, ⟨hi, hpre⟩, hK⟩ := h
  refine W.cast (htm ▸ maskTm_le _ tm 0) (LeH.refl _) ?_
  rw [rf14_shape]
  exact W.range (s := ⟨tm14 (rowsR l), _, b⟩) (k := 38) (first := []) (caps := [.rptr [.sl 2 (rowsR l)]]) rfl rfl rfl (ic38 l hpre) (range14 (rowsR l) i hi l (hK.elim.elim (fun h => BIf.t h.1 (by obtain ⟨q, rfl, h⟩ := h.2; exact h)) fun h => BIf.f h.1 h.2))

section
variable {β : Type} (wl : WLT β) (y : YieldT β) (b : β) (R : AV → β → Prop)
theorem f14_nf (xs : List (List Dv)) (i : Int) : wpFn Try.prog ⟨TS, [], wl14, y, false⟩ 100 Try.f14 [.d (.sl 2 xs), .d (i64 i)] b R = (
  BIf (decide (i < (0 : Int))) (R (AV.tup [AV.d (Dv.s (Value.slice none (0 : Nat) (0 : Nat))), AV.d (bo false)]) b)
  (BIf (decide (i ≥ (16 : Int))) (R (AV.tup [AV.d (Dv.s (Value.slice none (0 : Nat) (0 : Nat))), AV.d (bo false)]) b)
    (∃ l0,
      [AV.d (Dv.sl (2 : Nat) xs)] = [AV.d (Dv.sl (2 : Nat) (rowsR l0))] ∧
        List.length l0 ≤ (9223372036854775807 : Nat) ∧
          BIf (!validS l0) (R (AV.tup [AV.d (Dv.s (Value.slice none (0 : Nat) (0 : Nat))), AV.d (bo false)]) b)
            (∃ xs1,
              [AV.d (Dv.sl (2 : Nat) xs)] = [AV.d (Dv.sl (2 : Nat) xs1)] ∧
                ∃ l2 i3,
                  rf14 = rf14 ∧
                    [AV.bad, AV.bad, AV.bad, AV.ptr (0 : Nat) (0 : Nat), AV.bad, AV.bad, AV.ptr (1 : Nat) (0 : Nat), AV.bad, AV.bad, AV.bad, AV.bad, AV.bad,
                          AV.bad, AV.bad, AV.bad, AV.bad, AV.bad, AV.bad, AV.bad, AV.bad, AV.fn (Fn.func (38 : Nat)) [] [AV.rptr [Dv.sl (2 : Nat) xs1]], AV.bad,
                          AV.bad, AV.bad, AV.bad, AV.bad, AV.bad, AV.bad, AV.bad, AV.bad, AV.bad, AV.bad, AV.bad, AV.bad] =
                        [AV.bad, AV.bad, AV.bad, AV.ptr (0 : Nat) (0 : Nat), AV.bad, AV.bad, AV.ptr (1 : Nat) (0 : Nat), AV.bad, AV.bad, AV.bad, AV.bad, AV.bad,
                          AV.bad, AV.bad, AV.bad, AV.bad, AV.bad, AV.bad, AV.bad, AV.bad, AV.fn (Fn.func (38 : Nat)) [] [AV.rptr [Dv.sl (2 : Nat) (rowsR l2)]],
                          AV.bad, AV.bad, AV.bad, AV.bad, AV.bad, AV.bad, AV.bad, AV.bad, AV.bad, AV.bad, AV.bad, AV.bad, AV.bad] ∧
                      [cell (i64 i), cell (Dv.s (Value.slice none (0 : Nat) (0 : Nat)))] = [cell (i64 i3), cell (Dv.s (Value.slice none (0 : Nat) (0 : Nat)))] ∧
                        ((0 : Int) ≤ i3 ∧ List.length l2 ≤ (9223372036854775807 : Nat)) ∧
                          BIf (Option.isSome (findS l2 i3)) (∃ q4, q4 = foundS l2 i3 ∧ R (AV.tup [AV.d (Dv.sl (1 : Nat) (bytesR (b16 q4))), AV.d (bo true)]) b)
                            (R (AV.tup [AV.d (Dv.s (Value.slice none (0 : Nat) (0 : Nat))), AV.d (bo false)]) b))))) := by kernel_rfl
end

theorem pc14 (l : List Row) (i : Int) (hl : l.length ≤ 9223372036854775807) : PCall Try.prog 14 [.d (.sl 2 (rowsR l)), .d (i64 i)] (bytesB (solvedS l i)) := by
  refine PCall.ofFnL (n := 100) (u := false) (fun _ => wl14) mixed TS_ok SCallsOk.nil (fun Ev => wl14_ok) Try.func14 (by rfl) (by rfl) fun Ev bb => ?_
  rw [f14_nf]
  refine BIf.of (fun h1 => ?_) fun h1 => BIf.of (fun h2 => ?_) fun h2 => ⟨l, rfl, hl, BIf.of (fun h3 => ?_) fun h3 => ?_⟩
  · rw [show solvedS l i = ([], false) by simp only [solvedS, h1, Bool.true_or, if_true]]; exact nilTup1 _
  · rw [show solvedS l i = ([], false) by simp only [solvedS, h2, Bool.true_or, Bool.or_true, if_true]]; exact nilTup1 _
  · rw [show solvedS l i = ([], false) by simp only [solvedS, h3, Bool.or_true, if_true]]; exact nilTup1 _
  · have e0 : solvedS l i = if (findS l i).isSome then (foundS l i, true) else ([], false) := by
      simp only [solvedS, h1, h2, h3, Bool.or_false, Bool.false_eq_true, if_false]
    rw [e0]
    refine ⟨_, rfl, l, i, rfl, rfl, rfl, ⟨by simpa using h1, hl⟩, BIf.of (fun h4 => ?_) fun h4 => ?_⟩
    · rw [if_pos h4]
      refine ⟨_, rfl, ?_⟩
      have : b16 (foundS l i) = foundS l i := by
        obtain ⟨r, hr⟩ := Option.isSome_iff_exists.1 h4
        simp only [foundS, hr]; rfl
      rw [this]; exact .rfl
    · rw [if_neg (by simp [h4])]
      exact nilTup1 _
def c14 (args : List AV) (K : AV → Prop) : Prop := ∃ (l : List Row) (m : Int) (x : List Int × Bool), args = [.d (.sl 2 (rowsR l)), .d (i64 m)] ∧ l.length ≤ 9223372036854775807 ∧ x = solvedS l m ∧ K (bytesB x)
theorem c14_ok : ∀ args K, c14 args K → ∃ x, PCall Try.prog 14 args x ∧ K x := by
  rintro _ K ⟨l, m, _, rfl, h1, rfl, h⟩; exact ⟨_, pc14 l m h1, h⟩
end Go.Proofs.Ytgdeoaiakdkhcaa.Am

namespace Go.Proofs.Ytgdeoaiakdkhcaa.Am
set_option linter.unusedVariables false
open Go Go.RowKit Go.Proofs

noncomputable def lp37 : Code := sub [1, 1, 0, 2, 3] (code Try.f37)
noncomputable def lp11 : Code := sub [1, 0, 1, 2, 3] (code Try.f11)
noncomputable def lp19 : Code := sub [1, 1, 0, 1, 2, 3] (code Try.f19)
noncomputable def lp18 : Code := sub [1, 1, 0, 1, 2, 3] (code Try.f18)
def tm37 (m k : Int) : List AV := [.d (i64 m), .bad, .bad, .d (i64 k)] ++ List.replicate 7 .bad
def tm11 (xs : List (List Dv)) (i : Int) : List AV := [.d (.sl 2 xs), .bad, .bad, .d (i64 i)] ++ List.replicate 16 .bad
def tm19 (xs ys : List (List Dv)) (i : Int) : List AV := [.d (.sl 1 xs), .d (.sl 1 ys), .bad, .bad, .bad, .d (i64 i)] ++ List.replicate 20 .bad
def tm18 (xs ys : List (List Dv)) (i : Int) : List AV := [.d (.sl 2 xs), .d (.sl 2 ys), .bad, .bad, .bad, .d (i64 i)] ++ List.replicate 36 .bad

section
variable {β : Type} (wl : WLT β) (y : YieldT β) (b : β) (R : AV → β → Prop) (K : Exit → List AV → List Blk → β → Prop)
theorem f37_round (m k : Int) : wpc Try.prog ⟨[], [], wl, y, false⟩ 100 lp37 (tm37 m k) [] b (maskK 0 [0, 3] K) = (
  BIf (decide (IntKind.wrap IntKind.i64 (k * (2 : Int)) ≤ m))
  (K Exit.normal [AV.d (i64 m), AV.bad, AV.bad, AV.d (i64 (IntKind.wrap IntKind.i64 (k * (2 : Int)))), AV.bad, AV.bad, AV.bad, AV.bad, AV.bad, AV.bad, AV.bad]
    [] b)
  (K (Exit.exit (0 : Nat)) [AV.d (i64 m), AV.bad, AV.bad, AV.d (i64 k), AV.bad, AV.bad, AV.bad, AV.bad, AV.bad, AV.bad, AV.bad] [] b)) := by kernel_rfl
theorem f11_round (xs : List (List Dv)) (i : Int) : wpc Try.prog ⟨[], [], wl, y, false⟩ 100 lp11 (tm11 xs i) [] b (maskK 0 [0, 2, 3] K) = (
  BIf (decide (i < ↑(List.length xs)))
  (BIf (true && decide ((0 : Int) ≤ i))
    (∃ x0 xs1,
      xs[Int.toNat i]? = some [i64 x0, Dv.sl (1 : Nat) xs1] ∧
        BIf (decide (↑(List.length xs1) > (100 : Int)))
          (K Exit.ret
            [AV.d (Dv.sl (2 : Nat) xs), AV.bad, AV.d (bo false), AV.d (i64 i), AV.bad, AV.bad, AV.bad, AV.bad, AV.bad, AV.bad, AV.bad, AV.bad, AV.bad, AV.bad,
              AV.bad, AV.bad, AV.bad, AV.bad, AV.bad, AV.bad]
            [] b)
          (K Exit.normal
            [AV.d (Dv.sl (2 : Nat) xs), AV.bad, AV.bad, AV.d (i64 (IntKind.wrap IntKind.i64 (i + (1 : Int)))), AV.bad, AV.bad, AV.bad, AV.bad, AV.bad, AV.bad,
              AV.bad, AV.bad, AV.bad, AV.bad, AV.bad, AV.bad, AV.bad, AV.bad, AV.bad, AV.bad]
            [] b))
    False)
  (K (Exit.exit (0 : Nat))
    [AV.d (Dv.sl (2 : Nat) xs), AV.bad, AV.bad, AV.d (i64 i), AV.bad, AV.bad, AV.bad, AV.bad, AV.bad, AV.bad, AV.bad, AV.bad, AV.bad, AV.bad, AV.bad, AV.bad,
      AV.bad, AV.bad, AV.bad, AV.bad]
    [] b)) := by kernel_rfl
theorem f19_round (xs ys : List (List Dv)) (i : Int) : wpc Try.prog ⟨[], [], wl, y, false⟩ 100 lp19 (tm19 xs ys i) [] b (maskK 0 [0, 1, 4, 5] K) = (
  BIf (decide (i < ↑(List.length xs)))
  (BIf (true && decide ((0 : Int) ≤ i))
    (∃ x0,
      xs[Int.toNat i]? = some [u8 x0] ∧
        BIf (true && decide ((0 : Int) ≤ i))
          (∃ x3,
            ys[Int.toNat i]? = some [u8 x3] ∧
              BIf (x0 != x3)
                (K Exit.ret
                  [AV.d (Dv.sl (1 : Nat) xs), AV.d (Dv.sl (1 : Nat) ys), AV.bad, AV.bad, AV.d (bo false), AV.d (i64 i), AV.bad, AV.bad, AV.bad, AV.bad, AV.bad,
                    AV.bad, AV.bad, AV.bad, AV.bad, AV.bad, AV.bad, AV.bad, AV.bad, AV.bad, AV.bad, AV.bad, AV.bad, AV.bad, AV.bad, AV.bad]
                  [] b)
                (K Exit.normal
                  [AV.d (Dv.sl (1 : Nat) xs), AV.d (Dv.sl (1 : Nat) ys), AV.bad, AV.bad, AV.bad, AV.d (i64 (IntKind.wrap IntKind.i64 (i + (1 : Int)))), AV.bad,
                    AV.bad, AV.bad, AV.bad, AV.bad, AV.bad, AV.bad, AV.bad, AV.bad, AV.bad, AV.bad, AV.bad, AV.bad, AV.bad, AV.bad, AV.bad, AV.bad, AV.bad,
                    AV.bad, AV.bad]
                  [] b))
          False)
    False)
  (K (Exit.exit (0 : Nat))
    [AV.d (Dv.sl (1 : Nat) xs), AV.d (Dv.sl (1 : Nat) ys), AV.bad, AV.bad, AV.bad, AV.d (i64 i), AV.bad, AV.bad, AV.bad, AV.bad, AV.bad, AV.bad, AV.bad, AV.bad,
      AV.bad, AV.bad, AV.bad, AV.bad, AV.bad, AV.bad, AV.bad, AV.bad, AV.bad, AV.bad, AV.bad, AV.bad]
    [] b)) := by kernel_rfl
end
end Go.Proofs.Ytgdeoaiakdkhcaa.Am

namespace Go.Proofs.Ytgdeoaiakdkhcaa.Am
set_option linter.unusedVariables false
open Go Go.RowKit Go.Proofs

theorem drop_cons {α : Type} {l rest : List α} {r : α} {k : Nat} (hd : l.drop k = r :: rest) : k < l.length ∧ l[k]? = some r ∧ l.drop (k + 1) = rest := by
  refine ⟨?_, ?_, ?_⟩
  · rcases Nat.lt_or_ge k l.length with h | h
    · exact h
    · rw [List.drop_eq_nil_of_le h] at hd; cases hd
  · have := congrArg (fun x => x[0]?) hd
    simpa using this
  · have := congrArg List.tail hd
    simpa using this
theorem drop_nil {α : Type} {l : List α} {k : Nat} (hd : l.drop k = []) : l.length ≤ k := List.drop_eq_nil_iff.1 hd
theorem wrap_succ {n k : Nat} (h : k < n) (hn : n ≤ 9223372036854775807) : IntKind.wrap .i64 ((k : Int) + 1) = ((k + 1 : Nat) : Int) := by
  rw [wrap_i64 (by omega) (by omega)]; simp

theorem bif_f {t : Bool} {A B : Prop} (h : BIf t A B) (ht : t = false) : B := by subst ht; exact h
theorem bif_t {t : Bool} {A B : Prop} (h : BIf t A B) (ht : t = true) : A := by subst ht; exact h

/-! ### Leading -/
theorem wr37 {Ev : Env Try.prog} {b : Ev.β} {Q : Exit → St Ev.β → Prop} (m : Int) (h0 : 1 ≤ m) (h1 : m < 4611686018427387904) (hQ : Q (.exit 0) ⟨tm37 m (lead m), [], b⟩) : ∀ (n j : Nat), j + n = m.toNat.log2 →
    WR Ev lp37 (n + 1) ⟨tm37 m ((2 ^ j : Nat) : Int), [], b⟩ Q := by
  intro n
  have hn : m.toNat ≠ 0 := by omega
  obtain ⟨b1, b2⟩ := log2_bounds hn
  have hl : m.toNat.log2 < 62 := (Nat.log2_lt hn).2 (by omega)
  induction n with
  | zero =>
    intro j hj
    refine WR.ofMask [0, 3] mixed (CX.Ok.of (u := false) CallsOk.nil SCallsOk.nil) (k := 100) ?_
    show wpc _ _ _ _ _ _ _ (maskK 0 _ _)
    rw [f37_round]
    have hj' : j = m.toNat.log2 := by omega
    subst hj'
    rw [Nat.pow_succ] at b2
    generalize hz : 2 ^ m.toNat.log2 = z at b1 b2
    rw [wrap_i64 (by omega) (by omega)]
    refine BIf.f (by simp; omega) ?_
    have : ((z : Nat) : Int) = lead m := by unfold lead; rw [hz]
    rw [this]; exact hQ
  | succ n ih =>
    intro j hj
    refine WR.ofMask [0, 3] mixed (CX.Ok.of (u := false) CallsOk.nil SCallsOk.nil) (k := 100) ?_
    show wpc _ _ _ _ _ _ _ (maskK 0 _ _)
    rw [f37_round]
    have hle : 2 ^ (j + 1) ≤ 2 ^ m.toNat.log2 := Nat.pow_le_pow_right (by omega) (by omega)
    have e : ((2 ^ j : Nat) : Int) * 2 = ((2 ^ (j + 1) : Nat) : Int) := by rw [Nat.pow_succ]; simp
    rw [e]
    have hz := ih (j + 1) (by omega)
    generalize 2 ^ (j + 1) = z at hle hz
    rw [wrap_i64 (by omega) (by omega)]
    exact BIf.t (by simp; omega) hz

def wl37 {β : Type} : WLT β := fun c tm hp b K => ∃ (m : Int), c = .loop lp37 ∧ maskTm [0, 3] 0 tm = tm37 m 1 ∧ hp = [] ∧ (1 ≤ m ∧ m < 4611686018427387904) ∧ K (.exit 0) (tm37 m (lead m)) [] b
theorem wl37_ok {Ev : Env Try.prog} (c : Code) (tm : List AV) (hp : List Blk) (b : Ev.β) (K : Exit → List AV → List Blk → Ev.β → Prop) (h : wl37 c tm hp b K) : W Ev c ⟨tm, hp, b⟩ (fun e s => K e s.tm s.hp s.b) := by
  obtain ⟨m, rfl, htm, rfl, ⟨h0, h1⟩, hK⟩ := h
  refine W.cast (htm ▸ maskTm_le _ tm 0) (LeH.refl _) ?_
  exact W.rounds (wr37 m h0 h1 (Q := fun e s => K e s.tm s.hp s.b) hK m.toNat.log2 0 (by omega))
section
variable {β : Type} (wl : WLT β) (y : YieldT β) (b : β) (R : AV → β → Prop)
theorem f37_nf (m : Int) : wpFn Try.prog ⟨[], [], wl37, y, false⟩ 100 Try.f37 [.d (i64 m)] b R = (
  ∃ m0 : Int, Code.loop lp37 = Code.loop lp37 ∧ tm37 m 1 = tm37 m0 1 ∧ ([] : List Blk) = [] ∧ ((1 : Int) ≤ m0 ∧ m0 < (4611686018427387904 : Int)) ∧ R (AV.d (i64 (lead m0))) b) := by kernel_rfl
end
theorem pc37 (m : Int) (h0 : 1 ≤ m) (h1 : m < 4611686018427387904) : PCall Try.prog 37 [.d (i64 m)] (.d (i64 (lead m))) := by
  refine PCall.ofFnW (n := 100) (u := false) (fun _ => wl37) mixed CallsOk.nil SCallsOk.nil (fun Ev => wl37_ok) Try.func37 (by rfl) (by rfl) fun Ev bb => ?_
  rw [f37_nf]
  exact ⟨m, rfl, rfl, rfl, ⟨h0, h1⟩, rfl⟩
def c37 (args : List AV) (K : AV → Prop) : Prop := ∃ (m : Int), args = [.d (i64 m)] ∧ (1 ≤ m ∧ m < 4611686018427387904) ∧ K (.d (i64 (lead m)))
theorem c37_ok : ∀ args K, c37 args K → ∃ x, PCall Try.prog 37 args x ∧ K x := by
  rintro _ K ⟨m, rfl, ⟨h0, h1⟩, h⟩; exact ⟨_, pc37 m h0 h1, h⟩

/-! ### Few -/
def fewS (l : List Row) : Bool := (l.all fun r => decide (r.2.length ≤ 100)) && decide (l.length ≤ 40)
def wl11 {β : Type} : WLT β := fun c tm hp b K => ∃ (l : List Row), c = .loop lp11 ∧ maskTm [0, 3] 0 tm = tm11 (rowsR l) 0 ∧ hp = [] ∧ l.length ≤ 9223372036854775807 ∧
  BIf (l.all fun r => decide (r.2.length ≤ 100)) (K (.exit 0) (tm11 (rowsR l) l.length) [] b) (∀ i : Int, K .ret ((tm11 (rowsR l) i).set 2 (.d (bo false))) [] b)
theorem wr11 {Ev : Env Try.prog} {b : Ev.β} {Q : Exit → St Ev.β → Prop} (l : List Row) (hl : l.length ≤ 9223372036854775807) : ∀ (rest : List Row) (k : Nat), l.drop k = rest →
    BIf (rest.all fun r => decide (r.2.length ≤ 100)) (Q (.exit 0) ⟨tm11 (rowsR l) l.length, [], b⟩) (∀ i : Int, Q .ret ⟨(tm11 (rowsR l) i).set 2 (.d (bo false)), [], b⟩) →
    k ≤ l.length → WR Ev lp11 (rest.length + 1) ⟨tm11 (rowsR l) k, [], b⟩ Q
  | [], k, hd, hQ, hk => by
    refine WR.ofMask [0, 2, 3] mixed (CX.Ok.of (u := false) CallsOk.nil SCallsOk.nil) (k := 100) ?_
    show wpc _ _ _ _ _ _ _ (maskK 0 _ _)
    rw [f11_round]
    have := drop_nil hd
    have e : k = l.length := by omega
    subst e
    exact BIf.f (by simp [rowsR]) hQ
  | r :: rest, k, hd, hQ, hk => by
    refine WR.ofMask [0, 2, 3] mixed (CX.Ok.of (u := false) CallsOk.nil SCallsOk.nil) (k := 100) ?_
    show wpc _ _ _ _ _ _ _ (maskK 0 _ _)
    rw [f11_round]
    obtain ⟨hk, hr, hd'⟩ := drop_cons hd
    refine BIf.t (by simpa [rowsR] using hk) (BIf.t (by simp) ⟨r.1, bytesR r.2, by simp [rowsR, hr, rowD], BIf.of (fun h => ?_) fun h => ?_⟩)
    · have h : 100 < r.2.length := by simp [bytesR] at h; omega
      refine bif_f hQ ?_ k
      simp only [List.all_cons, Bool.and_eq_false_iff, decide_eq_false_iff_not]
      exact .inl (by omega)
    · have h : r.2.length ≤ 100 := by simp [bytesR] at h; omega
      rw [wrap_succ hk hl]
      refine wr11 l hl rest (k + 1) hd' ?_ hk
      simpa only [List.all_cons, h, decide_true, Bool.true_and] using hQ
theorem wl11_ok {Ev : Env Try.prog} (c : Code) (tm : List AV) (hp : List Blk) (b : Ev.β) (K : Exit → List AV → List Blk → Ev.β → Prop) (h : wl11 c tm hp b K) : W Ev c ⟨tm, hp, b⟩ (fun e s => K e s.tm s.hp s.b) := by
  obtain ⟨l, rfl, htm, rfl, h0, hK⟩ := h
  refine W.cast (htm ▸ maskTm_le _ tm 0) (LeH.refl _) ?_
  exact W.rounds (wr11 (Q := fun e s => K e s.tm s.hp s.b) l h0 l 0 rfl hK (Nat.zero_le _))
section
variable {β : Type} (wl : WLT β) (y : YieldT β) (b : β) (R : AV → β → Prop)
theorem f11_nf (xs : List (List Dv)) : wpFn Try.prog ⟨[], [], wl11, y, false⟩ 100 Try.f11 [.d (.sl 2 xs)] b R = (
  ∃ l : List Row, Code.loop lp11 = Code.loop lp11 ∧ tm11 xs 0 = tm11 (rowsR l) 0 ∧ ([] : List Blk) = [] ∧ l.length ≤ (9223372036854775807 : Nat) ∧
    BIf (l.all fun r => decide (r.2.length ≤ 100)) (R (AV.d (bo (decide ((((rowsR l).length : Nat) : Int) ≤ (40 : Int))))) b) (∀ (i : Int), R (AV.d (bo false)) b)) := by kernel_rfl
end
theorem pc11 (l : List Row) (hl : l.length ≤ 9223372036854775807) : PCall Try.prog 11 [.d (.sl 2 (rowsR l))] (.d (bo (fewS l))) := by
  refine PCall.ofFnW (n := 100) (u := false) (fun _ => wl11) mixed CallsOk.nil SCallsOk.nil (fun Ev => wl11_ok) Try.func11 (by rfl) (by rfl) fun Ev bb => ?_
  rw [f11_nf]
  refine ⟨l, rfl, rfl, rfl, hl, BIf.of (fun h => ?_) fun h _ => ?_⟩
  · simp only [fewS, h, Bool.true_and]
    congr 3
    simp [rowsR]; omega
  · simp only [fewS, h, Bool.false_and]
def c11 (args : List AV) (K : AV → Prop) : Prop := ∃ (l : List Row), args = [.d (.sl 2 (rowsR l))] ∧ l.length ≤ 9223372036854775807 ∧ K (.d (bo (fewS l)))
theorem c11_ok : ∀ args K, c11 args K → ∃ x, PCall Try.prog 11 args x ∧ K x := by
  rintro _ K ⟨l, rfl, h1, h⟩; exact ⟨_, pc11 l h1, h⟩

/-! ### Bytes -/
def wl19 {β : Type} : WLT β := fun c tm hp b K => ∃ (p q : List Int), c = .loop lp19 ∧ maskTm [0, 1, 5] 0 tm = tm19 (bytesR p) (bytesR q) 0 ∧ hp = [] ∧ (p.length ≤ 9223372036854775807 ∧ p.length = q.length) ∧
  BIf (p == q) (K (.exit 0) (tm19 (bytesR p) (bytesR q) p.length) [] b) (∀ i : Int, K .ret ((tm19 (bytesR p) (bytesR q) i).set 4 (.d (bo false))) [] b)
theorem wr19 {Ev : Env Try.prog} {b : Ev.β} {Q : Exit → St Ev.β → Prop} (p q : List Int) (hl : p.length ≤ 9223372036854775807) : ∀ (u v : List Int) (k : Nat), p.drop k = u → q.drop k = v → u.length = v.length →
    BIf (u == v) (Q (.exit 0) ⟨tm19 (bytesR p) (bytesR q) p.length, [], b⟩) (∀ i : Int, Q .ret ⟨(tm19 (bytesR p) (bytesR q) i).set 4 (.d (bo false)), [], b⟩) →
    k ≤ p.length → WR Ev lp19 (u.length + 1) ⟨tm19 (bytesR p) (bytesR q) k, [], b⟩ Q
  | [], [], k, hd, _, _, hQ, hk => by
    refine WR.ofMask [0, 1, 4, 5] mixed (CX.Ok.of (u := false) CallsOk.nil SCallsOk.nil) (k := 100) ?_
    show wpc _ _ _ _ _ _ _ (maskK 0 _ _)
    rw [f19_round]
    have := drop_nil hd
    have e : k = p.length := by omega
    subst e
    exact BIf.f (by simp [bytesR]) hQ
  | x :: u, y :: v, k, hd, hd2, hle, hQ, hk => by
    refine WR.ofMask [0, 1, 4, 5] mixed (CX.Ok.of (u := false) CallsOk.nil SCallsOk.nil) (k := 100) ?_
    show wpc _ _ _ _ _ _ _ (maskK 0 _ _)
    rw [f19_round]
    obtain ⟨hk, hr, hd'⟩ := drop_cons hd
    obtain ⟨_, hr2, hd2'⟩ := drop_cons hd2
    refine BIf.t (by simpa [bytesR] using hk) (BIf.t (by simp) ⟨x, by simp [bytesR, hr], BIf.t (by simp) ⟨y, by simp [bytesR, hr2], BIf.of (fun h => ?_) fun h => ?_⟩⟩)
    · have h : x ≠ y := by simpa [bne] using h
      exact bif_f hQ (by simp [h]) k
    · have h : x = y := by simpa [bne] using h
      rw [wrap_succ hk hl]
      refine wr19 p q hl u v (k + 1) hd' hd2' (by simpa using hle) ?_ hk
      subst h
      have e : (x :: u == x :: v) = (u == v) := by simp
      rw [e] at hQ; exact hQ
theorem wl19_ok {Ev : Env Try.prog} (c : Code) (tm : List AV) (hp : List Blk) (b : Ev.β) (K : Exit → List AV → List Blk → Ev.β → Prop) (h : wl19 c tm hp b K) : W Ev c ⟨tm, hp, b⟩ (fun e s => K e s.tm s.hp s.b) := by
  obtain ⟨p, q, rfl, htm, rfl, ⟨h0, h1⟩, hK⟩ := h
  refine W.cast (htm ▸ maskTm_le _ tm 0) (LeH.refl _) ?_
  exact W.rounds (wr19 (Q := fun e s => K e s.tm s.hp s.b) p q h0 p q 0 rfl rfl h1 hK (Nat.zero_le _))
section
variable {β : Type} (wl : WLT β) (y : YieldT β) (b : β) (R : AV → β → Prop)
theorem f19_nf (xs ys : List (List Dv)) : wpFn Try.prog ⟨[], [], wl19, y, false⟩ 100 Try.f19 [.d (.sl 1 xs), .d (.sl 1 ys)] b R = (
  BIf ((xs.length : Int) != (ys.length : Int)) (R (AV.d (bo false)) b)
  (∃ p q : List Int, Code.loop lp19 = Code.loop lp19 ∧ tm19 xs ys 0 = tm19 (bytesR p) (bytesR q) 0 ∧ ([] : List Blk) = [] ∧ (p.length ≤ (9223372036854775807 : Nat) ∧ p.length = q.length) ∧
    BIf (p == q) (R (AV.d (bo true)) b) (∀ (i : Int), R (AV.d (bo false)) b))) := by kernel_rfl
end
theorem pc19 (p q : List Int) (hl : p.length ≤ 9223372036854775807) : PCall Try.prog 19 [.d (.sl 1 (bytesR p)), .d (.sl 1 (bytesR q))] (.d (bo (p == q))) := by
  refine PCall.ofFnW (n := 100) (u := false) (fun _ => wl19) mixed CallsOk.nil SCallsOk.nil (fun Ev => wl19_ok) Try.func19 (by rfl) (by rfl) fun Ev bb => ?_
  rw [f19_nf]
  refine BIf.of (fun h => ?_) fun h => ⟨p, q, rfl, rfl, rfl, ⟨hl, ?_⟩, BIf.of (fun h => ?_) fun h _ => ?_⟩
  · have : (p == q) = false := by
      simp [bytesR] at h
      simp only [beq_eq_false_iff_ne]
      rintro rfl; exact h rfl
    rw [this]
  · simp [bytesR] at h; omega
  · rw [h]
  · rw [h]
def c19 (args : List AV) (K : AV → Prop) : Prop := ∃ (p q : List Int) (r : Bool), args = [.d (.sl 1 (bytesR p)), .d (.sl 1 (bytesR q))] ∧ p.length ≤ 9223372036854775807 ∧ r = (p == q) ∧ K (.d (bo r))
theorem c19_ok : ∀ args K, c19 args K → ∃ x, PCall Try.prog 19 args x ∧ K x := by
  rintro _ K ⟨p, q, _, rfl, h0, rfl, h⟩; exact ⟨_, pc19 p q h0, h⟩

/-! ### Same -/
section
variable {β : Type} (wl : WLT β) (y : YieldT β) (b : β) (R : AV → β → Prop) (K : Exit → List AV → List Blk → β → Prop)
theorem f18_round' (xs ys : List (List Dv)) (i : Int) : wpc Try.prog ⟨[(19, c19)], [], wl, y, false⟩ 100 lp18 (tm18 xs ys i) [] b (maskK 0 [0, 1, 4, 5] K) = (
  BIf (decide (i < (xs.length : Int))) (BIf (true && decide ((0 : Int) ≤ i))
    (∃ x0 xs1, xs[Int.toNat i]? = some [i64 x0, Dv.sl (1 : Nat) xs1] ∧ BIf (true && decide ((0 : Int) ≤ i))
      (∃ x4 xs5, ys[Int.toNat i]? = some [i64 x4, Dv.sl (1 : Nat) xs5] ∧ BIf (x0 != x4) (K Exit.ret ((tm18 xs ys i).set 4 (.d (bo false))) [] b)
        (BIf (true && decide ((0 : Int) ≤ i)) (∃ x8 xs9, xs[Int.toNat i]? = some [i64 x8, Dv.sl (1 : Nat) xs9] ∧ BIf (true && decide ((0 : Int) ≤ i))
          (∃ x12 xs13, ys[Int.toNat i]? = some [i64 x12, Dv.sl (1 : Nat) xs13] ∧ ∃ (p q : List Int) (r : Bool), [AV.d (Dv.sl 1 xs9), AV.d (Dv.sl 1 xs13)] = [AV.d (Dv.sl 1 (bytesR p)), AV.d (Dv.sl 1 (bytesR q))] ∧ p.length ≤ 9223372036854775807 ∧ r = (p == q) ∧
            BIf (!r) (K Exit.ret ((tm18 xs ys i).set 4 (.d (bo false))) [] b) (K Exit.normal (tm18 xs ys (IntKind.wrap IntKind.i64 (i + (1 : Int)))) [] b)) False) False)) False) False)
  (K (Exit.exit (0 : Nat)) (tm18 xs ys i) [] b)) := by kernel_rfl
end
def wl18 {β : Type} : WLT β := fun c tm hp b K => ∃ (p q : List Row), c = .loop lp18 ∧ maskTm [0, 1, 5] 0 tm = tm18 (rowsR p) (rowsR q) 0 ∧ hp = [] ∧ (p.length ≤ 9223372036854775807 ∧ p.length = q.length ∧ ∀ r ∈ p, r.2.length ≤ 9223372036854775807) ∧
  BIf (p == q) (K (.exit 0) (tm18 (rowsR p) (rowsR q) p.length) [] b) (∀ i : Int, K .ret ((tm18 (rowsR p) (rowsR q) i).set 4 (.d (bo false))) [] b)
theorem wr18 {Ev : Env Try.prog} {b : Ev.β} {Q : Exit → St Ev.β → Prop} (p q : List Row) (hl : p.length ≤ 9223372036854775807) : ∀ (u v : List Row) (k : Nat), p.drop k = u → q.drop k = v → u.length = v.length → (∀ r ∈ u, r.2.length ≤ 9223372036854775807) →
    BIf (u == v) (Q (.exit 0) ⟨tm18 (rowsR p) (rowsR q) p.length, [], b⟩) (∀ i : Int, Q .ret ⟨(tm18 (rowsR p) (rowsR q) i).set 4 (.d (bo false)), [], b⟩) →
    k ≤ p.length → WR Ev lp18 (u.length + 1) ⟨tm18 (rowsR p) (rowsR q) k, [], b⟩ Q
  | [], [], k, hd, _, _, _, hQ, hk => by
    refine WR.ofMask [0, 1, 4, 5] mixed (CX.Ok.of (u := false) (CallsOk.cons c19_ok CallsOk.nil) SCallsOk.nil) (k := 100) ?_
    show wpc _ _ _ _ _ _ _ (maskK 0 _ _)
    rw [f18_round']
    have := drop_nil hd
    have e : k = p.length := by omega
    subst e
    exact BIf.f (by simp [rowsR]) hQ
  | (x, s) :: u, (y, t) :: v, k, hd, hd2, hle, hs, hQ, hk => by
    refine WR.ofMask [0, 1, 4, 5] mixed (CX.Ok.of (u := false) (CallsOk.cons c19_ok CallsOk.nil) SCallsOk.nil) (k := 100) ?_
    show wpc _ _ _ _ _ _ _ (maskK 0 _ _)
    rw [f18_round']
    obtain ⟨hk, hr, hd'⟩ := drop_cons hd
    obtain ⟨_, hr2, hd2'⟩ := drop_cons hd2
    have g1 : (rowsR p)[Int.toNat k]? = some [i64 x, .sl 1 (bytesR s)] := by simp [rowsR, hr, rowD]
    have g2 : (rowsR q)[Int.toNat k]? = some [i64 y, .sl 1 (bytesR t)] := by simp [rowsR, hr2, rowD]
    refine BIf.t (by simpa [rowsR] using hk) (BIf.t (by simp) ⟨_, _, g1, BIf.t (by simp) ⟨_, _, g2, BIf.of (fun h => ?_) fun h => BIf.t (by simp) ⟨_, _, g1, BIf.t (by simp) ⟨_, _, g2, s, t, _, rfl, hs _ (List.mem_cons_self ..), rfl, BIf.of (fun h2 => ?_) fun h2 => ?_⟩⟩⟩⟩)
    · have h : x ≠ y := by simpa [bne] using h
      exact bif_f hQ (by simp [h]) k
    · have h2 : s ≠ t := by simpa [bne] using h2
      exact bif_f hQ (by simp [h2]) k
    · have h : x = y := by simpa [bne] using h
      have h2 : s = t := by simpa [bne] using h2
      rw [wrap_succ hk hl]
      refine wr18 p q hl u v (k + 1) hd' hd2' (by simpa using hle) (fun r hr => hs r (List.mem_cons_of_mem _ hr)) ?_ hk
      subst h; subst h2
      have e : ((x, s) :: u == (x, s) :: v) = (u == v) := by simp
      rw [e] at hQ; exact hQ
theorem wl18_ok {Ev : Env Try.prog} (c : Code) (tm : List AV) (hp : List Blk) (b : Ev.β) (K : Exit → List AV → List Blk → Ev.β → Prop) (h : wl18 c tm hp b K) : W Ev c ⟨tm, hp, b⟩ (fun e s => K e s.tm s.hp s.b) := by
  obtain ⟨p, q, rfl, htm, rfl, ⟨h0, h1, h2⟩, hK⟩ := h
  refine W.cast (htm ▸ maskTm_le _ tm 0) (LeH.refl _) ?_
  exact W.rounds (wr18 (Q := fun e s => K e s.tm s.hp s.b) p q h0 p q 0 rfl rfl h1 h2 hK (Nat.zero_le _))
section
variable {β : Type} (wl : WLT β) (y : YieldT β) (b : β) (R : AV → β → Prop)
theorem f18_nf (xs ys : List (List Dv)) : wpFn Try.prog ⟨[(19, c19)], [], wl18, y, false⟩ 100 Try.f18 [.d (.sl 2 xs), .d (.sl 2 ys)] b R = (
  BIf ((xs.length : Int) != (ys.length : Int)) (R (AV.d (bo false)) b)
  (∃ p q : List Row, Code.loop lp18 = Code.loop lp18 ∧ tm18 xs ys 0 = tm18 (rowsR p) (rowsR q) 0 ∧ ([] : List Blk) = [] ∧ (p.length ≤ (9223372036854775807 : Nat) ∧ p.length = q.length ∧ ∀ r ∈ p, r.2.length ≤ 9223372036854775807) ∧
    BIf (p == q) (R (AV.d (bo true)) b) (∀ (i : Int), R (AV.d (bo false)) b))) := by kernel_rfl
end
theorem pc18 (p q : List Row) (hl : p.length ≤ 9223372036854775807) (hs : ∀ r ∈ p, r.2.length ≤ 9223372036854775807) : PCall Try.prog 18 [.d (.sl 2 (rowsR p)), .d (.sl 2 (rowsR q))] (.d (bo (p == q))) := by
  refine PCall.ofFnW (n := 100) (u := false) (fun _ => wl18) mixed (CallsOk.cons c19_ok CallsOk.nil) SCallsOk.nil (fun Ev => wl18_ok) Try.func18 (by rfl) (by rfl) fun Ev bb => ?_
  rw [f18_nf]
  refine BIf.of (fun h => ?_) fun h => ⟨p, q, rfl, rfl, rfl, ⟨hl, ?_, hs⟩, BIf.of (fun h => ?_) fun h _ => ?_⟩
  · have : (p == q) = false := by
      simp [rowsR] at h
      simp only [beq_eq_false_iff_ne]
      rintro rfl; exact h rfl
    rw [this]
  · simp [rowsR] at h; omega
  · rw [h]
  · rw [h]
def c18 (args : List AV) (K : AV → Prop) : Prop := ∃ (p q : List Row) (r : Bool), args = [.d (.sl 2 (rowsR p)), .d (.sl 2 (rowsR q))] ∧ (p.length ≤ 9223372036854775807 ∧ ∀ r ∈ p, r.2.length ≤ 9223372036854775807) ∧ r = (p == q) ∧ K (.d (bo r))
theorem c18_ok : ∀ args K, c18 args K → ∃ x, PCall Try.prog 18 args x ∧ K x := by
  rintro _ K ⟨p, q, _, rfl, ⟨h0, h1⟩, rfl, h⟩; exact ⟨_, pc18 p q h0 h1, h⟩

/-! ### Formed -/
def formedS (m : Int) (p : List Int) : Bool := decide (m ≥ 1) && (decide (m < 65536) && decide (p.length = 16))
theorem f24_nf' {β : Type} (wl : WLT β) (y : YieldT β) (b : β) (R : AV → β → Prop) (m : Int) (xs : List (List Dv)) : wpFn Try.prog ⟨[], [], wl, y, true⟩ 100 Try.f24 [.agg [.d (i64 m), .d (.sl 1 xs)]] b R = (
  BIf (decide (m ≥ (1 : Int))) (BIf (decide (m < (65536 : Int))) (R (AV.d (bo ((xs.length : Int) == (16 : Int)))) b) (R (AV.d (bo false)) b))
  (R (AV.d (bo false)) b)) := by kernel_rfl
theorem pc24 (m : Int) (p : List Int) : PCall Try.prog 24 [rowA m p] (.d (bo (formedS m p))) := by
  refine PCall.ofFn (n := 100) (u := true) mixed CallsOk.nil SCallsOk.nil Try.func24 (by rfl) (by rfl) fun Ev b => ?_
  show wpFn _ _ _ _ [.agg [.d (i64 m), .d (.sl 1 (bytesR p))]] _ _
  rw [f24_nf']
  refine BIf.of (fun h1 => BIf.of (fun h2 => ?_) fun h2 => ?_) fun h1 => ?_
  · simp only [formedS, h1, h2, Bool.true_and]
    congr 3
    simp only [bytesR, List.length_map]
    rw [Bool.eq_iff_iff]; simp; omega
  · simp only [formedS, h1, h2, Bool.true_and, Bool.false_and]
  · simp only [formedS, h1, Bool.false_and]
def c24 (args : List AV) (K : AV → Prop) : Prop := ∃ (m : Int) (p : List Int), args = [rowA m p] ∧ K (.d (bo (formedS m p)))
theorem c24_ok : ∀ args K, c24 args K → ∃ x, PCall Try.prog 24 args x ∧ K x := by
  rintro _ K ⟨m, p, rfl, h⟩; exact ⟨_, pc24 m p, h⟩

/-! ### block -/
def blockS (x : Int) : List Int := List.replicate 16 x
theorem f27_nf' {β : Type} (wl : WLT β) (y : YieldT β) (b : β) (R : AV → β → Prop) (x : Int) : wpFn Try.prog ⟨[], [], wl, y, true⟩ 100 Try.f27 [.d (u8 x)] b R = R (.d (.sl 1 (bytesR (blockS x)))) b := by kernel_rfl
theorem pc27 (x : Int) : PCall Try.prog 27 [.d (u8 x)] (.d (.sl 1 (bytesR (blockS x)))) := by
  refine PCall.ofFn (n := 100) (u := true) mixed CallsOk.nil SCallsOk.nil Try.func27 (by rfl) (by rfl) fun Ev b => ?_
  rw [f27_nf']
def c27 (args : List AV) (K : AV → Prop) : Prop := ∃ (x : Int) (p : List Int), args = [.d (u8 x)] ∧ p = blockS x ∧ K (.d (.sl 1 (bytesR p)))
theorem c27_ok : ∀ args K, c27 args K → ∃ x, PCall Try.prog 27 args x ∧ K x := by
  rintro _ K ⟨x, _, rfl, rfl, h⟩; exact ⟨_, pc27 x, h⟩
theorem f26_nf' {β : Type} (wl : WLT β) (y : YieldT β) (b : β) (R : AV → β → Prop) (m x : Int) : wpFn Try.prog ⟨[(27, c27)], [], wl, y, true⟩ 100 Try.f26 [.d (i64 m), .d (u8 x)] b R = ∃ (x' : Int) (p : List Int), [AV.d (u8 x)] = [.d (u8 x')] ∧ p = blockS x' ∧ R (rowA m p) b := by kernel_rfl
theorem pc26 (m x : Int) : PCall Try.prog 26 [.d (i64 m), .d (u8 x)] (rowA m (blockS x)) := by
  refine PCall.ofFn (n := 100) (u := true) mixed (CallsOk.cons c27_ok CallsOk.nil) SCallsOk.nil Try.func26 (by rfl) (by rfl) fun Ev b => ?_
  rw [f26_nf']
  exact ⟨x, _, rfl, rfl, rfl⟩
def c26 (args : List AV) (K : AV → Prop) : Prop := ∃ (m x : Int) (p : List Int), args = [.d (i64 m), .d (u8 x)] ∧ p = blockS x ∧ K (rowA m p)
theorem c26_ok : ∀ args K, c26 args K → ∃ x, PCall Try.prog 26 args x ∧ K x := by
  rintro _ K ⟨m, x, _, rfl, rfl, h⟩; exact ⟨_, pc26 m x, h⟩
end Go.Proofs.Ytgdeoaiakdkhcaa.Am

namespace Go.Proofs.Ytgdeoaiakdkhcaa.Am
set_option linter.unusedVariables false
open Go Go.RowKit Go.Proofs

theorem f25_nf' {β : Type} (wl : WLT β) (y : YieldT β) (b : β) (R : AV → β → Prop) (xs ys : List (List Dv)) : wpFn Try.prog ⟨[], [], wl, y, true⟩ 100 Try.f25 [.d (.sl 1 xs), .d (.sl 1 ys)] b R = (
  ∃ a0, xs[(0 : Nat)]? = some [u8 a0] ∧ ∃ b0, ys[(0 : Nat)]? = some [u8 b0] ∧ ∃ a1, xs[(1 : Nat)]? = some [u8 a1] ∧ ∃ b1, ys[(1 : Nat)]? = some [u8 b1] ∧
  ∃ a2, xs[(2 : Nat)]? = some [u8 a2] ∧ ∃ b2, ys[(2 : Nat)]? = some [u8 b2] ∧ ∃ a3, xs[(3 : Nat)]? = some [u8 a3] ∧ ∃ b3, ys[(3 : Nat)]? = some [u8 b3] ∧
  ∃ a4, xs[(4 : Nat)]? = some [u8 a4] ∧ ∃ b4, ys[(4 : Nat)]? = some [u8 b4] ∧ ∃ a5, xs[(5 : Nat)]? = some [u8 a5] ∧ ∃ b5, ys[(5 : Nat)]? = some [u8 b5] ∧
  ∃ a6, xs[(6 : Nat)]? = some [u8 a6] ∧ ∃ b6, ys[(6 : Nat)]? = some [u8 b6] ∧ ∃ a7, xs[(7 : Nat)]? = some [u8 a7] ∧ ∃ b7, ys[(7 : Nat)]? = some [u8 b7] ∧
  ∃ a8, xs[(8 : Nat)]? = some [u8 a8] ∧ ∃ b8, ys[(8 : Nat)]? = some [u8 b8] ∧ ∃ a9, xs[(9 : Nat)]? = some [u8 a9] ∧ ∃ b9, ys[(9 : Nat)]? = some [u8 b9] ∧
  ∃ a10, xs[(10 : Nat)]? = some [u8 a10] ∧ ∃ b10, ys[(10 : Nat)]? = some [u8 b10] ∧ ∃ a11, xs[(11 : Nat)]? = some [u8 a11] ∧ ∃ b11, ys[(11 : Nat)]? = some [u8 b11] ∧
  ∃ a12, xs[(12 : Nat)]? = some [u8 a12] ∧ ∃ b12, ys[(12 : Nat)]? = some [u8 b12] ∧ ∃ a13, xs[(13 : Nat)]? = some [u8 a13] ∧ ∃ b13, ys[(13 : Nat)]? = some [u8 b13] ∧
  ∃ a14, xs[(14 : Nat)]? = some [u8 a14] ∧ ∃ b14, ys[(14 : Nat)]? = some [u8 b14] ∧ ∃ a15, xs[(15 : Nat)]? = some [u8 a15] ∧ ∃ b15, ys[(15 : Nat)]? = some [u8 b15] ∧
  R (.d (.sl 1 (bytesR [xor8 a0 b0, xor8 a1 b1, xor8 a2 b2, xor8 a3 b3, xor8 a4 b4, xor8 a5 b5, xor8 a6 b6, xor8 a7 b7, xor8 a8 b8, xor8 a9 b9, xor8 a10 b10, xor8 a11 b11, xor8 a12 b12, xor8 a13 b13, xor8 a14 b14, xor8 a15 b15]))) b) := by kernel_rfl

theorem bytesR_at {p : List Int} {i : Nat} (h : i < p.length) : (bytesR p)[i]? = some [u8 (nth p i)] := by
  simp [bytesR, nth, List.getElem?_eq_getElem h]

theorem pc25 (p q : List Int) (hp : 16 ≤ p.length) (hq : 16 ≤ q.length) : PCall Try.prog 25 [.d (.sl 1 (bytesR p)), .d (.sl 1 (bytesR q))] (.d (.sl 1 (bytesR (xorL p q)))) := by
  refine PCall.ofFn (n := 100) (u := true) mixed CallsOk.nil SCallsOk.nil Try.func25 (by rfl) (by rfl) fun Ev b => ?_
  rw [f25_nf']
  refine ⟨_, bytesR_at (by omega), _, bytesR_at (by omega), _, bytesR_at (by omega), _, bytesR_at (by omega), _, bytesR_at (by omega), _, bytesR_at (by omega), _, bytesR_at (by omega), _, bytesR_at (by omega),
    _, bytesR_at (by omega), _, bytesR_at (by omega), _, bytesR_at (by omega), _, bytesR_at (by omega), _, bytesR_at (by omega), _, bytesR_at (by omega), _, bytesR_at (by omega), _, bytesR_at (by omega),
    _, bytesR_at (by omega), _, bytesR_at (by omega), _, bytesR_at (by omega), _, bytesR_at (by omega), _, bytesR_at (by omega), _, bytesR_at (by omega), _, bytesR_at (by omega), _, bytesR_at (by omega),
    _, bytesR_at (by omega), _, bytesR_at (by omega), _, bytesR_at (by omega), _, bytesR_at (by omega), _, bytesR_at (by omega), _, bytesR_at (by omega), _, bytesR_at (by omega), _, bytesR_at (by omega), ?_⟩
  rfl
def c25 (args : List AV) (K : AV → Prop) : Prop := ∃ (p q r : List Int), args = [.d (.sl 1 (bytesR p)), .d (.sl 1 (bytesR q))] ∧ (16 ≤ p.length ∧ 16 ≤ q.length) ∧ r = xorL p q ∧ K (.d (.sl 1 (bytesR r)))
theorem c25_ok : ∀ args K, c25 args K → ∃ x, PCall Try.prog 25 args x ∧ K x := by
  rintro _ K ⟨p, q, _, rfl, ⟨h1, h2⟩, rfl, h⟩; exact ⟨_, pc25 p q h1 h2, h⟩

/-! ### R.Valid -/
noncomputable def lp21a : Code := sub [1, 0, 1, 2, 3] (code Try.f21)
noncomputable def lp21b : Code := sub [1, 1, 0, 1, 2, 3] (code Try.f21)
noncomputable def lp21c : Code := sub [1, 1, 0, 1, 2, 3, 1, 0, 2, 1, 2, 3] (code Try.f21)
def tm21a (xs : List (List Dv)) (i : Int) : List AV := [.d (.sl 2 xs), .bad, .bad, .d (i64 i)] ++ List.replicate 64 .bad
def tm21b (xs : List (List Dv)) (i : Int) : List AV := [.d (.sl 2 xs), .bad, .bad, .bad, .d (i64 i)] ++ List.replicate 63 .bad
def tm21c (xs : List (List Dv)) (i k : Int) : List AV := [.d (.sl 2 xs), .bad, .bad, .bad, .d (i64 i), .d (i64 k)] ++ List.replicate 62 .bad

def vInner (i : Nat) (x : Row) : Nat → List Row → Bool
  | _, [] => true
  | k, r :: l => (decide (i = k) || and64 r.1 (lead x.1) == 0) && vInner i x (k + 1) l
def vOuter (l : List Row) : Nat → List Row → Bool
  | _, [] => true
  | i, x :: r => vInner i x 0 l && vOuter l (i + 1) r
def prevOk (p : Option Row) (m : Int) : Bool := match p with
  | none => true
  | some q => decide (lead m < lead q.1)
def vPrev : Option Row → List Row → Bool
  | _, [] => true
  | p, r :: l => formedS r.1 r.2 && prevOk p r.1 && vPrev (some r) l
def validR (l : List Row) : Bool := vPrev none l && vOuter l 0 l


def T21 : List (Nat × (List AV → (AV → Prop) → Prop)) := [(24, c24), (37, c37)]
theorem T21_ok : CallsOk Try.prog T21 := CallsOk.cons c24_ok (CallsOk.cons c37_ok CallsOk.nil)
section
variable {β : Type} (wl : WLT β) (y : YieldT β) (b : β) (R : AV → β → Prop) (K : Exit → List AV → List Blk → β → Prop)
theorem f21a_round (xs : List (List Dv)) (i : Int) : wpc Try.prog ⟨T21, [], wl, y, false⟩ 100 lp21a (tm21a xs i) [] b (maskK 0 [0, 2, 3] K) = (
  BIf (decide (i < (xs.length : Int))) (BIf (true && decide (0 ≤ i)) (∃ x0 xs1, xs[Int.toNat i]? = some [i64 x0, Dv.sl 1 xs1] ∧ ∃ m4 p5, [AV.agg [AV.d (i64 x0), AV.d (Dv.sl 1 xs1)]] = [rowA m4 p5] ∧
    BIf (!formedS m4 p5) (K Exit.ret ((tm21a xs i).set 2 (.d (bo false))) [] b) (BIf (decide (i > 0))
      (BIf (true && decide (0 ≤ IntKind.wrap IntKind.i64 (i - 1))) (∃ x6 xs7, xs[Int.toNat (IntKind.wrap IntKind.i64 (i - 1))]? = some [i64 x6, Dv.sl 1 xs7] ∧ ∃ m10, [AV.d (i64 x6)] = [AV.d (i64 m10)] ∧ (1 ≤ m10 ∧ m10 < 4611686018427387904) ∧
        BIf (true && decide (0 ≤ i)) (∃ x11 xs12, xs[Int.toNat i]? = some [i64 x11, Dv.sl 1 xs12] ∧ ∃ m15, [AV.d (i64 x11)] = [AV.d (i64 m15)] ∧ (1 ≤ m15 ∧ m15 < 4611686018427387904) ∧
          BIf (decide (lead m10 ≤ lead m15)) (K Exit.ret ((tm21a xs i).set 2 (.d (bo false))) [] b) (K Exit.normal (tm21a xs (IntKind.wrap IntKind.i64 (i + 1))) [] b)) False) False)
      (K Exit.normal (tm21a xs (IntKind.wrap IntKind.i64 (i + 1))) [] b))) False) (K (Exit.exit 0) (tm21a xs i) [] b)) := by kernel_rfl
theorem f21c_round (xs : List (List Dv)) (i k : Int) : wpc Try.prog ⟨T21, [], wl, y, false⟩ 100 lp21c (tm21c xs i k) [] b (maskK 0 [0, 2, 4, 5] K) = (
  BIf (decide (k < (xs.length : Int))) (BIf (i != k) (BIf (true && decide (0 ≤ k)) (∃ x0 xs1, xs[Int.toNat k]? = some [i64 x0, Dv.sl 1 xs1] ∧ BIf (true && decide (0 ≤ i)) (∃ x4 xs5, xs[Int.toNat i]? = some [i64 x4, Dv.sl 1 xs5] ∧
    ∃ m8, [AV.d (i64 x4)] = [AV.d (i64 m8)] ∧ (1 ≤ m8 ∧ m8 < 4611686018427387904) ∧ BIf (and64 x0 (lead m8) != 0) (K Exit.ret ((tm21c xs i k).set 2 (.d (bo false))) [] b) (K Exit.normal (tm21c xs i (IntKind.wrap IntKind.i64 (k + 1))) [] b)) False) False)
    (K Exit.normal (tm21c xs i (IntKind.wrap IntKind.i64 (k + 1))) [] b)) (K (Exit.exit 4) (tm21c xs i k) [] b)) := by kernel_rfl
end

/-- the first loop -/
theorem wr21a {Ev : Env Try.prog} {b : Ev.β} {Q : Exit → St Ev.β → Prop} (l : List Row) (hl : l.length ≤ 9223372036854775807) : ∀ (rest : List Row) (k : Nat) (p : Option Row), l.drop k = rest → (k = 0 ∧ p = none ∨ ∃ j q, k = j + 1 ∧ p = some q ∧ l[j]? = some q ∧ okMask q) →
    BIf (vPrev p rest) (Q (.exit 0) ⟨tm21a (rowsR l) l.length, [], b⟩) (∀ i : Int, Q .ret ⟨(tm21a (rowsR l) i).set 2 (.d (bo false)), [], b⟩) →
    k ≤ l.length → WR Ev lp21a (rest.length + 1) ⟨tm21a (rowsR l) k, [], b⟩ Q
  | [], k, p, hd, _, hQ, hk => by
    refine WR.ofMask [0, 2, 3] mixed (CX.Ok.of (u := false) T21_ok SCallsOk.nil) (k := 100) ?_
    show wpc _ _ _ _ _ _ _ (maskK 0 _ _)
    rw [f21a_round]
    have := drop_nil hd
    have e : k = l.length := by omega
    subst e
    exact BIf.f (by simp [rowsR]) hQ
  | (m, s) :: rest, k, p, hd, hp, hQ, hk => by
    refine WR.ofMask [0, 2, 3] mixed (CX.Ok.of (u := false) T21_ok SCallsOk.nil) (k := 100) ?_
    show wpc _ _ _ _ _ _ _ (maskK 0 _ _)
    rw [f21a_round]
    obtain ⟨hk, hr, hd'⟩ := drop_cons hd
    have g1 : (rowsR l)[Int.toNat k]? = some [i64 m, .sl 1 (bytesR s)] := by simp [rowsR, hr, rowD]
    refine BIf.t (by simpa [rowsR] using hk) (BIf.t (by simp) ⟨_, _, g1, m, s, rfl, BIf.of (fun hf => ?_) fun hf => ?_⟩)
    · have hf : formedS m s = false := by simpa using hf
      exact bif_f hQ (by simp [vPrev, hf]) k
    · have hf : formedS m s = true := by simpa using hf
      have hok : okMask (m, s) := by
        simp only [formedS, Bool.and_eq_true, decide_eq_true_eq] at hf
        exact ⟨hf.1, hf.2.1⟩
      have hgo : prevOk p m = true → WR Ev lp21a (rest.length + 1) ⟨tm21a (rowsR l) (IntKind.wrap .i64 ((k : Int) + 1)), [], b⟩ Q := by
        intro h1
        rw [wrap_succ hk hl]
        refine wr21a l hl rest (k + 1) (some (m, s)) hd' (.inr ⟨k, _, rfl, rfl, hr, hok⟩) ?_ hk
        have e : vPrev p ((m, s) :: rest) = vPrev (some (m, s)) rest := by simp only [vPrev, hf, h1, Bool.true_and]
        rw [e] at hQ; exact hQ
      rcases hp with ⟨rfl, rfl⟩ | ⟨j, q, rfl, rfl, hj, hq⟩
      · exact BIf.f (by simp) (hgo rfl)
      · have e : IntKind.wrap .i64 (((j + 1 : Nat) : Int) - 1) = (j : Int) := by rw [wrap_i64 (by omega) (by omega)]; omega
        rw [e]
        have g2 : (rowsR l)[Int.toNat j]? = some [i64 q.1, .sl 1 (bytesR q.2)] := by simp [rowsR, hj, rowD]
        refine BIf.t (by simp) (BIf.t (by simp) ⟨_, _, g2, q.1, rfl, ⟨hq.1, by have := hq.2; omega⟩, BIf.t (by simp; omega) ⟨_, _, g1, m, rfl, ⟨hok.1, by have := hok.2; simp only at this; omega⟩, BIf.of (fun hc => ?_) fun hc => ?_⟩⟩)
        · have hc : lead q.1 ≤ lead m := by simpa using hc
          refine bif_f hQ ?_ _
          simp only [vPrev, prevOk]
          rw [decide_eq_false (by omega)]; simp
        · have hc : lead m < lead q.1 := by simpa using hc
          exact hgo (by simpa [prevOk] using hc)

/-- the inner loop of the second one -/
theorem wr21c {Ev : Env Try.prog} {b : Ev.β} {Q : Exit → St Ev.β → Prop} (l : List Row) (hl : l.length ≤ 9223372036854775807) (i : Nat) (x : Row) (hx : l[i]? = some x) (hok : okMask x) : ∀ (rest : List Row) (k : Nat), l.drop k = rest →
    BIf (vInner i x k rest) (Q (.exit 4) ⟨tm21c (rowsR l) i l.length, [], b⟩) (∀ k : Int, Q .ret ⟨(tm21c (rowsR l) i k).set 2 (.d (bo false)), [], b⟩) →
    k ≤ l.length → WR Ev lp21c (rest.length + 1) ⟨tm21c (rowsR l) i k, [], b⟩ Q
  | [], k, hd, hQ, hk => by
    refine WR.ofMask [0, 2, 4, 5] mixed (CX.Ok.of (u := false) T21_ok SCallsOk.nil) (k := 100) ?_
    show wpc _ _ _ _ _ _ _ (maskK 0 _ _)
    rw [f21c_round]
    have := drop_nil hd
    have e : k = l.length := by omega
    subst e
    exact BIf.f (by simp [rowsR]) hQ
  | r :: rest, k, hd, hQ, hk => by
    refine WR.ofMask [0, 2, 4, 5] mixed (CX.Ok.of (u := false) T21_ok SCallsOk.nil) (k := 100) ?_
    show wpc _ _ _ _ _ _ _ (maskK 0 _ _)
    rw [f21c_round]
    obtain ⟨hk, hr, hd'⟩ := drop_cons hd
    have g1 : (rowsR l)[Int.toNat k]? = some [i64 r.1, .sl 1 (bytesR r.2)] := by simp [rowsR, hr, rowD]
    have g2 : (rowsR l)[Int.toNat i]? = some [i64 x.1, .sl 1 (bytesR x.2)] := by simp [rowsR, hx, rowD]
    have hgo : (decide (i = k) || and64 r.1 (lead x.1) == 0) = true → WR Ev lp21c (rest.length + 1) ⟨tm21c (rowsR l) i (IntKind.wrap .i64 ((k : Int) + 1)), [], b⟩ Q := by
      intro h
      rw [wrap_succ hk hl]
      refine wr21c l hl i x hx hok rest (k + 1) hd' ?_ hk
      have e : vInner i x k (r :: rest) = vInner i x (k + 1) rest := by simp only [vInner, h, Bool.true_and]
      rw [e] at hQ; exact hQ
    refine BIf.t (by simpa [rowsR] using hk) (BIf.of (fun hne => ?_) fun hne => ?_)
    · have hne : ¬ i = k := by simp [bne] at hne; omega
      refine BIf.t (by simp) ⟨_, _, g1, BIf.t (by simp) ⟨_, _, g2, x.1, rfl, ⟨hok.1, by have := hok.2; omega⟩, BIf.of (fun hc => ?_) fun hc => ?_⟩⟩
      · refine bif_f hQ ?_ _
        have : (and64 r.1 (lead x.1) == 0) = false := by simpa [bne] using hc
        simp only [vInner, this, hne, decide_false, Bool.or_false, Bool.false_and]
      · have : (and64 r.1 (lead x.1) == 0) = true := by simpa [bne] using hc
        exact hgo (by rw [this]; simp)
    · have hne : i = k := by simp [bne] at hne; omega
      exact hgo (by simp [hne])

def wl21c {β : Type} : WLT β := fun c tm hp b K => ∃ (l : List Row) (i : Nat) (x : Row), c = .loop lp21c ∧ maskTm [0, 4, 5] 0 tm = tm21c (rowsR l) i 0 ∧ hp = [] ∧ (l.length ≤ 9223372036854775807 ∧ l[i]? = some x ∧ okMask x) ∧
  BIf (vInner i x 0 l) (K (.exit 4) (tm21c (rowsR l) i l.length) [] b) (∀ k : Int, K .ret ((tm21c (rowsR l) i k).set 2 (.d (bo false))) [] b)
theorem wl21c_ok {Ev : Env Try.prog} (c : Code) (tm : List AV) (hp : List Blk) (b : Ev.β) (K : Exit → List AV → List Blk → Ev.β → Prop) (h : wl21c c tm hp b K) : W Ev c ⟨tm, hp, b⟩ (fun e s => K e s.tm s.hp s.b) := by
  obtain ⟨l, i, x, rfl, htm, rfl, ⟨h0, h1, h2⟩, hK⟩ := h
  refine W.cast (htm ▸ maskTm_le _ tm 0) (LeH.refl _) ?_
  exact W.rounds (wr21c (Q := fun e s => K e s.tm s.hp s.b) l h0 i x h1 h2 l 0 rfl hK (Nat.zero_le _))

section
variable {β : Type} (wl : WLT β) (y : YieldT β) (b : β) (R : AV → β → Prop) (K : Exit → List AV → List Blk → β → Prop)
theorem f21b_round (xs : List (List Dv)) (i : Int) : wpc Try.prog ⟨T21, [], wl21c, y, false⟩ 100 lp21b (tm21b xs i) [] b (maskK 0 [0, 2, 4] K) = (
  BIf (decide (i < (xs.length : Int))) (∃ (l : List Row) (i' : Nat) (x : Row), Code.loop lp21c = Code.loop lp21c ∧ tm21c xs i 0 = tm21c (rowsR l) i' 0 ∧ ([] : List Blk) = [] ∧ (l.length ≤ 9223372036854775807 ∧ l[i']? = some x ∧ okMask x) ∧
    BIf (vInner i' x 0 l) (K .normal (tm21b (rowsR l) (IntKind.wrap .i64 (i' + 1))) [] b) (∀ k : Int, K .ret ((tm21b (rowsR l) i').set 2 (.d (bo false))) [] b)) (K (Exit.exit 2) (tm21b xs i) [] b)) := by kernel_rfl
end

theorem wr21b {Ev : Env Try.prog} {b : Ev.β} {Q : Exit → St Ev.β → Prop} (l : List Row) (hl : l.length ≤ 9223372036854775807) (hok : ∀ r ∈ l, okMask r) : ∀ (rest : List Row) (k : Nat), l.drop k = rest →
    BIf (vOuter l k rest) (Q (.exit 2) ⟨tm21b (rowsR l) l.length, [], b⟩) (∀ i : Int, Q .ret ⟨(tm21b (rowsR l) i).set 2 (.d (bo false)), [], b⟩) →
    k ≤ l.length → WR Ev lp21b (rest.length + 1) ⟨tm21b (rowsR l) k, [], b⟩ Q
  | [], k, hd, hQ, hk => by
    refine WR.ofMask [0, 2, 4] mixed (CX.Ok.ofWl (u := false) T21_ok SCallsOk.nil wl21c_ok) (k := 100) ?_
    show wpc _ _ _ _ _ _ _ (maskK 0 _ _)
    rw [f21b_round]
    have := drop_nil hd
    have e : k = l.length := by omega
    subst e
    exact BIf.f (by simp [rowsR]) hQ
  | x :: rest, k, hd, hQ, hk => by
    refine WR.ofMask [0, 2, 4] mixed (CX.Ok.ofWl (u := false) T21_ok SCallsOk.nil wl21c_ok) (k := 100) ?_
    show wpc _ _ _ _ _ _ _ (maskK 0 _ _)
    rw [f21b_round]
    obtain ⟨hk, hr, hd'⟩ := drop_cons hd
    refine BIf.t (by simpa [rowsR] using hk) ⟨l, k, x, rfl, rfl, rfl, ⟨hl, hr, hok x (List.mem_of_getElem? hr)⟩, BIf.of (fun hc => ?_) fun hc _ => ?_⟩
    · rw [wrap_succ hk hl]
      refine wr21b l hl hok rest (k + 1) hd' ?_ hk
      have e : vOuter l k (x :: rest) = vOuter l (k + 1) rest := by simp only [vOuter, hc, Bool.true_and]
      rw [e] at hQ; exact hQ
    · exact bif_f hQ (by simp only [vOuter, hc, Bool.false_and]) _

theorem vPrev_ok : ∀ {l : List Row} {p : Option Row}, vPrev p l = true → ∀ r ∈ l, okMask r
  | [], _, _, r, hr => by cases hr
  | r0 :: l, p, h, r, hr => by
    simp only [vPrev, Bool.and_eq_true] at h
    rcases List.mem_cons.1 hr with rfl | hr
    · have := h.1.1
      simp only [formedS, Bool.and_eq_true, decide_eq_true_eq] at this
      exact ⟨this.1, this.2.1⟩
    · exact vPrev_ok h.2 r hr

def wl21 {β : Type} : WLT β := fun c tm hp b K => match cidO c with
  | 3 => ∃ (l : List Row), c = .loop lp21a ∧ maskTm [0, 3] 0 tm = tm21a (rowsR l) 0 ∧ hp = [] ∧ l.length ≤ 9223372036854775807 ∧
    BIf (vPrev none l) (K (.exit 0) (tm21a (rowsR l) l.length) [] b) (∀ i : Int, K .ret ((tm21a (rowsR l) i).set 2 (.d (bo false))) [] b)
  | 8 => ∃ (l : List Row), c = .loop lp21b ∧ maskTm [0, 4] 0 tm = tm21b (rowsR l) 0 ∧ hp = [] ∧ (l.length ≤ 9223372036854775807 ∧ ∀ r ∈ l, okMask r) ∧
    BIf (vOuter l 0 l) (K (.exit 2) (tm21b (rowsR l) l.length) [] b) (∀ i : Int, K .ret ((tm21b (rowsR l) i).set 2 (.d (bo false))) [] b)
  | _ => False
theorem wl21_ok {Ev : Env Try.prog} (c : Code) (tm : List AV) (hp : List Blk) (b : Ev.β) (K : Exit → List AV → List Blk → Ev.β → Prop) (h : wl21 c tm hp b K) : W Ev c ⟨tm, hp, b⟩ (fun e s => K e s.tm s.hp s.b) := by
  unfold wl21 at h
  split at h
  · obtain ⟨l, rfl, htm, rfl, h0, hK⟩ := h
    refine W.cast (htm ▸ maskTm_le _ tm 0) (LeH.refl _) ?_
    exact W.rounds (wr21a (Q := fun e s => K e s.tm s.hp s.b) l h0 l 0 none rfl (.inl ⟨rfl, rfl⟩) hK (Nat.zero_le _))
  · obtain ⟨l, rfl, htm, rfl, ⟨h0, h1⟩, hK⟩ := h
    refine W.cast (htm ▸ maskTm_le _ tm 0) (LeH.refl _) ?_
    exact W.rounds (wr21b (Q := fun e s => K e s.tm s.hp s.b) l h0 h1 l 0 rfl hK (Nat.zero_le _))
  · exact h.elim
section
variable {β : Type} (wl : WLT β) (y : YieldT β) (b : β) (R : AV → β → Prop)
theorem f21_nf (xs : List (List Dv)) : wpFn Try.prog ⟨T21, [], wl21, y, false⟩ 100 Try.f21 [.d (.sl 2 xs)] b R = (
  ∃ l : List Row, Code.loop lp21a = Code.loop lp21a ∧ tm21a xs 0 = tm21a (rowsR l) 0 ∧ ([] : List Blk) = [] ∧ l.length ≤ 9223372036854775807 ∧
    BIf (vPrev none l) (∃ l' : List Row, Code.loop lp21b = Code.loop lp21b ∧ tm21b (rowsR l) 0 = tm21b (rowsR l') 0 ∧ ([] : List Blk) = [] ∧ (l'.length ≤ 9223372036854775807 ∧ ∀ r ∈ l', okMask r) ∧
      BIf (vOuter l' 0 l') (R (.d (bo true)) b) (∀ i : Int, R (.d (bo false)) b)) (∀ i : Int, R (.d (bo false)) b)) := by kernel_rfl
end
theorem pc21 (l : List Row) (hl : l.length ≤ 9223372036854775807) : PCall Try.prog 21 [.d (.sl 2 (rowsR l))] (.d (bo (validR l))) := by
  refine PCall.ofFnW (n := 100) (u := false) (fun _ => wl21) mixed T21_ok SCallsOk.nil (fun Ev => wl21_ok) Try.func21 (by rfl) (by rfl) fun Ev bb => ?_
  rw [f21_nf]
  refine ⟨l, rfl, rfl, rfl, hl, BIf.of (fun ha => ⟨l, rfl, rfl, rfl, ⟨hl, vPrev_ok ha⟩, BIf.of (fun hb => ?_) fun hb _ => ?_⟩) fun ha _ => ?_⟩
  · rw [show validR l = true by simp only [validR, ha, hb]; rfl]
  · rw [show validR l = false by simp only [validR, ha, hb]; rfl]
  · rw [show validR l = false by simp only [validR, ha]; rfl]
def c21 (args : List AV) (K : AV → Prop) : Prop := ∃ (l : List Row), args = [.d (.sl 2 (rowsR l))] ∧ l.length ≤ 9223372036854775807 ∧ K (.d (bo (validR l)))
theorem c21_ok : ∀ args K, c21 args K → ∃ x, PCall Try.prog 21 args x ∧ K x := by
  rintro _ K ⟨l, rfl, h1, h⟩; exact ⟨_, pc21 l h1, h⟩
end Go.Proofs.Ytgdeoaiakdkhcaa.Am

namespace Go.Proofs.Ytgdeoaiakdkhcaa.Am
set_option linter.unusedVariables false
open Go Go.RowKit Go.Proofs

/-- arguments of which more is known -/
inductive LeX : AV → AV → Prop where
  | le {x y : AV} (h : LeT x y) : LeX x y
  | full (k : Nat) (xs : List (List Dv)) : LeX (.full k xs) (.d (.sl k xs))
theorem LeX.rv {S : Pr} {w : World} {m : List MB} {yv : Option Nat} {x y : AV} {v : Value} (h : LeX x y) (hr : RV S w m yv x v) : RV S w m yv y v := by
  cases h with
  | le h => exact h.rv hr
  | full => cases hr with
    | full h => exact .d h
inductive LeTs : List AV → List AV → Prop where
  | nil : LeTs [] []
  | cons {x y : AV} {xs ys : List AV} (h : LeX x y) (hs : LeTs xs ys) : LeTs (x :: xs) (y :: ys)
theorem LeTs.len {xs ys : List AV} (h : LeTs xs ys) : xs.length = ys.length := by
  induction h with
  | nil => rfl
  | cons _ _ ih => simp [ih]
theorem LeTs.at {xs ys : List AV} (h : LeTs xs ys) : ∀ (i : Nat) (y : AV), ys[i]? = some y → ∃ x, xs[i]? = some x ∧ LeX x y := by
  induction h with
  | nil => intro i y h; simp at h
  | cons h _ ih =>
    intro i y hy
    cases i with
    | zero => simp at hy; subst hy; exact ⟨_, rfl, h⟩
    | succ i => simpa using ih i y (by simpa using hy)
theorem PCall.leArgs {P : Program} {f : Nat} {args args' : List AV} {x : AV} (h : LeTs args args') (hp : PCall P f args' x) : PCall P f args x := by
  refine ⟨hp.1, fun S w vs hl hvs hlt => hp.2 S w vs (h.len ▸ hl) (fun i y v h1 h2 => ?_) hlt⟩
  obtain ⟨x, h3, h4⟩ := h.at i y h1
  exact h4.rv (hvs i x v h3 h2)
theorem LeTs.refl : ∀ xs : List AV, LeTs xs xs
  | [] => .nil
  | _ :: xs => .cons (.le .rfl) (LeTs.refl xs)

/-! ### head -/
def RW (m x : Int) : Row := (m, blockS x)
def H1 : List Row := [RW 3 3]
def H2 : List Row := [RW 5 5, RW 3 3]
def HM : List Row := [RW 4 4, RW 2 2, RW 1 1]
def nilA : AV := .d (.s (.slice none 0 0))
def h12 (args : List AV) (K : AV → Prop) : Prop := match args with
  | [.d (.s _), .agg _] => args = [nilA, rowA 3 (blockS 3)] ∧ K (addR (H1, true, 0))
  | [.d (.sl _ xs), .agg (.d (.s (.int _ m)) :: .d bs :: _)] => match xs.length, m.toNat, bs with
    | 1, _, _ => args = [.d (.sl 2 (rowsR H1)), rowA 6 (blockS 6)] ∧ K (addR (H2, true, 0))
    | 2, _, _ => args = [.d (.sl 2 (rowsR H2)), rowA 2 (blockS 2)] ∧ K (addR (HM, true, 0))
    | _, 5, .sl _ ([.s (.int _ x)] :: _) => match x.toNat with
      | 5 => args = [.d (.sl 2 (rowsR HM)), rowA 5 (blockS 5)] ∧ K (addR (HM, false, 0))
      | _ => args = [.d (.sl 2 (rowsR HM)), rowA 5 (blockS 4)] ∧ K (addR ([], false, 12))
    | _, 1, _ => args = [.d (.sl 2 (rowsR HM)), .agg [.d (i64 1), nilA]] ∧ K (addR ([], false, 1))
    | _, _, _ => False
  | _ => False
def h14 (args : List AV) (K : AV → Prop) : Prop := match args with
  | [.d (.sl _ xs), _] => match xs.length with
    | 2 => args = [.d (.sl 2 (rowsR H2)), .d (i64 0)] ∧ K (bytesB ([], false))
    | _ => args = [.d (.sl 2 (rowsR HM)), .d (i64 0)] ∧ K (bytesB (blockS 1, true))
  | _ => False
def h16 (args : List AV) (K : AV → Prop) : Prop := args = [.d (.sl 2 (rowsR H2)), .d (i64 5)] ∧ K (bytesB (blockS 5, true))
def h26 (args : List AV) (K : AV → Prop) : Prop := match args with
  | [.d (.s (.int _ m)), .d (.s (.int _ x))] => args = [.d (i64 m), .d (u8 x)] ∧ K (rowA m (blockS x))
  | _ => False
def h27 (args : List AV) (K : AV → Prop) : Prop := match args with
  | [.d (.s (.int _ x))] => args = [.d (u8 x)] ∧ K (.d (.sl 1 (bytesR (blockS x))))
  | _ => False
def h19 (args : List AV) (K : AV → Prop) : Prop := match args with
  | [_, .d (.sl _ ([.s (.int _ x)] :: _))] => args = [.d (.sl 1 (bytesR (blockS x))), .d (.sl 1 (bytesR (blockS x)))] ∧ K (.d (bo true))
  | _ => False
def h18 (args : List AV) (K : AV → Prop) : Prop := match args with
  | [.d (.sl _ xs), _] => match xs.length with
    | 2 => args = [.d (.sl 2 (rowsR H2)), .full 2 (rowsR H2)] ∧ K (.d (bo true))
    | _ => args = [.d (.sl 2 (rowsR HM)), .full 2 (rowsR HM)] ∧ K (.d (bo true))
  | _ => False
def HX : List Row := [RW 6 6, RW 3 3, RW 2 2]
def h20 (args : List AV) (K : AV → Prop) : Prop := match args with
  | [.d (.sl _ _)] => args = [.d (.sl 2 (rowsR HM))] ∧ K (.d (bo true))
  | _ => args = [.full 2 (rowsR HX)] ∧ K (.d (bo false))
theorem head_facts : addS [] 3 (blockS 3) = (H1, true, 0) ∧ addS H1 6 (blockS 6) = (H2, true, 0) ∧ addS H2 2 (blockS 2) = (HM, true, 0) ∧ addS HM 5 (blockS 5) = (HM, false, 0) ∧ addS HM 5 (blockS 4) = ([], false, 12) ∧
    addS HM 1 [] = ([], false, 1) ∧ solvedS H2 0 = ([], false) ∧ solvedS HM 0 = (blockS 1, true) ∧ sumS H2 5 = (blockS 5, true) ∧ validS HM = true ∧ validS HX = false := by
  refine ⟨?_, ?_, ?_, ?_, ?_, ?_, ?_, ?_, ?_, ?_, ?_⟩ <;> kernel_rfl

theorem h12_ok : ∀ args K, h12 args K → ∃ x, PCall Try.prog 12 args x ∧ K x := by
  intro args K h
  obtain ⟨f1, f2, f3, f4, f5, f6, _⟩ := head_facts
  unfold h12 at h
  split at h
  · obtain ⟨h1, h⟩ := h
    rw [h1]
    exact ⟨_, (f1 ▸ pc12 [] 3 (blockS 3) (by simp)).leArgs (.cons (.le (.base (LeA.nilSl rfl))) (LeTs.refl _)), h⟩
  · split at h
    · obtain ⟨h1, h⟩ := h
      rw [h1]; exact ⟨_, f2 ▸ pc12 H1 6 (blockS 6) (by simp [H1]), h⟩
    · obtain ⟨h1, h⟩ := h
      rw [h1]; exact ⟨_, f3 ▸ pc12 H2 2 (blockS 2) (by simp [H2]), h⟩
    · split at h
      · obtain ⟨h1, h⟩ := h
        rw [h1]; exact ⟨_, f4 ▸ pc12 HM 5 (blockS 5) (by simp [HM]), h⟩
      · obtain ⟨h1, h⟩ := h
        rw [h1]; exact ⟨_, f5 ▸ pc12 HM 5 (blockS 4) (by simp [HM]), h⟩
    · obtain ⟨h1, h⟩ := h
      rw [h1]
      exact ⟨_, (f6 ▸ pc12 HM 1 [] (by simp [HM])).leArgs (.cons (.le .rfl) (.cons (.le (.agg (.cons .rfl (.cons (LeA.nilSl rfl) .nil)))) .nil)), h⟩
    · exact h.elim
  · exact h.elim
theorem h14_ok : ∀ args K, h14 args K → ∃ x, PCall Try.prog 14 args x ∧ K x := by
  intro args K h
  obtain ⟨_, _, _, _, _, _, f1, f2, _⟩ := head_facts
  unfold h14 at h
  split at h
  · split at h
    · obtain ⟨h1, h⟩ := h
      rw [h1]; exact ⟨_, f1 ▸ pc14 H2 0 (by simp [H2]), h⟩
    · obtain ⟨h1, h⟩ := h
      rw [h1]; exact ⟨_, f2 ▸ pc14 HM 0 (by simp [HM]), h⟩
  · exact h.elim
theorem h16_ok : ∀ args K, h16 args K → ∃ x, PCall Try.prog 16 args x ∧ K x := by
  rintro args K ⟨h1, h⟩
  obtain ⟨_, _, _, _, _, _, _, _, f1, _⟩ := head_facts
  rw [h1]; exact ⟨_, f1 ▸ pc16 H2 5 (by simp [H2]), h⟩
theorem h26_ok : ∀ args K, h26 args K → ∃ x, PCall Try.prog 26 args x ∧ K x := by
  intro args K h
  unfold h26 at h
  split at h
  · obtain ⟨h1, h⟩ := h
    rw [h1]; exact ⟨_, pc26 _ _, h⟩
  · exact h.elim
theorem h27_ok : ∀ args K, h27 args K → ∃ x, PCall Try.prog 27 args x ∧ K x := by
  intro args K h
  unfold h27 at h
  split at h
  · obtain ⟨h1, h⟩ := h
    rw [h1]; exact ⟨_, pc27 _, h⟩
  · exact h.elim
theorem h19_ok : ∀ args K, h19 args K → ∃ x, PCall Try.prog 19 args x ∧ K x := by
  intro args K h
  unfold h19 at h
  split at h
  · obtain ⟨h1, h⟩ := h
    rw [h1]
    refine ⟨_, pc19 _ _ (by simp [blockS]), ?_⟩
    rw [beq_self_eq_true]; exact h
  · exact h.elim
theorem h18_ok : ∀ args K, h18 args K → ∃ x, PCall Try.prog 18 args x ∧ K x := by
  intro args K h
  unfold h18 at h
  split at h
  · split at h
    · obtain ⟨h1, h⟩ := h
      rw [h1]
      refine ⟨_, (pc18 H2 H2 (by simp [H2]) (by simp [H2, RW, blockS])).leArgs (.cons (.le .rfl) (.cons (.full _ _) .nil)), ?_⟩
      rw [beq_self_eq_true]; exact h
    · obtain ⟨h1, h⟩ := h
      rw [h1]
      refine ⟨_, (pc18 HM HM (by simp [HM]) (by simp [HM, RW, blockS])).leArgs (.cons (.le .rfl) (.cons (.full _ _) .nil)), ?_⟩
      rw [beq_self_eq_true]; exact h
  · exact h.elim
theorem h20_ok : ∀ args K, h20 args K → ∃ x, PCall Try.prog 20 args x ∧ K x := by
  intro args K h
  obtain ⟨_, _, _, _, _, _, _, _, _, f1, f2⟩ := head_facts
  unfold h20 at h
  split at h
  · obtain ⟨h1, h⟩ := h
    rw [h1]; exact ⟨_, f1 ▸ pc20 HM (by simp [HM]), h⟩
  · obtain ⟨h1, h⟩ := h
    rw [h1]; exact ⟨_, (f2 ▸ pc20 HX (by simp [HX])).leArgs (.cons (.full _ _) .nil), h⟩
def TH : List (Nat × (List AV → (AV → Prop) → Prop)) := [(12, h12), (14, h14), (16, h16), (26, h26), (27, h27), (19, h19), (18, h18), (20, h20)]
theorem TH_ok : CallsOk Try.prog TH := CallsOk.cons h12_ok (CallsOk.cons h14_ok (CallsOk.cons h16_ok (CallsOk.cons h26_ok (CallsOk.cons h27_ok (CallsOk.cons h19_ok (CallsOk.cons h18_ok (CallsOk.cons h20_ok CallsOk.nil)))))))

def A12 (l : List Row) (m x : Int) : List AV := [.d (.sl 2 (rowsR l)), rowA m (blockS x)]
def A2 (m x : Int) : List AV := [.d (i64 m), .d (u8 x)]
theorem f10_nf {β : Type} (wl : WLT β) (y : YieldT β) (b : β) (R : AV → β → Prop) : wpFn Try.prog ⟨TH, [], wl, y, false⟩ 200 Try.f10 [] b R = (
  A2 3 3 = A2 3 3 ∧ [nilA, rowA 3 (blockS 3)] = [nilA, rowA 3 (blockS 3)] ∧ A2 6 6 = A2 6 6 ∧ A12 H1 6 6 = A12 H1 6 6 ∧ [AV.d (.sl 2 (rowsR H2)), .d (i64 0)] = [AV.d (.sl 2 (rowsR H2)), .d (i64 0)] ∧
  [AV.d (.sl 2 (rowsR H2)), .d (i64 5)] = [AV.d (.sl 2 (rowsR H2)), .d (i64 5)] ∧ A2 2 2 = A2 2 2 ∧ A12 H2 2 2 = A12 H2 2 2 ∧ A2 5 5 = A2 5 5 ∧ A12 HM 5 5 = A12 HM 5 5 ∧ A2 5 4 = A2 5 4 ∧
  [.d (.sl 2 (rowsR HM)), rowA 5 (blockS 4)] = [.d (.sl 2 (rowsR HM)), rowA 5 (blockS 4)] ∧ [AV.d (.sl 2 (rowsR HM)), .agg [.d (i64 1), nilA]] = [AV.d (.sl 2 (rowsR HM)), .agg [.d (i64 1), nilA]] ∧
  [AV.d (.sl 2 (rowsR HM)), .d (i64 0)] = [AV.d (.sl 2 (rowsR HM)), .d (i64 0)] ∧ [AV.d (u8 5)] = [AV.d (u8 5)] ∧ [AV.d (.sl 1 (bytesR (blockS 5))), .d (.sl 1 (bytesR (blockS 5)))] = [AV.d (.sl 1 (bytesR (blockS 5))), .d (.sl 1 (bytesR (blockS 5)))] ∧
  [AV.d (u8 1)] = [AV.d (u8 1)] ∧ [AV.d (.sl 1 (bytesR (blockS 1))), .d (.sl 1 (bytesR (blockS 1)))] = [AV.d (.sl 1 (bytesR (blockS 1))), .d (.sl 1 (bytesR (blockS 1)))] ∧
  A2 5 5 = A2 5 5 ∧ A2 3 3 = A2 3 3 ∧ [AV.d (.sl 2 (rowsR H2)), .full 2 (rowsR H2)] = [AV.d (.sl 2 (rowsR H2)), .full 2 (rowsR H2)] ∧ A2 4 4 = A2 4 4 ∧ A2 2 2 = A2 2 2 ∧ A2 1 1 = A2 1 1 ∧
  [AV.d (.sl 2 (rowsR HM)), .full 2 (rowsR HM)] = [AV.d (.sl 2 (rowsR HM)), .full 2 (rowsR HM)] ∧ [AV.d (.sl 2 (rowsR HM))] = [AV.d (.sl 2 (rowsR HM))] ∧ A2 6 6 = A2 6 6 ∧ A2 3 3 = A2 3 3 ∧ A2 2 2 = A2 2 2 ∧
  [AV.full 2 (rowsR HX)] = [AV.full 2 (rowsR HX)] ∧ R (.d (bo true)) b) := by kernel_rfl
theorem pc10 : PCall Try.prog 10 [] (.d (bo true)) := by
  refine PCall.ofFn (n := 200) (u := false) mixed TH_ok SCallsOk.nil Try.func10 (by rfl) (by rfl) fun Ev b => ?_
  rw [f10_nf]
  refine ⟨rfl, rfl, rfl, rfl, rfl, rfl, rfl, rfl, rfl, rfl, rfl, rfl, rfl, rfl, rfl, rfl, rfl, rfl, rfl, rfl, rfl, rfl, rfl, rfl, rfl, rfl, rfl, rfl, rfl, rfl, rfl⟩
def c10 (args : List AV) (K : AV → Prop) : Prop := args = [] ∧ K (.d (bo true))
theorem c10_ok : ∀ args K, c10 args K → ∃ x, PCall Try.prog 10 args x ∧ K x := by
  rintro _ K ⟨rfl, h⟩; exact ⟨_, pc10, h⟩
end Go.Proofs.Ytgdeoaiakdkhcaa.Am
