import Derived.Test.YtgdeoaiakdkhcaaSvN
namespace Go.Proofs.Ytgdeoaiakdkhcaa.Am
set_option linter.unusedVariables false
open Go Go.RowKit Go.Proofs

def TL : List (Nat × (List AV → (AV → Prop) → Prop)) := [(10, c10), (11, c11), (21, c21), (12, c12), (14, c14), (16, c16), (19, c19), (18, c18), (25, c25), (24, c24)]
theorem TL_ok : CallsOk Try.prog TL := CallsOk.cons c10_ok (CallsOk.cons c11_ok (CallsOk.cons c21_ok (CallsOk.cons c12_ok (CallsOk.cons c14_ok (CallsOk.cons c16_ok (CallsOk.cons c19_ok (CallsOk.cons c18_ok (CallsOk.cons c25_ok (CallsOk.cons c24_ok CallsOk.nil)))))))))

/-! ### SolveSums -/
theorem f8_nf {β : Type} (wl : WLT β) (y : YieldT β) (b : β) (R : AV → β → Prop) (xs : List (List Dv)) (a c : Int) : wpFn Try.prog ⟨TL, [], wl, y, false⟩ 200 Try.f8 [.d (.sl 2 xs), .d (u16 a), .d (u16 c)] b R = (
  ([] : List AV) = [] ∧ ∃ l0 : List Row, [AV.d (Dv.sl 2 xs)] = [AV.d (Dv.sl 2 (rowsR l0))] ∧ l0.length ≤ 9223372036854775807 ∧ BIf (!fewS l0) (R (AV.d (bo true)) b) (
  ∃ l1 : List Row, [AV.d (Dv.sl 2 xs)] = [AV.d (Dv.sl 2 (rowsR l1))] ∧ l1.length ≤ 9223372036854775807 ∧ BIf (!validR l1) (R (AV.d (bo true)) b) (
  ∃ (l2 : List Row) (m3 : Int) (x4 : List Int × Bool), [AV.d (Dv.sl 2 xs), AV.d (i64 (IntKind.wrap IntKind.i64 a))] = [AV.d (Dv.sl 2 (rowsR l2)), AV.d (i64 m3)] ∧ l2.length ≤ 9223372036854775807 ∧ x4 = sumS l2 m3 ∧
  ∃ (l5 : List Row) (m6 : Int) (x7 : List Int × Bool), [AV.d (Dv.sl 2 xs), AV.d (i64 (IntKind.wrap IntKind.i64 c))] = [AV.d (Dv.sl 2 (rowsR l5)), AV.d (i64 m6)] ∧ l5.length ≤ 9223372036854775807 ∧ x7 = sumS l5 m6 ∧
  ∃ (l8 : List Row) (m9 : Int) (x10 : List Int × Bool), [AV.d (Dv.sl 2 xs), AV.d (i64 (IntKind.wrap IntKind.i64 (IntKind.wrap IntKind.u16 ((BitVec.ofInt 16 a ^^^ BitVec.ofInt 16 c).toNat : Nat))))] = [AV.d (Dv.sl 2 (rowsR l8)), AV.d (i64 m9)] ∧ l8.length ≤ 9223372036854775807 ∧ x10 = sumS l8 m9 ∧
  BIf (!x4.2) (BIf (!x10.2) (R (AV.d (bo true)) b) (R (AV.d (bo (x4.2 == x7.2))) b))
    (BIf (!x7.2) (BIf (!x10.2) (R (AV.d (bo true)) b) (R (AV.d (bo (x4.2 == x7.2))) b))
      (BIf x10.2 (BIf (((bytesR x4.1).length : Int) == 16) (BIf (((bytesR x7.1).length : Int) == 16)
        (∃ p11 q12 r13 : List Int, [AV.d (Dv.sl 1 (bytesR x4.1)), AV.d (Dv.sl 1 (bytesR x7.1))] = [AV.d (Dv.sl 1 (bytesR p11)), AV.d (Dv.sl 1 (bytesR q12))] ∧ (16 ≤ p11.length ∧ 16 ≤ q12.length) ∧ r13 = xorL p11 q12 ∧
         ∃ (p14 q15 : List Int) (r16 : Bool), [AV.d (Dv.sl 1 (bytesR x10.1)), AV.d (Dv.sl 1 (bytesR r13))] = [AV.d (Dv.sl 1 (bytesR p14)), AV.d (Dv.sl 1 (bytesR q15))] ∧ p14.length ≤ 9223372036854775807 ∧ r16 = (p14 == q15) ∧ R (AV.d (bo r16)) b)
        (R (AV.d (bo false)) b)) (R (AV.d (bo false)) b)) (R (AV.d (bo false)) b)))))) := by kernel_rfl

theorem sumS_def {l : List Row} {m : Int} (h0 : 0 ≤ m) (h1 : m < 65536) (hv : validS l = true) : sumS l m = if (l.foldl red (m, [])).1 != 0 then ([], false) else (b16 (l.foldl red (m, [])).2, true) := by
  unfold sumS
  rw [decide_eq_false (by omega), decide_eq_false (by omega), hv]; rfl
theorem sumS_bad {l : List Row} {m : Int} (hv : validS l = false) : sumS l m = ([], false) := by
  unfold sumS; rw [hv]; simp

theorem sums_law (l : List Row) (a c : Int) (ha : 0 ≤ a ∧ a < 65536) (hc : 0 ≤ c ∧ c < 65536) :
    ((sumS l a).2 = true → (sumS l c).2 = true → (sumS l (xor64 a c)).2 = true ∧ (sumS l a).1.length = 16 ∧ (sumS l c).1.length = 16 ∧ (sumS l (xor64 a c)).1 = xorL (sumS l a).1 (sumS l c).1) ∧
    ((sumS l (xor64 a c)).2 = true → (sumS l a).2 = (sumS l c).2) := by
  cases hv : validS l with
  | false => simp [sumS_bad hv]
  | true =>
    have hl := validS_ok hv
    have hx := xor64_bd ha.1 ha.2 hc.1 hc.2
    rw [sumS_def ha.1 ha.2 hv, sumS_def hc.1 hc.2 hv, sumS_def hx.1 hx.2 hv]
    obtain ⟨e1, e2⟩ := red_sum hl ha hc
    have b1 := foldl_red_bd (l := l) (x := (a, [])) ha hl
    have b2 := foldl_red_bd (l := l) (x := (c, [])) hc hl
    have hz := xor64_zero b1 b2
    rw [← e1] at hz
    generalize l.foldl red (a, []) = u at *
    generalize l.foldl red (c, []) = v at *
    generalize l.foldl red (xor64 a c, []) = w at *
    by_cases h1 : u.1 = 0
    · by_cases h2 : v.1 = 0
      · have h3 : w.1 = 0 := hz.2 (by omega)
        simp [h1, h2, h3, b16_len, e2, xorL_b16]
      · have h3 : ¬ w.1 = 0 := fun h => h2 (by have := hz.1 h; omega)
        simp [h1, h2, h3]
    · by_cases h2 : v.1 = 0
      · have h3 : ¬ w.1 = 0 := fun h => h1 (by have := hz.1 h; omega)
        simp [h1, h2, h3]
      · simp [h1, h2]

theorem u16_bd {x : Int} (h : (Lit.int .u16 x).wf = true) : 0 ≤ x ∧ x < 65536 := by
  simp [Lit.wf, IntKind.min, IntKind.max, IntKind.signed, IntKind.bits] at h; omega
theorem wrap_u16 {x : Int} (h0 : 0 ≤ x) (h1 : x < 65536) : IntKind.wrap .u16 x = x := by
  simp only [IntKind.wrap]; simp [IntKind.signed, IntKind.bits]; omega
theorem xor16_eq {a c : Int} (ha : 0 ≤ a ∧ a < 65536) (hc : 0 ≤ c ∧ c < 65536) : IntKind.wrap IntKind.i64 (IntKind.wrap IntKind.u16 ((BitVec.ofInt 16 a ^^^ BitVec.ofInt 16 c).toNat : Nat)) = xor64 a c := by
  rw [xor64_eq ha.1 ha.2 hc.1 hc.2, BitVec.toNat_xor]
  have e1 : (BitVec.ofInt 16 a).toNat = a.toNat := by rw [BitVec.toNat_ofInt]; omega
  have e2 : (BitVec.ofInt 16 c).toNat = c.toNat := by rw [BitVec.toNat_ofInt]; omega
  rw [e1, e2]
  have : a.toNat ^^^ c.toNat < 2 ^ 16 := Nat.xor_lt_two_pow (by omega) (by omega)
  rw [wrap_u16 (by omega) (by omega), wrap_i64 (by omega) (by omega)]

theorem pc8 (l : List Row) (a c : Int) (hl : l.length ≤ 9223372036854775807) (ha : 0 ≤ a ∧ a < 65536) (hc : 0 ≤ c ∧ c < 65536) : PCall Try.prog 8 [.d (.sl 2 (rowsR l)), .d (u16 a), .d (u16 c)] (.d (bo true)) := by
  refine PCall.ofFn (n := 200) (u := false) mixed TL_ok SCallsOk.nil Try.func8 (by rfl) (by rfl) fun Ev b => ?_
  rw [f8_nf, wrap_i64 (by omega) (by omega), wrap_i64 (by omega) (by omega), xor16_eq ha hc]
  obtain ⟨h1, h2⟩ := sums_law l a c ha hc
  refine ⟨rfl, l, rfl, hl, BIf.of (fun _ => rfl) fun _ => ⟨l, rfl, hl, BIf.of (fun _ => rfl) fun _ => ⟨l, a, _, rfl, hl, rfl, l, c, _, rfl, hl, rfl, l, _, _, rfl, hl, rfl, BIf.of (fun g1 => BIf.of (fun _ => rfl) fun g2 => ?_) fun g1 => BIf.of (fun g3 => BIf.of (fun _ => rfl) fun g2 => ?_) fun g3 => ?_⟩⟩⟩
  · rw [h2 (by simpa using g2)]; simp
  · rw [h2 (by simpa using g2)]; simp
  · obtain ⟨k1, k2, k3, k4⟩ := h1 (by simpa using g1) (by simpa using g3)
    refine BIf.t k1 (BIf.t (by simp [bytesR, k2]) (BIf.t (by simp [bytesR, k3]) ⟨_, _, _, rfl, ⟨by omega, by omega⟩, rfl, _, _, _, rfl, ?_, rfl, ?_⟩))
    · rw [k4]; simp [xorL]
    · rw [k4, beq_self_eq_true]
end Go.Proofs.Ytgdeoaiakdkhcaa.Am
