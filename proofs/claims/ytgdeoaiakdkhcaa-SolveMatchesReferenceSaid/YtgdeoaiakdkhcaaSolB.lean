import Derived.Test.YtgdeoaiakdkhcaaSolA
import Derived.Test.YtgdeoaiakdkhcaaEngC
import Derived.Test.YtgdeoaiakdkhcaaRows
set_option linter.unusedSimpArgs false
namespace Go.Proofs.Ytgdeoaiakdkhcaa.Am
set_option linter.unusedVariables false
open Go Go.RowKit Go.Proofs

/-! ### words of bits -/
section
variable {ι : Type}
def vx (u v : ι → Bool) : ι → Bool := fun i => (u i ^^ v i)
def redV (x : ι → Bool) (r : ι × (ι → Bool)) : ι → Bool := if x r.1 then vx x r.2 else x
theorem redV_vx (x y : ι → Bool) (r : ι × (ι → Bool)) : redV (vx x y) r = vx (redV x r) (redV y r) := by
  funext i
  unfold redV
  have e : vx x y r.1 = (x r.1 ^^ y r.1) := rfl
  rw [e]
  cases x r.1 <;> cases y r.1 <;> simp [vx] <;> cases x i <;> cases y i <;> cases r.2 i <;> rfl
theorem foldV_vx : ∀ (l : List (ι × (ι → Bool))) (x y : ι → Bool), l.foldl redV (vx x y) = vx (l.foldl redV x) (l.foldl redV y)
  | [], x, y => rfl
  | r :: l, x, y => by simp only [List.foldl_cons, redV_vx, foldV_vx l]
end

/-! ### equations as words -/
abbrev Ix := Nat ⊕ (Nat × Nat)
def vec (x : Row) : Ix → Bool
  | .inl k => x.1.toNat.testBit k
  | .inr (i, j) => decide (i < 16) && (BitVec.ofInt 8 (nth x.2 i)).getLsbD j
def top (m : Int) : Nat := m.toNat.log2
def rowV (r : Row) : Ix × (Ix → Bool) := (.inl (top r.1), vec (r.1, pad r.2))

theorem nth_xorL {p q : List Int} {i : Nat} (h : i < 16) : nth (xorL p q) i = xor8 (nth p i) (nth q i) := by
  simp [nth, xorL, List.getElem?_range, h]
theorem wrap_u8_nat {n : Nat} (h : n < 256) : IntKind.wrap .u8 (n : Int) = n := wrap_u8 (by omega) (by omega)
theorem xor8_nat (a b : Int) : xor8 a b = (((BitVec.ofInt 8 a ^^^ BitVec.ofInt 8 b).toNat : Nat) : Int) := by
  unfold xor8; exact wrap_u8_nat (BitVec.isLt _)
theorem ofInt_xor8 (a b : Int) : BitVec.ofInt 8 (xor8 a b) = BitVec.ofInt 8 a ^^^ BitVec.ofInt 8 b := by
  rw [xor8_nat]
  generalize hz : BitVec.ofInt 8 a ^^^ BitVec.ofInt 8 b = z
  apply BitVec.eq_of_toNat_eq
  rw [BitVec.toNat_ofInt]
  have := z.isLt
  omega
theorem xor8_bd (a b : Int) : 0 ≤ xor8 a b ∧ xor8 a b < 256 := by
  rw [xor8_nat]
  have := (BitVec.ofInt 8 a ^^^ BitVec.ofInt 8 b).isLt
  omega
theorem vec_xor {m n : Int} {p q : List Int} (h0 : 0 ≤ m) (h1 : m < 65536) (h2 : 0 ≤ n) (h3 : n < 65536) : vec (xor64 m n, xorL p q) = vx (vec (m, p)) (vec (n, q)) := by
  funext i
  cases i with
  | inl k => simp only [vec, vx]; rw [xor64_eq h0 h1 h2 h3]; simp
  | inr ij =>
    obtain ⟨i, j⟩ := ij
    simp only [vec, vx]
    by_cases h : i < 16
    · rw [nth_xorL h, ofInt_xor8]; simp [h]
    · simp [h]

theorem lead_nat (m : Int) : (lead m).toNat = 2 ^ top m := Int.toNat_natCast _
theorem lead_bd {m : Int} (h0 : 1 ≤ m) (h1 : m < 65536) : 0 ≤ lead m ∧ lead m < 65536 := by
  have h2 := (log2_bounds (n := m.toNat) (by omega)).1
  unfold lead
  generalize 2 ^ m.toNat.log2 = z at h2
  omega
theorem and_pow (n k : Nat) : n &&& 2 ^ k = if n.testBit k then 2 ^ k else 0 := by
  apply Nat.eq_of_testBit_eq
  intro i
  rw [Nat.testBit_and, Nat.testBit_two_pow]
  by_cases h : k = i
  · subst h
    cases hn : n.testBit k <;> simp [Nat.testBit_two_pow]
  · cases hn : n.testBit k <;> simp [Nat.testBit_two_pow, h]
theorem and_lead {x m : Int} (hx : 0 ≤ x ∧ x < 65536) (h0 : 1 ≤ m) (h1 : m < 65536) : (and64 x (lead m) != 0) = x.toNat.testBit (top m) := by
  have hl := lead_bd h0 h1
  rw [and64_eq hx.1 hx.2 hl.1 hl.2, lead_nat, and_pow]
  cases x.toNat.testBit (top m) with
  | true =>
    have := Nat.two_pow_pos (top m)
    generalize 2 ^ top m = z at this
    simp [bne]; omega
  | false => simp [bne]
theorem vec_red {x r : Row} (hx : 0 ≤ x.1 ∧ x.1 < 65536) (hr : okMask r) : vec (red x r) = redV (vec x) (rowV r) := by
  unfold red redV rowV
  rw [and_lead hx hr.1 hr.2]
  show _ = if x.1.toNat.testBit (top r.1) then _ else _
  split
  · rw [vec_xor hx.1 hx.2 (by have := hr.1; omega) hr.2]
  · rfl
theorem vec_foldl : ∀ {l : List Row} {x : Row}, 0 ≤ x.1 ∧ x.1 < 65536 → (∀ r ∈ l, okMask r) → vec (l.foldl red x) = (l.map rowV).foldl redV (vec x)
  | [], x, _, _ => rfl
  | r :: l, x, hx, h => by
    have hr := h r (List.mem_cons_self ..)
    simp only [List.foldl_cons, List.map_cons]
    rw [vec_foldl (red_bd hx hr) fun r' h' => h r' (List.mem_cons_of_mem _ h'), vec_red hx hr]

/-- its bytes are bytes -/
def canon (p : List Int) : Prop := ∀ i, i < 16 → 0 ≤ nth p i ∧ nth p i < 256
theorem canon_nil : canon [] := fun i _ => by simp [nth]
theorem canon_xorL (p q : List Int) : canon (xorL p q) := fun i h => by rw [nth_xorL h]; exact xor8_bd _ _
theorem canon_red {x r : Row} (h : canon x.2) : canon (red x r).2 := by
  unfold red; split
  · exact canon_xorL _ _
  · exact h
theorem canon_foldl : ∀ {l : List Row} {x : Row}, canon x.2 → canon (l.foldl red x).2
  | [], _, h => h
  | r :: l, x, h => canon_foldl (l := l) (canon_red h)

theorem ofInt8_inj {a b : Int} (ha : 0 ≤ a ∧ a < 256) (hb : 0 ≤ b ∧ b < 256) (h : BitVec.ofInt 8 a = BitVec.ofInt 8 b) : a = b := by
  have := congrArg BitVec.toNat h
  simp only [BitVec.toNat_ofInt] at this
  omega
theorem vec_inr {x y : Row} (h : vec x = vec y) {i : Nat} (hi : i < 16) : BitVec.ofInt 8 (nth x.2 i) = BitVec.ofInt 8 (nth y.2 i) := by
  apply BitVec.eq_of_getLsbD_eq
  intro j _
  have := congrFun h (.inr (i, j))
  simpa [vec, hi] using this
theorem b16_len (p : List Int) : (b16 p).length = 16 := by simp [b16]
theorem nth_b16 {p : List Int} {i : Nat} (h : i < 16) : nth (b16 p) i = nth p i := by
  simp [nth, b16, List.getElem?_range, h]
theorem list16 {p q : List Int} (hp : p.length = 16) (hq : q.length = 16) (h : ∀ i, i < 16 → nth p i = nth q i) : p = q := by
  apply List.ext_getElem (by omega)
  intro i h1 h2
  have := h i (by omega)
  simpa [nth, List.getElem?_eq_getElem h1, List.getElem?_eq_getElem h2] using this
theorem b16_ext {x y : Row} (hx : canon x.2) (hy : canon y.2) (h : vec x = vec y) : b16 x.2 = b16 y.2 :=
  list16 (b16_len _) (b16_len _) fun i hi => by rw [nth_b16 hi, nth_b16 hi]; exact ofInt8_inj (hx i hi) (hy i hi) (vec_inr h hi)
theorem vec_inl {x y : Row} (hx : 0 ≤ x.1) (hy : 0 ≤ y.1) (h : vec x = vec y) : x.1 = y.1 := by
  have : x.1.toNat = y.1.toNat := by
    apply Nat.eq_of_testBit_eq
    intro k
    have := congrFun h (.inl k)
    simpa [vec] using this
  omega
/-- equations with bytes: the same word, the same equation -/
theorem xorL_b16 (p q : List Int) : xorL (b16 p) (b16 q) = xorL p q :=
  list16 (by simp [xorL]) (by simp [xorL]) fun i hi => by rw [nth_xorL hi, nth_xorL hi, nth_b16 hi, nth_b16 hi]
theorem b16_xorL (p q : List Int) : b16 (xorL p q) = xorL p q :=
  list16 (b16_len _) (by simp [xorL]) fun i hi => nth_b16 hi

theorem validS_ok {l : List Row} (h : validS l = true) : ∀ r ∈ l, okMask r := by
  simp only [validS, Bool.and_eq_true] at h
  exact fun r hr => fine_ok (vA_ok h.1 r hr)

/-- the sum of two sums -/
theorem red_sum {l : List Row} (hl : ∀ r ∈ l, okMask r) {a c : Int} (ha : 0 ≤ a ∧ a < 65536) (hc : 0 ≤ c ∧ c < 65536) :
    (l.foldl red (xor64 a c, [])).1 = xor64 (l.foldl red (a, [])).1 (l.foldl red (c, [])).1 ∧ b16 (l.foldl red (xor64 a c, [])).2 = xorL (l.foldl red (a, [])).2 (l.foldl red (c, [])).2 := by
  have hx := xor64_bd ha.1 ha.2 hc.1 hc.2
  have b1 := foldl_red_bd (l := l) (x := (a, [])) ha hl
  have b2 := foldl_red_bd (l := l) (x := (c, [])) hc hl
  have b3 := foldl_red_bd (l := l) (x := (xor64 a c, [])) hx hl
  have e0 : vec (xor64 a c, []) = vx (vec (a, [])) (vec (c, [])) := by
    rw [← vec_xor ha.1 ha.2 hc.1 hc.2]
    funext i
    cases i with
    | inl k => rfl
    | inr ij =>
      obtain ⟨i, j⟩ := ij
      simp only [vec]
      by_cases h : i < 16
      · rw [nth_xorL h]; simp [nth, xor8_nat]
      · simp [h]
  have e : vec (l.foldl red (xor64 a c, [])) = vec (xor64 (l.foldl red (a, [])).1 (l.foldl red (c, [])).1, xorL (l.foldl red (a, [])).2 (l.foldl red (c, [])).2) := by
    rw [vec_foldl hx hl, e0, foldV_vx, ← vec_foldl ha hl, ← vec_foldl hc hl, vec_xor b1.1 b1.2 b2.1 b2.2]
  have b4 := xor64_bd b1.1 b1.2 b2.1 b2.2
  refine ⟨vec_inl b3.1 b4.1 e, ?_⟩
  have := b16_ext (canon_foldl canon_nil) (canon_xorL _ _) e
  rw [this, b16_xorL]

theorem xor64_zero {a b : Int} (ha : 0 ≤ a ∧ a < 65536) (hb : 0 ≤ b ∧ b < 65536) : xor64 a b = 0 ↔ a = b := by
  rw [xor64_eq ha.1 ha.2 hb.1 hb.2]
  constructor
  · intro h
    have : a.toNat ^^^ b.toNat = 0 := by omega
    have : a.toNat = b.toNat := by
      apply Nat.eq_of_testBit_eq
      intro k
      have h2 := congrArg (fun z => z.testBit k) this
      simpa using h2
    omega
  · rintro rfl; simp

end Go.Proofs.Ytgdeoaiakdkhcaa.Am

namespace Go.Proofs.Ytgdeoaiakdkhcaa.Am
set_option linter.unusedVariables false
open Go Go.RowKit Go.Proofs

def TL : List (Nat × (List AV → (AV → Prop) → Prop)) := [(10, c10), (11, c11), (21, c21), (12, c12), (14, c14), (16, c16), (19, c19), (18, c18), (25, c25), (24, c24)]
theorem TL_ok : CallsOk Try.prog TL := CallsOk.cons c10_ok (CallsOk.cons c11_ok (CallsOk.cons c21_ok (CallsOk.cons c12_ok (CallsOk.cons c14_ok (CallsOk.cons c16_ok (CallsOk.cons c19_ok (CallsOk.cons c18_ok (CallsOk.cons c25_ok (CallsOk.cons c24_ok CallsOk.nil)))))))))

/-! ### SolveSums -/
theorem f8_nf {β : Type} (wl : WLT β) (y : YieldT β) (b : β) (R : AV → β → Prop) (xs : List (List Dv)) (a c : Int) : wpFn Try.prog ⟨TL, [], wl, y, false⟩ 200 Try.f8 [.d (.sl 2 xs), .d (u16 a), .d (u16 c)] b R = (
  ([] : List AV) = [] ∧ ∃ l0 : List Row, [AV.d (Dv.sl 2 xs)] = [AV.d (Dv.sl 2 (rowsR l0))] ∧ l0.length ≤ 9223372036854775807 ∧ BIf (!fewS l0) (R (AV.d (bo true)) b) (
  ∃ l1 : List Row, [AV.d (Dv.sl 2 xs)] = [AV.d (Dv.sl 2 (rowsR l1))] ∧ l1.length ≤ 9223372036854775807 ∧ BIf (!validR l1) (R (AV.d (bo true)) b) (
  ∃ (l2 : List Row) (m3 : Int) (x4 : List Int × Bool), [AV.d (Dv.sl 2 xs), AV.d (i64 (IntKind.wrap IntKind.i64 a))] = [AV.d (Dv.sl 2 (rowsR l2)), AV.d (i64 m3)] ∧ l2.length ≤ 9223372036854775807 ∧ x4 = sumS l2 m3 ∧
  ∃ (l5 : List Row) (m6 : Int) (x7 : List Int × Bool), [AV.d (Dv.sl 2 xs), AV.d (i64 (IntKind.wrap IntKind.i64 c))] = [AV.d (Dv.sl 2 (rowsR l5)), AV.d (i64 m6)] ∧ l5.length ≤ 9223372036854775807 ∧ x7 = sumS l5 m6 ∧
  ∃ (l8 : List Row) (m9 : Int) (x10 : List Int × Bool), [AV.d (Dv.sl 2 xs), AV.d (i64 (IntKind.wrap IntKind.i64 (IntKind.wrap IntKind.u16 ((BitVec.ofInt 16 a ^^^ BitVec.ofInt 16 c).toNat : Nat))))] = [AV.d (Dv.sl 2 (rowsR l8)), AV.d (i64 m9)] ∧ l8.length ≤ 9223372036854775807 ∧ x10 = sumS l8 m9 ∧
  BIf (!x4.2) (BIf (!x10.2) (R (AV.d (bo true)) b) (R (AV.d (bo (x4.2 == x7.2))) b))
    (BIf (!x7.2) (BIf (!x10.2) (R (AV.d (bo true)) b) (R (AV.d (bo (x4.2 == x7.2))) b))
      (BIf x10.2 (BIf (((bytesR x4.1).length : Int) == 16) (BIf (((bytesR x7.1).length : Int) == 16)
        (∃ p11 q12 r13 : List Int, [AV.d (Dv.sl 1 (bytesR x4.1)), AV.d (Dv.sl 1 (bytesR x7.1))] = [AV.d (Dv.sl 1 (bytesR p11)), AV.d (Dv.sl 1 (bytesR q12))] ∧ (16 ≤ p11.length ∧ 16 ≤ q12.length) ∧ r13 = xorL p11 q12 ∧
         ∃ (p14 q15 : List Int) (r16 : Bool), [AV.d (Dv.sl 1 (bytesR x10.1)), AV.d (Dv.sl 1 (bytesR r13))] = [AV.d (Dv.sl 1 (bytesR p14)), AV.d (Dv.sl 1 (bytesR q15))] ∧ p14.length ≤ 9223372036854775807 ∧ r16 = (p14 == q15) ∧ R (AV.d (bo r16)) b)
        (R (AV.d (bo false)) b)) (R (AV.d (bo false)) b)) (R (AV.d (bo false)) b)))))) := by kernel_rfl

theorem sumS_def {l : List Row} {m : Int} (h0 : 0 ≤ m) (h1 : m < 65536) (hv : validS l = true) : sumS l m = if (l.foldl red (m, [])).1 != 0 then ([], false) else (b16 (l.foldl red (m, [])).2, true) := by
  unfold sumS
  rw [decide_eq_false (by omega), decide_eq_false (by omega), hv]; rfl
theorem sumS_bad {l : List Row} {m : Int} (hv : validS l = false) : sumS l m = ([], false) := by
  unfold sumS; rw [hv]; simp

theorem sums_law (l : List Row) (a c : Int) (ha : 0 ≤ a ∧ a < 65536) (hc : 0 ≤ c ∧ c < 65536) :
    ((sumS l a).2 = true → (sumS l c).2 = true → (sumS l (xor64 a c)).2 = true ∧ (sumS l a).1.length = 16 ∧ (sumS l c).1.length = 16 ∧ (sumS l (xor64 a c)).1 = xorL (sumS l a).1 (sumS l c).1) ∧
    ((sumS l (xor64 a c)).2 = true → (sumS l a).2 = (sumS l c).2) := by
  cases hv : validS l with
  | false => simp [sumS_bad hv]
  | true =>
    have hl := validS_ok hv
    have hx := xor64_bd ha.1 ha.2 hc.1 hc.2
    rw [sumS_def ha.1 ha.2 hv, sumS_def hc.1 hc.2 hv, sumS_def hx.1 hx.2 hv]
    obtain ⟨e1, e2⟩ := red_sum hl ha hc
    have b1 := foldl_red_bd (l := l) (x := (a, [])) ha hl
    have b2 := foldl_red_bd (l := l) (x := (c, [])) hc hl
    have hz := xor64_zero b1 b2
    rw [← e1] at hz
    generalize l.foldl red (a, []) = u at *
    generalize l.foldl red (c, []) = v at *
    generalize l.foldl red (xor64 a c, []) = w at *
    by_cases h1 : u.1 = 0
    · by_cases h2 : v.1 = 0
      · have h3 : w.1 = 0 := hz.2 (by omega)
        simp [h1, h2, h3, b16_len, e2, xorL_b16]
      · have h3 : ¬ w.1 = 0 := fun h => h2 (by have := hz.1 h; omega)
        simp [h1, h2, h3]
    · by_cases h2 : v.1 = 0
      · have h3 : ¬ w.1 = 0 := fun h => h1 (by have := hz.1 h; omega)
        simp [h1, h2, h3]
      · simp [h1, h2]

theorem u16_bd {x : Int} (h : (Lit.int .u16 x).wf = true) : 0 ≤ x ∧ x < 65536 := by
  simp [Lit.wf, IntKind.min, IntKind.max, IntKind.signed, IntKind.bits] at h; omega
theorem wrap_u16 {x : Int} (h0 : 0 ≤ x) (h1 : x < 65536) : IntKind.wrap .u16 x = x := by
  simp only [IntKind.wrap]; simp [IntKind.signed, IntKind.bits]; omega
theorem xor16_eq {a c : Int} (ha : 0 ≤ a ∧ a < 65536) (hc : 0 ≤ c ∧ c < 65536) : IntKind.wrap IntKind.i64 (IntKind.wrap IntKind.u16 ((BitVec.ofInt 16 a ^^^ BitVec.ofInt 16 c).toNat : Nat)) = xor64 a c := by
  rw [xor64_eq ha.1 ha.2 hc.1 hc.2, BitVec.toNat_xor]
  have e1 : (BitVec.ofInt 16 a).toNat = a.toNat := by rw [BitVec.toNat_ofInt]; omega
  have e2 : (BitVec.ofInt 16 c).toNat = c.toNat := by rw [BitVec.toNat_ofInt]; omega
  rw [e1, e2]
  have : a.toNat ^^^ c.toNat < 2 ^ 16 := Nat.xor_lt_two_pow (by omega) (by omega)
  rw [wrap_u16 (by omega) (by omega), wrap_i64 (by omega) (by omega)]

theorem pc8 (l : List Row) (a c : Int) (hl : l.length ≤ 9223372036854775807) (ha : 0 ≤ a ∧ a < 65536) (hc : 0 ≤ c ∧ c < 65536) : PCall Try.prog 8 [.d (.sl 2 (rowsR l)), .d (u16 a), .d (u16 c)] (.d (bo true)) := by
  refine PCall.ofFn (n := 200) (u := false) mixed TL_ok SCallsOk.nil Try.func8 (by rfl) (by rfl) fun Ev b => ?_
  rw [f8_nf, wrap_i64 (by omega) (by omega), wrap_i64 (by omega) (by omega), xor16_eq ha hc]
  obtain ⟨h1, h2⟩ := sums_law l a c ha hc
  refine ⟨rfl, l, rfl, hl, BIf.of (fun _ => rfl) fun _ => ⟨l, rfl, hl, BIf.of (fun _ => rfl) fun _ => ⟨l, a, _, rfl, hl, rfl, l, c, _, rfl, hl, rfl, l, _, _, rfl, hl, rfl, BIf.of (fun g1 => BIf.of (fun _ => rfl) fun g2 => ?_) fun g1 => BIf.of (fun g3 => BIf.of (fun _ => rfl) fun g2 => ?_) fun g3 => ?_⟩⟩⟩
  · rw [h2 (by simpa using g2)]; simp
  · rw [h2 (by simpa using g2)]; simp
  · obtain ⟨k1, k2, k3, k4⟩ := h1 (by simpa using g1) (by simpa using g3)
    refine BIf.t k1 (BIf.t (by simp [bytesR, k2]) (BIf.t (by simp [bytesR, k3]) ⟨_, _, _, rfl, ⟨by omega, by omega⟩, rfl, _, _, _, rfl, ?_, rfl, ?_⟩))
    · rw [k4]; simp [xorL]
    · rw [k4, beq_self_eq_true]
end Go.Proofs.Ytgdeoaiakdkhcaa.Am

namespace Go.Proofs.Ytgdeoaiakdkhcaa.Am
set_option linter.unusedVariables false
open Go Go.RowKit Go.Proofs

/-! ### the two words on validity are one -/
theorem fine_formed (m : Int) (p : List Int) : fine m p = formedS m p := by
  unfold fine formedS
  congr 2
  rw [Bool.eq_iff_iff]; simp; omega
theorem lead_eq (m : Int) : lead m = ((2 ^ top m : Nat) : Int) := rfl
theorem lead_lt {a b : Int} : lead a < lead b ↔ top a < top b := by
  rw [lead_eq, lead_eq]
  constructor
  · intro h
    rcases Nat.lt_or_ge (top a) (top b) with h' | h'
    · exact h'
    · have := Nat.pow_le_pow_right (n := 2) (by omega) h'; omega
  · intro h
    have := Nat.pow_lt_pow_right (a := 2) (by omega) h; omega
theorem top_bit {m : Int} (h : 1 ≤ m) : m.toNat.testBit (top m) = true := by
  have hn : m.toNat ≠ 0 := by omega
  obtain ⟨h1, h2⟩ := log2_bounds hn
  unfold top
  rw [Nat.testBit_eq_decide_div_mod_eq]
  rw [Nat.pow_succ] at h2
  have h3 : m.toNat / 2 ^ m.toNat.log2 = 1 := by
    apply Nat.div_eq_of_lt_le <;> omega
  rw [h3]; rfl
theorem top_lt {m : Int} (h0 : 1 ≤ m) (h1 : m < 65536) : top m < 16 := (Nat.log2_lt (by omega)).2 (by omega)

theorem vPrev_vA : ∀ (l : List Row) (q : Row) (L : Int), vPrev (some q) l = (vA l (L, lead q.1)).2
  | [], _, _ => rfl
  | r :: l, q, L => by
    simp only [vPrev, vA, prevOk, fine_formed]
    cases hc : (formedS r.1 r.2 && decide (lead r.1 < lead q.1)) with
    | false => simp
    | true => simp; exact vPrev_vA l r _
theorem vPrev_vA0 (l : List Row) : vPrev none l = (vA l (0, 65536)).2 := by
  cases l with
  | nil => rfl
  | cons r l =>
    simp only [vPrev, vA, prevOk, fine_formed]
    cases hf : formedS r.1 r.2 with
    | false => simp
    | true =>
      simp only [formedS, Bool.and_eq_true, decide_eq_true_eq] at hf
      have := (lead_bd hf.1 hf.2.1).2
      simp [this]; exact vPrev_vA l r _

/-- the leads fall -/
theorem vA_falls : ∀ {l : List Row} {s : Int × Int}, (vA l s).2 = true → (∀ r ∈ l, lead r.1 < s.2) ∧ l.Pairwise fun a b => lead b.1 < lead a.1
  | [], _, _ => ⟨fun r h => (by cases h), .nil⟩
  | r :: l, s, h => by
    simp only [vA] at h
    split at h
    · rename_i hc
      simp only [Bool.and_eq_true, decide_eq_true_eq] at hc
      obtain ⟨h1, h2⟩ := vA_falls h
      refine ⟨fun r' hr => ?_, .cons (fun r' hr => h1 r' hr) h2⟩
      rcases List.mem_cons.1 hr with rfl | hr
      · exact hc.2
      · have := h1 r' hr; simp only at this; omega
    · cases h
theorem or64_bd {a b : Int} (h0 : 0 ≤ a) (h1 : a < 65536) (h2 : 0 ≤ b) (h3 : b < 65536) : 0 ≤ or64 a b ∧ or64 a b < 65536 := by
  rw [or64_eq h0 h1 h2 h3]
  have : a.toNat ||| b.toNat < 2 ^ 16 := Nat.or_lt_two_pow (by omega) (by omega)
  omega
/-- the leads, gathered -/
theorem vA_L : ∀ {l : List Row} {s : Int × Int}, (vA l s).2 = true → 0 ≤ s.1 ∧ s.1 < 65536 → (0 ≤ (vA l s).1.1 ∧ (vA l s).1.1 < 65536) ∧ ∀ k, (vA l s).1.1.toNat.testBit k = (s.1.toNat.testBit k || l.any fun r => top r.1 == k)
  | [], s, _, hs => ⟨hs, fun k => by simp [vA]⟩
  | r :: l, s, h, hs => by
    simp only [vA] at h ⊢
    split at h
    · rename_i hc
      rw [if_pos hc]
      simp only [Bool.and_eq_true, decide_eq_true_eq] at hc
      obtain ⟨m1, m2⟩ := fine_ok hc.1
      have hl := lead_bd m1 m2
      obtain ⟨h1, h2⟩ := vA_L h (or64_bd hs.1 hs.2 hl.1 hl.2)
      refine ⟨h1, fun k => ?_⟩
      rw [h2 k]
      simp only [or64_eq hs.1 hs.2 hl.1 hl.2, Int.toNat_natCast, Nat.testBit_or, lead_nat, Nat.testBit_two_pow, List.any_cons]
      rw [Bool.or_assoc]
      rfl
    · cases h

theorem vInner_iff (i : Nat) (x : Row) : ∀ (l : List Row) (k : Nat), vInner i x k l = true ↔ ∀ (j : Nat) (r : Row), l[j]? = some r → i = k + j ∨ and64 r.1 (lead x.1) = 0
  | [], k => by simp [vInner]
  | r :: l, k => by
    simp only [vInner, Bool.and_eq_true, Bool.or_eq_true, decide_eq_true_eq, beq_iff_eq, vInner_iff i x l (k + 1)]
    constructor
    · rintro ⟨h1, h2⟩ j r' hj
      cases j with
      | zero => simp at hj; subst hj; simpa using h1
      | succ j => have := h2 j r' (by simpa using hj); rcases this with h | h
                  · left; omega
                  · right; exact h
    · intro h
      refine ⟨by simpa using h 0 r rfl, fun j r' hj => ?_⟩
      rcases h (j + 1) r' (by simpa using hj) with h | h
      · left; omega
      · right; exact h
theorem vOuter_iff (all : List Row) : ∀ (l : List Row) (i : Nat), vOuter all i l = true ↔ ∀ (j : Nat) (x : Row), l[j]? = some x → ∀ (k : Nat) (r : Row), all[k]? = some r → i + j = k ∨ and64 r.1 (lead x.1) = 0
  | [], i => by simp [vOuter]
  | x :: l, i => by
    simp only [vOuter, Bool.and_eq_true, vInner_iff, vOuter_iff all l (i + 1)]
    constructor
    · rintro ⟨h1, h2⟩ j y hj k r hk
      cases j with
      | zero => simp at hj; subst hj; simpa using h1 k r hk
      | succ j => rcases h2 j y (by simpa using hj) k r hk with h | h
                  · left; omega
                  · right; exact h
    · intro h
      refine ⟨fun k r hk => by simpa using h 0 x rfl k r hk, fun j y hj k r hk => ?_⟩
      rcases h (j + 1) y (by simpa using hj) k r hk with h | h
      · left; omega
      · right; exact h

/-- what a valid list is -/
structure Good (l : List Row) : Prop where
  ok : ∀ r ∈ l, fine r.1 r.2 = true
  falls : l.Pairwise fun a b => top b.1 < top a.1
  clear : l.Pairwise fun a b => a.1.toNat.testBit (top b.1) = false ∧ b.1.toNat.testBit (top a.1) = false

theorem pairwise_at {α : Type} {R : α → α → Prop} {l : List α} (h : l.Pairwise R) {i k : Nat} {a b : α} (ha : l[i]? = some a) (hb : l[k]? = some b) (hik : i < k) : R a b := by
  obtain ⟨h1, rfl⟩ := List.getElem?_eq_some_iff.1 ha
  obtain ⟨h2, rfl⟩ := List.getElem?_eq_some_iff.1 hb
  exact List.pairwise_iff_getElem.1 h i k h1 h2 hik
theorem pairwise_of {α : Type} {R : α → α → Prop} {l : List α} (h : ∀ (i k : Nat) (a b : α), l[i]? = some a → l[k]? = some b → i < k → R a b) : l.Pairwise R :=
  List.pairwise_iff_getElem.2 fun i k h1 h2 hik => h i k _ _ (List.getElem?_eq_getElem h1) (List.getElem?_eq_getElem h2) hik

theorem and_zero {x m : Int} (hx : okMask (x, [])) (hm : okMask (m, [])) : and64 x (lead m) = 0 ↔ x.toNat.testBit (top m) = false := by
  have := and_lead (x := x) (m := m) ⟨by have := hx.1; simp at this; omega, hx.2⟩ hm.1 hm.2
  cases hb : x.toNat.testBit (top m) <;> rw [hb] at this <;> simpa [bne] using this

theorem validR_good (l : List Row) : validR l = true ↔ Good l := by
  unfold validR
  rw [Bool.and_eq_true, vPrev_vA0, vOuter_iff]
  constructor
  · rintro ⟨h1, h2⟩
    have hf := vA_ok h1
    have hm : ∀ r ∈ l, okMask r := fun r hr => fine_ok (hf r hr)
    obtain ⟨_, h3⟩ := vA_falls h1
    refine ⟨hf, h3.imp fun h => lead_lt.1 h, pairwise_of fun i k a b ha hb hik => ?_⟩
    have ma := hm a (List.mem_of_getElem? ha)
    have mb := hm b (List.mem_of_getElem? hb)
    constructor
    · rcases h2 k b hb i a ha with h | h
      · omega
      · exact (and_zero ma mb).1 h
    · rcases h2 i a ha k b hb with h | h
      · omega
      · exact (and_zero mb ma).1 h
  · rintro ⟨hf, h3, h4⟩
    have hm : ∀ r ∈ l, okMask r := fun r hr => fine_ok (hf r hr)
    refine ⟨?_, fun i x hx k r hk => ?_⟩
    · have key : ∀ (l : List Row) (s : Int × Int), (∀ r ∈ l, fine r.1 r.2 = true) → (l.Pairwise fun a b => top b.1 < top a.1) → (∀ r ∈ l, lead r.1 < s.2) → (vA l s).2 = true := by
        intro l
        induction l with
        | nil => intro s _ _ _; rfl
        | cons r l ih =>
          intro s hf h3 hs
          simp only [vA]
          rw [if_pos (by rw [hf r (List.mem_cons_self ..), decide_eq_true (hs r (List.mem_cons_self ..))]; rfl)]
          have h3' := List.pairwise_cons.1 h3
          exact ih _ (fun r' hr => hf r' (List.mem_cons_of_mem _ hr)) h3'.2 fun r' hr => lead_lt.2 (h3'.1 r' hr)
      exact key l _ hf h3 fun r hr => (lead_bd (hm r hr).1 (hm r hr).2).2
    · have mx := hm x (List.mem_of_getElem? hx)
      have mr := hm r (List.mem_of_getElem? hk)
      rcases Nat.lt_trichotomy i k with h | h | h
      · exact .inr ((and_zero mr mx).2 (pairwise_at h4 hx hk h).2)
      · left; omega
      · exact .inr ((and_zero mr mx).2 (pairwise_at h4 hk hx h).1)

theorem validS_good (l : List Row) : validS l = true ↔ Good l := by
  unfold validS
  rw [Bool.and_eq_true]
  have hall : ∀ L : Int, vB L l = true ↔ ∀ r ∈ l, and64 r.1 L = lead r.1 := by
    intro L; unfold vB; rw [List.all_eq_true]; simp
  have key : (vA l (0, 65536)).2 = true → (l.Pairwise fun a b => top b.1 < top a.1) → (vB (vA l (0, 65536)).1.1 l = true ↔ l.Pairwise fun a b => a.1.toNat.testBit (top b.1) = false ∧ b.1.toNat.testBit (top a.1) = false) := by
    intro h1 h3
    have hm : ∀ r ∈ l, okMask r := fun r hr => fine_ok (vA_ok h1 r hr)
    obtain ⟨hL, hb⟩ := vA_L h1 (by decide)
    rw [hall]
    generalize (vA l (0, 65536)).1.1 = L at hL hb
    have hand : ∀ r ∈ l, (and64 r.1 L = lead r.1 ↔ ∀ k, (r.1.toNat.testBit k && l.any fun s => top s.1 == k) = decide (top r.1 = k)) := by
      intro r hr
      rw [and64_eq (by have := (hm r hr).1; omega) (hm r hr).2 hL.1 hL.2, lead_eq]
      constructor
      · intro h k
        have h' : r.1.toNat &&& L.toNat = 2 ^ top r.1 := by omega
        have := congrArg (fun n => n.testBit k) h'
        simp only [Nat.testBit_and, hb k, Nat.testBit_two_pow] at this
        simpa using this
      · intro h
        congr 1
        apply Nat.eq_of_testBit_eq
        intro k
        simp only [Nat.testBit_and, hb k, Nat.testBit_two_pow]
        simpa using h k
    constructor
    · intro h
      refine pairwise_of fun i k a b ha hb' hik => ?_
      have hab := pairwise_at h3 ha hb' hik
      have ma := List.mem_of_getElem? ha
      have mb := List.mem_of_getElem? hb'
      have e1 := (hand a ma).1 (h a ma) (top b.1)
      have e2 := (hand b mb).1 (h b mb) (top a.1)
      have f1 : (l.any fun s => top s.1 == top b.1) = true := List.any_eq_true.2 ⟨b, mb, by simp⟩
      have f2 : (l.any fun s => top s.1 == top a.1) = true := List.any_eq_true.2 ⟨a, ma, by simp⟩
      rw [f1, Bool.and_true] at e1
      rw [f2, Bool.and_true] at e2
      exact ⟨by rw [e1]; simp; omega, by rw [e2]; simp; omega⟩
    · intro h r hr
      rw [hand r hr]
      intro k
      by_cases hk : top r.1 = k
      · subst hk
        rw [top_bit (hm r hr).1, decide_eq_true rfl, Bool.true_and]
        exact List.any_eq_true.2 ⟨r, hr, by simp⟩
      · rw [decide_eq_false hk]
        cases hx : (l.any fun s => top s.1 == k) with
        | false => simp
        | true =>
          obtain ⟨s, hs, hsk⟩ := List.any_eq_true.1 hx
          have hsk : top s.1 = k := by simpa using hsk
          obtain ⟨i, hi⟩ := List.mem_iff_getElem?.1 hr
          obtain ⟨j, hj⟩ := List.mem_iff_getElem?.1 hs
          rw [Bool.and_true, ← hsk]
          rcases Nat.lt_trichotomy i j with h' | h' | h'
          · exact (pairwise_at h hi hj h').1
          · subst h'; rw [hi] at hj; cases hj; exact absurd hsk hk
          · exact (pairwise_at h hj hi h').2
  constructor
  · rintro ⟨h1, h2⟩
    obtain ⟨_, h3⟩ := vA_falls h1
    have h3' : l.Pairwise fun a b => top b.1 < top a.1 := h3.imp fun h => lead_lt.1 h
    exact ⟨vA_ok h1, h3', (key h1 h3').1 h2⟩
  · intro h
    have h1 : (vA l (0, 65536)).2 = true := by
      have := (validR_good l).2 h
      unfold validR at this
      rw [Bool.and_eq_true, vPrev_vA0] at this
      exact this.1
    exact ⟨h1, (key h1 h.falls).2 h.clear⟩
theorem validR_eq (l : List Row) : validR l = validS l := by
  rw [Bool.eq_iff_iff, validR_good, validS_good]
end Go.Proofs.Ytgdeoaiakdkhcaa.Am

namespace Go.Proofs.Ytgdeoaiakdkhcaa.Am
set_option linter.unusedVariables false
open Go Go.RowKit Go.Proofs

/-! ### single blocks -/
theorem Good.mask {l : List Row} (h : Good l) : ∀ r ∈ l, okMask r := fun r hr => fine_ok (h.ok r hr)
theorem Good.tail {r : Row} {l : List Row} (h : Good (r :: l)) : Good l :=
  ⟨fun s hs => h.ok s (List.mem_cons_of_mem _ hs), (List.pairwise_cons.1 h.falls).2, (List.pairwise_cons.1 h.clear).2⟩
theorem Good.uniq : ∀ {l : List Row}, Good l → ∀ {r s : Row}, r ∈ l → s ∈ l → top r.1 = top s.1 → r = s
  | x :: l, h, r, s, hr, hs, e => by
    have hf := (List.pairwise_cons.1 h.falls).1
    rcases List.mem_cons.1 hr with h1 | h1 <;> rcases List.mem_cons.1 hs with h2 | h2
    · rw [h1, h2]
    · have := hf s h2; rw [h1] at e; omega
    · have := hf r h1; rw [h2] at e; omega
    · exact Good.uniq h.tail h1 h2 e

theorem fold_skip {ι : Type} : ∀ (l : List (ι × (ι → Bool))) (v : ι → Bool), (∀ r ∈ l, v r.1 = false) → l.foldl redV v = v
  | [], v, _ => rfl
  | r :: l, v, h => by
    rw [List.foldl_cons]
    have : redV v r = v := by unfold redV; rw [h r (List.mem_cons_self ..)]; rfl
    rw [this]
    exact fold_skip l v fun s hs => h s (List.mem_cons_of_mem _ hs)
theorem fold_one : ∀ {l : List Row}, Good l → ∀ {r : Row} (v : Ix → Bool), r ∈ l → v (.inl (top r.1)) = true → (∀ s ∈ l, top s.1 ≠ top r.1 → v (.inl (top s.1)) = false) →
    (l.map rowV).foldl redV v = vx v (rowV r).2
  | x :: l, h, r, v, hr, hv, hz => by
    rw [List.map_cons, List.foldl_cons]
    have hf := (List.pairwise_cons.1 h.falls).1
    have hc := (List.pairwise_cons.1 h.clear).1
    rcases List.mem_cons.1 hr with rfl | hr
    · have : redV v (rowV r) = vx v (rowV r).2 := by
        unfold redV
        have : v (rowV r).1 = true := hv
        rw [this]; rfl
      rw [this]
      refine fold_skip _ _ fun t ht => ?_
      obtain ⟨s, hs, rfl⟩ := List.mem_map.1 ht
      show (v (.inl (top s.1)) ^^ (vec (r.1, pad r.2)) (.inl (top s.1))) = false
      have h1 := hf s hs
      rw [hz s (List.mem_cons_of_mem _ hs) (by omega)]
      have h2 := (hc s hs).1
      simpa [vec] using h2
    · have h1 := hf r hr
      have : redV v (rowV x) = v := by
        unfold redV
        have : v (rowV x).1 = false := hz x (List.mem_cons_self ..) (by omega)
        rw [this]; rfl
      rw [this]
      exact fold_one h.tail v hr hv fun s hs => hz s (List.mem_cons_of_mem _ hs)

def two (i : Nat) : Int := ((2 ^ i : Nat) : Int)
theorem two_bd {i : Nat} (h : i < 16) : 1 ≤ two i ∧ two i < 65536 := by
  have h1 := Nat.two_pow_pos i
  have h2 := Nat.pow_lt_pow_right (a := 2) (by omega) h
  unfold two; omega
theorem two_testBit (i k : Nat) : (two i).toNat.testBit k = decide (i = k) := by
  show (2 ^ i).testBit k = _
  rw [Nat.testBit_two_pow]
theorem top_two (i : Nat) : top (two i) = i := by
  show (2 ^ i).log2 = i
  exact Nat.log2_two_pow
theorem bit_two {i : Nat} (h : i < 16) : bit (i : Int) = two i := by
  have := two_bd h
  unfold bit
  have e : min (Int.toNat (i : Int)) 64 = i := by rw [Int.toNat_natCast]; omega
  rw [e, Int.one_mul]
  have e2 : (2 : Int) ^ i = two i := by simp [two]
  rw [e2, wrap_i64 (by omega) (by omega)]

theorem canon_pad {p : List Int} (h : ∀ x ∈ p, 0 ≤ x ∧ x < 256) : canon (pad p) := by
  intro i hi
  unfold nth
  rw [List.getD_eq_getElem?_getD]
  cases he : (pad p)[i]? with
  | none => simp
  | some x =>
    have := List.mem_of_getElem? he
    unfold pad at this
    have := List.mem_of_mem_take this
    rcases List.mem_append.1 this with h' | h'
    · exact h x h'
    · simp at h'; subst h'; simp

theorem find_uniq {l : List Row} (h : Good l) {r : Row} (hr : r ∈ l) {i : Nat} (hi : i < 16) (he : r.1 = two i) : findS l (i : Int) = some r := by
  unfold findS
  rw [bit_two hi]
  cases hf : l.find? fun r => r.1 == two i with
  | none =>
    have := List.find?_eq_none.1 hf r hr
    simp [he] at this
  | some s =>
    have h1 := List.find?_some hf
    have h2 := List.mem_of_find?_eq_some hf
    have h1 : s.1 = two i := by simpa using h1
    rw [h.uniq h2 hr (by rw [h1, he])]
theorem find_none {l : List Row} {i : Nat} (hi : i < 16) (h : ∀ r ∈ l, r.1 ≠ two i) : findS l (i : Int) = none := by
  unfold findS
  rw [bit_two hi]
  exact List.find?_eq_none.2 fun r hr => by simpa using h r hr

theorem solved_sum {l : List Row} (hg : Good l) (hb : ∀ r ∈ l, ∀ x ∈ r.2, 0 ≤ x ∧ x < 256) {i : Nat} (hi : i < 16) : solvedS l (i : Int) = sumS l (two i) := by
  have hv := (validS_good l).2 hg
  obtain ⟨t1, t2⟩ := two_bd hi
  rw [sumS_def (by omega) t2 hv]
  have e0 : solvedS l (i : Int) = if (findS l (i : Int)).isSome then (foundS l (i : Int), true) else ([], false) := by
    unfold solvedS
    rw [decide_eq_false (by omega), decide_eq_false (by omega), hv]; rfl
  rw [e0]
  have hx : 0 ≤ (two i, ([] : List Int)).1 ∧ (two i, ([] : List Int)).1 < 65536 := ⟨by simp only; omega, t2⟩
  have hF := vec_foldl hx hg.mask
  have hbd := foldl_red_bd hx hg.mask
  have hcan : canon (l.foldl red (two i, [])).2 := canon_foldl canon_nil
  by_cases hr : ∃ r ∈ l, top r.1 = i
  · obtain ⟨r, hr, hti⟩ := hr
    have hm := hg.mask r hr
    have e1 : (l.map rowV).foldl redV (vec (two i, [])) = vx (vec (two i, [])) (vec (r.1, pad r.2)) := by
      refine fold_one hg _ hr ?_ fun s _ hs => ?_
      · show (two i).toNat.testBit _ = true
        rw [two_testBit, hti]; simp
      · show (two i).toNat.testBit _ = false
        rw [two_testBit]; simp; omega
    rw [e1, ← vec_xor (by omega) t2 (by have := hm.1; omega) hm.2] at hF
    have b4 := xor64_bd (a := two i) (b := r.1) (by omega) t2 (by have := hm.1; omega) hm.2
    have h1 := vec_inl hbd.1 b4.1 hF
    have hz := xor64_zero (a := two i) (b := r.1) ⟨by omega, t2⟩ ⟨by have := hm.1; omega, hm.2⟩
    have h1' : (l.foldl red (two i, [])).1 = xor64 (two i) r.1 := h1
    by_cases he : r.1 = two i
    · have h2 : (l.foldl red (two i, [])).1 = 0 := by rw [h1']; exact hz.2 he.symm
      rw [find_uniq hg hr hi he, if_pos (by rfl), if_neg (by simp [h2])]
      have e2 : foundS l (i : Int) = b16 (pad r.2) := by unfold foundS; rw [find_uniq hg hr hi he]
      rw [e2]
      congr 1
      refine list16 (b16_len _) (b16_len _) fun j hj => ?_
      rw [nth_b16 hj, nth_b16 hj]
      refine ofInt8_inj (canon_pad (hb r hr) j hj) (hcan j hj) ?_
      have := vec_inr hF hj
      rw [this]
      show _ = BitVec.ofInt 8 (nth (xorL [] (pad r.2)) j)
      rw [nth_xorL hj, ofInt_xor8]; simp [nth]
    · have h2 : ¬ (l.foldl red (two i, [])).1 = 0 := by rw [h1']; exact fun h => he (hz.1 h).symm
      rw [find_none hi fun s hs h => he (by rw [hg.uniq hr hs (by rw [hti, h, top_two])]; exact h), if_neg (by simp), if_pos (by simpa using h2)]
  · have e1 : (l.map rowV).foldl redV (vec (two i, [])) = vec (two i, []) := by
      refine fold_skip _ _ fun t ht => ?_
      obtain ⟨s, hs, rfl⟩ := List.mem_map.1 ht
      show (two i).toNat.testBit _ = false
      rw [two_testBit]
      have : top s.1 ≠ i := fun h => hr ⟨s, hs, h⟩
      simp; omega
    rw [e1] at hF
    have h1 : (l.foldl red (two i, [])).1 = two i := vec_inl hbd.1 (by simp only; omega) hF
    rw [find_none hi fun s hs h => hr ⟨s, hs, by rw [h, top_two]⟩, if_neg (by simp), if_pos (by rw [h1]; simp; omega)]

/-! ### sixteen rows -/
theorem falls_len : ∀ {l : List Row} {n : Nat}, (l.Pairwise fun a b => top b.1 < top a.1) → (∀ r ∈ l, top r.1 < n) → l.length ≤ n ∧ (l.length = n → ∀ i, i < n → ∃ r ∈ l, top r.1 = i)
  | [], n, _, _ => ⟨by simp, fun h i hi => by simp at h; omega⟩
  | r :: l, n, hp, hn => by
    obtain ⟨h1, h2⟩ := List.pairwise_cons.1 hp
    obtain ⟨h3, h4⟩ := falls_len (l := l) (n := top r.1) h2 fun s hs => h1 s hs
    have h5 := hn r (List.mem_cons_self ..)
    refine ⟨by simp; omega, fun h i hi => ?_⟩
    simp at h
    by_cases hi' : i = top r.1
    · exact ⟨r, List.mem_cons_self .., hi'.symm⟩
    · obtain ⟨s, hs, e⟩ := h4 (by omega) i (by omega)
      exact ⟨s, List.mem_cons_of_mem _ hs, e⟩
theorem Good.len {l : List Row} (h : Good l) : l.length ≤ 16 := (falls_len h.falls fun r hr => top_lt (h.mask r hr).1 (h.mask r hr).2).1
theorem Good.full {l : List Row} (h : Good l) (hl : l.length = 16) {i : Nat} (hi : i < 16) : ∃ r ∈ l, r.1 = two i := by
  have hall := (falls_len h.falls fun r hr => top_lt (h.mask r hr).1 (h.mask r hr).2).2 hl
  obtain ⟨r, hr, e⟩ := hall i hi
  refine ⟨r, hr, ?_⟩
  have hm := h.mask r hr
  have : r.1.toNat = (two i).toNat := by
    apply Nat.eq_of_testBit_eq
    intro k
    rw [two_testBit]
    by_cases hk : i = k
    · subst hk; rw [← e, top_bit hm.1]; simp
    · rw [decide_eq_false hk]
      by_cases h16 : k < 16
      · obtain ⟨s, hs, e2⟩ := hall k h16
        obtain ⟨a, ha⟩ := List.mem_iff_getElem?.1 hr
        obtain ⟨b, hb⟩ := List.mem_iff_getElem?.1 hs
        rw [← e2]
        rcases Nat.lt_trichotomy a b with h' | h' | h'
        · exact (pairwise_at h.clear ha hb h').1
        · subst h'; rw [ha] at hb; cases hb; omega
        · exact (pairwise_at h.clear hb ha h').2
      · apply Nat.testBit_lt_two_pow
        have : 2 ^ 16 ≤ 2 ^ k := Nat.pow_le_pow_right (by omega) (by omega)
        have := hm.2
        omega
  have := (two_bd hi).1
  have := hm.1
  omega
end Go.Proofs.Ytgdeoaiakdkhcaa.Am

namespace Go.Proofs.Ytgdeoaiakdkhcaa.Am
set_option linter.unusedVariables false
open Go Go.RowKit Go.Proofs

/-! ### a row is put in -/
theorem vx_self {ι : Type} (u : ι → Bool) : vx u u = fun _ => false := by funext i; simp [vx]
theorem vx_assoc {ι : Type} (u v w : ι → Bool) : vx (vx u v) w = vx u (vx v w) := by funext i; simp [vx]
theorem vx_zero {ι : Type} (u : ι → Bool) : vx u (fun _ => false) = u := by funext i; simp [vx]
theorem zero_vx {ι : Type} (u : ι → Bool) : vx (fun _ => false) u = u := by funext i; simp [vx]

/-- a fold that kills the rows of another one does not see it -/
theorem fold_kill {ι : Type} (g : List (ι × (ι → Bool))) : ∀ (l : List (ι × (ι → Bool))) (v : ι → Bool), (∀ r ∈ l, g.foldl redV r.2 = fun _ => false) → g.foldl redV (l.foldl redV v) = g.foldl redV v
  | [], v, _ => rfl
  | r :: l, v, h => by
    rw [List.foldl_cons, fold_kill g l _ fun s hs => h s (List.mem_cons_of_mem _ hs)]
    have e : redV v r = if v r.1 then vx v r.2 else v := rfl
    rw [e]
    split
    · rw [foldV_vx, h r (List.mem_cons_self ..), vx_zero]
    · rfl

/-- a fold clears the places of its rows -/
theorem fold_clear : ∀ {l : List Row}, Good l → ∀ (v : Ix → Bool), ∀ r ∈ l, ((l.map rowV).foldl redV v) (.inl (top r.1)) = false
  | x :: l, h, v, r, hr => by
    rw [List.map_cons, List.foldl_cons]
    have hc := (List.pairwise_cons.1 h.clear).1
    rcases List.mem_cons.1 hr with rfl | hr
    · -- its own place stays clear
      have h0 : (redV v (rowV r)) (.inl (top r.1)) = false := by
        unfold redV
        show (if v (.inl (top r.1)) = true then vx v (vec (r.1, pad r.2)) else v) (.inl (top r.1)) = false
        cases hv : v (.inl (top r.1)) with
        | false => simpa using hv
        | true =>
          show (v (.inl (top r.1)) ^^ vec (r.1, pad r.2) (.inl (top r.1))) = false
          have : vec (r.1, pad r.2) (.inl (top r.1)) = true := top_bit (h.mask r (List.mem_cons_self ..)).1
          rw [hv, this]; rfl
      have keep : ∀ (t : List Row), (∀ s ∈ t, s.1.toNat.testBit (top r.1) = false) → ∀ v : Ix → Bool, v (.inl (top r.1)) = false → ((t.map rowV).foldl redV v) (.inl (top r.1)) = false := by
        intro t
        induction t with
        | nil => intro _ v hv; exact hv
        | cons s t ih =>
          intro ht v hv
          rw [List.map_cons, List.foldl_cons]
          refine ih (fun s' hs => ht s' (List.mem_cons_of_mem _ hs)) _ ?_
          unfold redV
          split
          · show (v (.inl (top r.1)) ^^ vec (s.1, pad s.2) (.inl (top r.1))) = false
            have : vec (s.1, pad s.2) (.inl (top r.1)) = false := ht s (List.mem_cons_self ..)
            rw [hv, this]; rfl
          · exact hv
      exact keep l (fun s hs => (hc s hs).2) _ h0
    · exact fold_clear h.tail _ r hr
theorem fold_self {l : List Row} (h : Good l) {r : Row} (hr : r ∈ l) : (l.map rowV).foldl redV (rowV r).2 = fun _ => false := by
  rw [fold_one h (rowV r).2 hr (top_bit (h.mask r hr).1) fun s hs hne => ?_, vx_self]
  show r.1.toNat.testBit (top s.1) = false
  obtain ⟨a, ha⟩ := List.mem_iff_getElem?.1 hr
  obtain ⟨b, hb⟩ := List.mem_iff_getElem?.1 hs
  rcases Nat.lt_trichotomy a b with h' | h' | h'
  · exact (pairwise_at h.clear ha hb h').1
  · subst h'; rw [ha] at hb; cases hb; exact absurd rfl hne
  · exact (pairwise_at h.clear hb ha h').2
end Go.Proofs.Ytgdeoaiakdkhcaa.Am

namespace Go.Proofs.Ytgdeoaiakdkhcaa.Am
set_option linter.unusedVariables false
open Go Go.RowKit Go.Proofs

/-! ### the insertion -/
def upd (x r : Row) : Row := if and64 r.1 (lead x.1) != 0 then (xor64 r.1 x.1, b16 (xorL (pad r.2) x.2)) else (r.1, b16 (pad r.2))
def fin (x : Row) : Row := (x.1, b16 x.2)
def insS (x : Row) : List Row → List Row
  | [] => [fin x]
  | r :: t => if lead r.1 < lead x.1 then fin x :: (r :: t).map (upd x) else upd x r :: insS x t
theorem stepB_t (x : Row) : ∀ (l acc : List Row), l.foldl (stepB x) (acc, true) = (acc ++ l.map (upd x), true)
  | [], acc => by simp
  | r :: l, acc => by
    rw [List.foldl_cons]
    have : stepB x (acc, true) r = (acc ++ [upd x r], true) := by simp [stepB, upd]
    rw [this, stepB_t x l]; simp
theorem stepB_f (x : Row) : ∀ (l acc : List Row), (let s := l.foldl (stepB x) (acc, false); if !s.2 then s.1 ++ [fin x] else s.1) = acc ++ insS x l
  | [], acc => by simp [insS]
  | r :: l, acc => by
    rw [List.foldl_cons]
    by_cases h : lead r.1 < lead x.1
    · have : stepB x (acc, false) r = (acc ++ [fin x] ++ [upd x r], true) := by simp [stepB, upd, fin, h]
      rw [this, stepB_t x l]; simp [insS, h]
    · have : stepB x (acc, false) r = (acc ++ [upd x r], false) := by simp [stepB, upd, h]
      rw [this]
      have := stepB_f x l (acc ++ [upd x r])
      rw [this]; simp [insS, h]
theorem ins_mem {x r : Row} : ∀ {l : List Row}, r ∈ insS x l ↔ r = fin x ∨ ∃ s ∈ l, r = upd x s
  | [] => by simp [insS]
  | s :: t => by
    unfold insS
    split
    · simp [eq_comm]
    · rw [List.mem_cons, ins_mem (l := t)]
      simp only [List.mem_cons, exists_eq_or_imp]
      constructor
      · rintro (h | h | h)
        · exact .inr (.inl h)
        · exact .inl h
        · exact .inr (.inr h)
      · rintro (h | h | h)
        · exact .inr (.inl h)
        · exact .inl h
        · exact .inr (.inr h)
theorem ins_len (x : Row) : ∀ l : List Row, (insS x l).length = l.length + 1
  | [] => rfl
  | r :: t => by unfold insS; split <;> simp [ins_len x t]

theorem top_of {m : Int} {k : Nat} (h1 : m.toNat.testBit k = true) (h2 : ∀ j, k < j → m.toNat.testBit j = false) : top m = k := by
  refine log2_eq (Nat.ge_two_pow_of_testBit h1) (Nat.lt_pow_two_of_testBit _ fun j hj => h2 j (by omega))
theorem high_bit {m : Int} (h0 : 1 ≤ m) {j : Nat} (h : top m < j) : m.toNat.testBit j = false := by
  have h2 := (log2_bounds (n := m.toNat) (by omega)).2
  exact Nat.testBit_lt_two_pow (Nat.lt_of_lt_of_le h2 (Nat.pow_le_pow_right (by omega) h))

theorem upd_bit {x r : Row} (hx : okMask x) (hr : okMask r) (k : Nat) : (upd x r).1.toNat.testBit k = (r.1.toNat.testBit k ^^ (r.1.toNat.testBit (top x.1) && x.1.toNat.testBit k)) := by
  unfold upd
  rw [and_lead ⟨by have := hr.1; omega, hr.2⟩ hx.1 hx.2]
  cases hb : r.1.toNat.testBit (top x.1) with
  | false => simp
  | true =>
    simp only [if_true]
    rw [xor64_eq (by have := hr.1; omega) hr.2 (by have := hx.1; omega) hx.2, Int.toNat_natCast, Nat.testBit_xor]; simp
theorem upd_top {x r : Row} (hx : okMask x) (hr : okMask r) (hc : x.1.toNat.testBit (top r.1) = false) : top (upd x r).1 = top r.1 := by
  have hne : top x.1 ≠ top r.1 := fun h => by rw [← h, top_bit hx.1] at hc; cases hc
  refine top_of ?_ fun j hj => ?_
  · rw [upd_bit hx hr, top_bit hr.1, hc]; simp
  · rw [upd_bit hx hr, high_bit hr.1 hj]
    cases hb : r.1.toNat.testBit (top x.1) with
    | false => simp
    | true =>
      have : top x.1 ≤ top r.1 := by
        rcases Nat.lt_or_ge (top r.1) (top x.1) with h | h
        · rw [high_bit hr.1 h] at hb; cases hb
        · exact h
      rw [high_bit hx.1 (by omega)]; simp
theorem upd_bd {x r : Row} (hx : okMask x) (hr : okMask r) (hc : x.1.toNat.testBit (top r.1) = false) : okMask (upd x r) := by
  have hb : 0 ≤ (upd x r).1 ∧ (upd x r).1 < 65536 := by
    unfold upd; split
    · exact xor64_bd (by have := hr.1; omega) hr.2 (by have := hx.1; omega) hx.2
    · exact ⟨by have := hr.1; simp only; omega, hr.2⟩
  have : (upd x r).1.toNat ≠ 0 := by
    intro h
    have h1 := upd_bit hx hr (top r.1)
    rw [h, top_bit hr.1, hc] at h1
    simp at h1
  exact ⟨by omega, hb.2⟩
theorem upd_len (x r : Row) : (upd x r).2.length = 16 := by
  unfold upd; split <;> exact b16_len _
theorem pad16 {p : List Int} (h : p.length = 16) : pad p = p := by
  unfold pad
  rw [List.take_append_of_le_length (by omega), List.take_of_length_le (by omega)]
theorem vec_b16 (m : Int) (p : List Int) : vec (m, b16 p) = vec (m, p) := by
  funext i
  cases i with
  | inl k => rfl
  | inr ij =>
    obtain ⟨i, j⟩ := ij
    simp only [vec]
    by_cases h : i < 16
    · rw [nth_b16 h]
    · simp [h]
theorem upd_vec {x r : Row} (hx : okMask x) (hr : okMask r) : (rowV (upd x r)).2 = if r.1.toNat.testBit (top x.1) then vx (rowV r).2 (vec x) else (rowV r).2 := by
  unfold rowV
  rw [pad16 (upd_len x r)]
  unfold upd
  rw [and_lead ⟨by have := hr.1; omega, hr.2⟩ hx.1 hx.2]
  split
  · simp only
    rw [vec_b16, vec_xor (by have := hr.1; omega) hr.2 (by have := hx.1; omega) hx.2]
  · simp only
    rw [vec_b16]
end Go.Proofs.Ytgdeoaiakdkhcaa.Am

namespace Go.Proofs.Ytgdeoaiakdkhcaa.Am
set_option linter.unusedVariables false
open Go Go.RowKit Go.Proofs

theorem fine_of {r : Row} (h : okMask r) (hl : r.2.length = 16) : fine r.1 r.2 = true := by
  unfold fine
  rw [decide_eq_true h.1, decide_eq_true h.2, hl]; rfl
def Apart (a b : Row) : Prop := a.1.toNat.testBit (top b.1) = false ∧ b.1.toNat.testBit (top a.1) = false

section
variable {x : Row} {l : List Row}
theorem upd_apart {r s : Row} (hx : okMask x) (hr : okMask r) (hs : okMask s) (cr : x.1.toNat.testBit (top r.1) = false) (cs : x.1.toNat.testBit (top s.1) = false) (h : Apart r s) : Apart (upd x r) (upd x s) := by
  unfold Apart
  rw [upd_top hx hr cr, upd_top hx hs cs, upd_bit hx hr, upd_bit hx hs, h.1, h.2, cr, cs]; simp
theorem fin_apart {s : Row} (hx : okMask x) (hs : okMask s) (cs : x.1.toNat.testBit (top s.1) = false) : Apart (fin x) (upd x s) := by
  unfold Apart
  rw [upd_top hx hs cs, upd_bit hx hs]
  refine ⟨cs, ?_⟩
  show (_ ^^ (_ && x.1.toNat.testBit (top x.1))) = false
  rw [top_bit hx.1]
  show (s.1.toNat.testBit (top x.1) ^^ (s.1.toNat.testBit (top x.1) && true)) = false
  simp
theorem Apart.symm {a b : Row} (h : Apart a b) : Apart b a := ⟨h.2, h.1⟩

theorem upd_map (hx : okMask x) (hg : Good l) (hc : ∀ r ∈ l, x.1.toNat.testBit (top r.1) = false) : (l.map (upd x)).Pairwise fun a b => top b.1 < top a.1 ∧ Apart a b := by
  rw [List.pairwise_map]
  refine (List.Pairwise.and hg.falls hg.clear).imp_of_mem fun {a b} ha hb h => ?_
  rw [upd_top hx (hg.mask a ha) (hc a ha), upd_top hx (hg.mask b hb) (hc b hb)]
  exact ⟨h.1, upd_apart hx (hg.mask a ha) (hg.mask b hb) (hc a ha) (hc b hb) h.2⟩

theorem ins_pair (hx : okMask x) : ∀ {l : List Row}, Good l → (∀ r ∈ l, x.1.toNat.testBit (top r.1) = false) → (insS x l).Pairwise fun a b => top b.1 < top a.1 ∧ Apart a b
  | [], _, _ => by simp [insS]
  | r :: t, hg, hc => by
    have hr := hg.mask r (List.mem_cons_self ..)
    have cr := hc r (List.mem_cons_self ..)
    have hf := (List.pairwise_cons.1 hg.falls).1
    unfold insS
    split
    · rename_i h
      refine List.pairwise_cons.2 ⟨fun b hb => ?_, upd_map hx hg hc⟩
      obtain ⟨s, hs, rfl⟩ := List.mem_map.1 hb
      have hs' := hg.mask s hs
      rw [upd_top hx hs' (hc s hs)]
      refine ⟨?_, fin_apart hx hs' (hc s hs)⟩
      have h1 := lead_lt.1 h
      show top s.1 < top x.1
      rcases List.mem_cons.1 hs with rfl | hs
      · exact h1
      · have := hf s hs; omega
    · rename_i h
      refine List.pairwise_cons.2 ⟨fun b hb => ?_, ins_pair hx hg.tail fun s hs => hc s (List.mem_cons_of_mem _ hs)⟩
      rw [upd_top hx hr cr]
      rcases ins_mem.1 hb with rfl | ⟨s, hs, rfl⟩
      · refine ⟨?_, (fin_apart hx hr cr).symm⟩
        show top x.1 < top r.1
        have h1 : ¬ top r.1 < top x.1 := fun h' => h (lead_lt.2 h')
        have h2 : top x.1 ≠ top r.1 := fun h' => by rw [← h', top_bit hx.1] at cr; cases cr
        omega
      · have hs' := hg.mask s (List.mem_cons_of_mem _ hs)
        have cs := hc s (List.mem_cons_of_mem _ hs)
        rw [upd_top hx hs' cs]
        exact ⟨hf s hs, upd_apart hx hr hs' cr cs ((List.pairwise_cons.1 hg.clear).1 s hs)⟩

theorem ins_good (hx : okMask x) (hg : Good l) (hc : ∀ r ∈ l, x.1.toNat.testBit (top r.1) = false) : Good (insS x l) := by
  have hp := ins_pair hx hg hc
  refine ⟨fun r hr => ?_, hp.imp fun h => h.1, hp.imp fun h => h.2⟩
  rcases ins_mem.1 hr with rfl | ⟨s, hs, rfl⟩
  · exact fine_of hx (b16_len _)
  · exact fine_of (upd_bd hx (hg.mask s hs) (hc s hs)) (upd_len x s)

/-- the new rows kill the old ones -/
theorem ins_kill (hx : okMask x) (hg : Good l) (hc : ∀ r ∈ l, x.1.toNat.testBit (top r.1) = false) :
    (((insS x l).map rowV).foldl redV (vec x) = fun _ => false) ∧ ∀ r ∈ l, ((insS x l).map rowV).foldl redV (rowV r).2 = fun _ => false := by
  have hG := ins_good hx hg hc
  have h1 : ((insS x l).map rowV).foldl redV (vec x) = fun _ => false := by
    have := fold_self hG (r := fin x) (ins_mem.2 (.inl rfl))
    have e : (rowV (fin x)).2 = vec x := by
      show vec (x.1, pad (b16 x.2)) = _
      rw [pad16 (b16_len _), vec_b16]
    rwa [e] at this
  refine ⟨h1, fun r hr => ?_⟩
  have h2 := fold_self hG (r := upd x r) (ins_mem.2 (.inr ⟨r, hr, rfl⟩))
  rw [upd_vec hx (hg.mask r hr)] at h2
  split at h2
  · rw [foldV_vx, h1, vx_zero] at h2; exact h2
  · exact h2
end
end Go.Proofs.Ytgdeoaiakdkhcaa.Am

namespace Go.Proofs.Ytgdeoaiakdkhcaa.Am
set_option linter.unusedVariables false
open Go Go.RowKit Go.Proofs

theorem b16_id {p : List Int} (h : p.length = 16) : b16 p = p := list16 (b16_len _) h fun i hi => nth_b16 hi
theorem keep_id {l : List Row} (hg : Good l) : l.map keepR = l := by
  have : ∀ r ∈ l, keepR r = r := by
    intro r hr
    have := hg.ok r hr
    rw [fine_formed] at this
    simp only [formedS, Bool.and_eq_true, decide_eq_true_eq] at this
    unfold keepR
    rw [pad16 this.2.2, b16_id this.2.2]
  exact (List.map_congr_left this).trans (List.map_id _)

theorem vec_split (m : Int) (b : List Int) : vec (m, b) = vx (vec (m, [])) (vec (0, b)) := by
  funext i
  cases i with
  | inl k => simp [vec, vx]
  | inr ij => obtain ⟨i, j⟩ := ij; simp [vec, vx, nth]
theorem fold_bytes {l : List Row} (b : List Int) : (l.map rowV).foldl redV (vec (0, b)) = vec (0, b) := by
  refine fold_skip _ _ fun t ht => ?_
  obtain ⟨s, _, rfl⟩ := List.mem_map.1 ht
  show (0 : Int).toNat.testBit _ = false
  simp

/-- what Add comes to, beside Sum -/
theorem add_law {l : List Row} (hg : Good l) {m : Int} {b : List Int} (hm : 1 ≤ m ∧ m < 65536) (hl : b.length = 16) (hb : ∀ x ∈ b, 0 ≤ x ∧ x < 256) :
    ((sumS l m).2 = true ∧ (sumS l m).1 ≠ b ∧ addS l m b = ([], false, 12)) ∨
    ((sumS l m) = (b, true) ∧ addS l m b = (l, false, 0)) ∨
    ((sumS l m).2 = false ∧ ∃ x : Row, okMask x ∧ addS l m b = (insS x l, true, 0) ∧ Good (insS x l) ∧ sumS (insS x l) m = (b, true) ∧ vec x = (l.map rowV).foldl redV (vec (m, b)) ∧ (∀ r ∈ l, x.1.toNat.testBit (top r.1) = false) ∧ canon x.2) := by
  have hv := (validS_good l).2 hg
  have hp : pad b = b := pad16 hl
  have hcb : canon b := hp ▸ canon_pad hb
  have hfine : fine m b = true := fine_of (r := (m, b)) hm hl
  have hx0 : 0 ≤ (m, b).1 ∧ (m, b).1 < 65536 := ⟨by simp only; omega, hm.2⟩
  have hu0 : 0 ≤ (m, ([] : List Int)).1 ∧ (m, ([] : List Int)).1 < 65536 := ⟨by simp only; omega, hm.2⟩
  have ea : addS l m b = (if (l.foldl red (m, b)).1 == 0 && zero16 (l.foldl red (m, b)).2 then (l.map keepR, false, 0) else if (l.foldl red (m, b)).1 == 0 then ([], false, 12) else (insS (l.foldl red (m, b)) l, true, 0)) := by
    unfold addS
    rw [hv, hfine, hp]
    have := stepB_f (l.foldl red (m, b)) l []
    simp only [List.nil_append] at this
    simp only [Bool.not_true, Bool.or_self, Bool.false_eq_true, if_false]
    rw [← this]; rfl
  rw [ea, sumS_def (by omega) hm.2 hv]
  have vX := vec_foldl hx0 hg.mask
  have vU := vec_foldl hu0 hg.mask
  have vXU : vec (l.foldl red (m, b)) = vx (vec (l.foldl red (m, []))) (vec (0, b)) := by
    rw [vX, vU, vec_split m b, foldV_vx, fold_bytes]
  have bX := foldl_red_bd hx0 hg.mask
  have bU := foldl_red_bd hu0 hg.mask
  have cX : canon (l.foldl red (m, b)).2 := canon_foldl hcb
  have cU : canon (l.foldl red (m, [])).2 := canon_foldl canon_nil
  have hclear : ∀ r ∈ l, (l.foldl red (m, b)).1.toNat.testBit (top r.1) = false := by
    intro r hr
    have := fold_clear hg (vec (m, b)) r hr
    rw [← vX] at this; exact this
  generalize hX : l.foldl red (m, b) = x at *
  generalize hU : l.foldl red (m, []) = u at *
  have e1 : x.1 = u.1 := by
    have : x.1.toNat = u.1.toNat := by
      apply Nat.eq_of_testBit_eq
      intro k
      have := congrFun vXU (.inl k)
      simpa [vec, vx] using this
    omega
  have e2 : ∀ i, i < 16 → BitVec.ofInt 8 (nth x.2 i) = BitVec.ofInt 8 (nth u.2 i) ^^^ BitVec.ofInt 8 (nth b i) := by
    intro i hi
    apply BitVec.eq_of_getLsbD_eq
    intro j _
    have := congrFun vXU (.inr (i, j))
    simpa [vec, vx, hi] using this
  have hz : zero16 x.2 = true ↔ b16 u.2 = b := by
    unfold zero16
    rw [List.all_eq_true]
    constructor
    · intro h
      refine list16 (b16_len _) hl fun i hi => ?_
      rw [nth_b16 hi]
      have h1 : nth x.2 i = 0 := by simpa using h i (by simpa using hi)
      have h2 := e2 i hi
      rw [h1] at h2
      have h3 : BitVec.ofInt 8 (nth u.2 i) = BitVec.ofInt 8 (nth b i) := by
        have : BitVec.ofInt 8 (nth u.2 i) ^^^ BitVec.ofInt 8 (nth b i) = 0#8 := h2.symm
        exact BitVec.xor_eq_zero_iff.1 this
      exact ofInt8_inj (cU i hi) (hcb i hi) h3
    · intro h i hi
      have hi : i < 16 := by simpa using hi
      have h1 : nth u.2 i = nth b i := by rw [← nth_b16 hi, h]
      have h2 := e2 i hi
      rw [h1, BitVec.xor_self] at h2
      have := ofInt8_inj (cX i hi) ⟨by omega, by omega⟩ (h2.trans (by rfl : 0#8 = BitVec.ofInt 8 0))
      simpa using this
  by_cases h0 : u.1 = 0
  · have h0x : x.1 = 0 := by omega
    by_cases hs : b16 u.2 = b
    · right; left
      rw [if_neg (by simp [h0]), hs, if_pos (by simp [h0x, hz.2 hs]), keep_id hg]
      exact ⟨rfl, rfl⟩
    · left
      have hz' : zero16 x.2 = false := by
        cases h : zero16 x.2 with
        | false => rfl
        | true => exact absurd (hz.1 h) hs
      rw [if_neg (by simp [h0]), if_neg (by simp [hz']), if_pos (by simp [h0x])]
      exact ⟨rfl, hs, rfl⟩
  · right; right
    have h0x : ¬ x.1 = 0 := by omega
    have hx : okMask x := ⟨by omega, bX.2⟩
    rw [if_pos (by simpa using h0), if_neg (by simp [h0x]), if_neg (by simpa using h0x)]
    have hG := ins_good hx hg hclear
    refine ⟨rfl, x, hx, rfl, hG, ?_, vX, hclear, cX⟩
    obtain ⟨k1, k2⟩ := ins_kill hx hg hclear
    have k3 : ((insS x l).map rowV).foldl redV (vec (m, b)) = fun _ => false := by
      rw [← fold_kill _ (l.map rowV) (vec (m, b)) fun r hr => by
        obtain ⟨s, hs, rfl⟩ := List.mem_map.1 hr
        exact k2 s hs, ← vX]
      exact k1
    rw [vec_split, foldV_vx, fold_bytes] at k3
    have k4 : ((insS x l).map rowV).foldl redV (vec (m, [])) = vec (0, b) := by
      funext i
      have := congrFun k3 i
      simp only [vx] at this
      revert this
      cases (List.foldl redV (vec (m, [])) (List.map rowV (insS x l))) i <;> cases vec (0, b) i <;> simp
    have hv' := (validS_good _).2 hG
    rw [sumS_def (by omega) hm.2 hv']
    have vW := vec_foldl hu0 hG.mask
    have bW := foldl_red_bd hu0 hG.mask
    have cW : canon ((insS x l).foldl red (m, [])).2 := canon_foldl canon_nil
    rw [k4] at vW
    have w1 : ((insS x l).foldl red (m, [])).1 = 0 := vec_inl (y := (0, b)) bW.1 (by simp) vW
    rw [if_neg (by simp [w1])]
    congr 1
    rw [b16_ext (y := (0, b)) cW hcb vW, b16_id hl]
end Go.Proofs.Ytgdeoaiakdkhcaa.Am

namespace Go.Proofs.Ytgdeoaiakdkhcaa.Am
set_option linter.unusedVariables false
open Go Go.RowKit Go.Proofs

/-! ### SolveFollows -/
def tail7 {β : Type} (b : β) (R : AV → β → Prop) (m : Int) (p : List Int) (x6 : List Int × Bool) (x10 : List Row × Bool × Int) : Prop :=
  ∃ (l14 : List Row) (m15 : Int) (x16 : List Int × Bool), [AV.d (Dv.sl 2 (rowsR x10.1)), AV.d (i64 m)] = [AV.d (Dv.sl 2 (rowsR l14)), AV.d (i64 m15)] ∧ l14.length ≤ 9223372036854775807 ∧ x16 = sumS l14 m15 ∧
    BIf (x10.2.2 == 0) (BIf (x10.2.1 == !x6.2) (BIf x16.2 (∃ (p17 q18 : List Int) (r19 : Bool), [AV.d (Dv.sl 1 (bytesR x16.1)), AV.d (Dv.sl 1 (bytesR p))] = [AV.d (Dv.sl 1 (bytesR p17)), AV.d (Dv.sl 1 (bytesR q18))] ∧ p17.length ≤ 9223372036854775807 ∧ r19 = (p17 == q18) ∧ R (AV.d (bo r19)) b)
      (R (AV.d (bo false)) b)) (R (AV.d (bo false)) b)) (R (AV.d (bo false)) b)
theorem f7_nf {β : Type} (wl : WLT β) (y : YieldT β) (b : β) (R : AV → β → Prop) (xs : List (List Dv)) (m : Int) (p : List Int) : wpFn Try.prog ⟨TL, [], wl, y, false⟩ 200 Try.f7 [.d (.sl 2 xs), rowA m p] b R = (
  ([] : List AV) = [] ∧ ∃ l0 : List Row, [AV.d (Dv.sl 2 xs)] = [AV.d (Dv.sl 2 (rowsR l0))] ∧ l0.length ≤ 9223372036854775807 ∧ BIf (!fewS l0) (R (AV.d (bo true)) b) (
  ∃ l1 : List Row, [AV.d (Dv.sl 2 xs)] = [AV.d (Dv.sl 2 (rowsR l1))] ∧ l1.length ≤ 9223372036854775807 ∧ BIf (!validR l1) (R (AV.d (bo true)) b) (
  ∃ (m2 : Int) (p3 : List Int), [rowA m p] = [rowA m2 p3] ∧ BIf (!formedS m2 p3) (R (AV.d (bo true)) b) (
  ∃ (l4 : List Row) (m5 : Int) (x6 : List Int × Bool), [AV.d (Dv.sl 2 xs), AV.d (i64 m)] = [AV.d (Dv.sl 2 (rowsR l4)), AV.d (i64 m5)] ∧ l4.length ≤ 9223372036854775807 ∧ x6 = sumS l4 m5 ∧
  ∃ (l7 : List Row) (m8 : Int) (b9 : List Int) (x10 : List Row × Bool × Int), [AV.d (Dv.sl 2 xs), rowA m p] = [AV.d (Dv.sl 2 (rowsR l7)), rowA m8 b9] ∧ 2 * l7.length ≤ 1000000 ∧ x10 = addS l7 m8 b9 ∧
  BIf x6.2 (∃ (p11 q12 : List Int) (r13 : Bool), [AV.d (Dv.sl 1 (bytesR x6.1)), AV.d (Dv.sl 1 (bytesR p))] = [AV.d (Dv.sl 1 (bytesR p11)), AV.d (Dv.sl 1 (bytesR q12))] ∧ p11.length ≤ 9223372036854775807 ∧ r13 = (p11 == q12) ∧
      BIf (!r13) (R (AV.d (bo (x10.2.2 == 12))) b) (tail7 b R m p x6 x10))
    (tail7 b R m p x6 x10))))) := by kernel_rfl

theorem ins_small {x : Row} {l : List Row} (h : Good (insS x l)) : (insS x l).length ≤ 16 := h.len
theorem fewS_len {l : List Row} (h : fewS l = true) : l.length ≤ 40 := by
  unfold fewS at h
  simp only [Bool.and_eq_true, decide_eq_true_eq] at h
  exact h.2

theorem sumS_len' (l : List Row) (m : Int) : (sumS l m).1.length ≤ 16 := by
  unfold sumS
  split
  · simp
  · dsimp only
    split
    · simp
    · rw [b16_len]; exact Nat.le_refl _
theorem pc7 (l : List Row) (m : Int) (p : List Int) (hl : l.length ≤ 9223372036854775807) (hb : ∀ x ∈ p, 0 ≤ x ∧ x < 256) : PCall Try.prog 7 [.d (.sl 2 (rowsR l)), rowA m p] (.d (bo true)) := by
  refine PCall.ofFn (n := 200) (u := false) mixed TL_ok SCallsOk.nil Try.func7 (by rfl) (by rfl) fun Ev b => ?_
  rw [f7_nf]
  refine ⟨rfl, l, rfl, hl, BIf.of (fun _ => rfl) fun hfew => ⟨l, rfl, hl, BIf.of (fun _ => rfl) fun hv => ⟨m, p, rfl, BIf.of (fun _ => rfl) fun hf => ?_⟩⟩⟩
  have hfew := fewS_len (by simpa using hfew)
  have hg := (validR_good l).1 (by simpa using hv)
  have hf : formedS m p = true := by simpa using hf
  simp only [formedS, Bool.and_eq_true, decide_eq_true_eq] at hf
  refine ⟨l, m, _, rfl, hl, rfl, l, m, p, _, rfl, by omega, rfl, ?_⟩
  rcases add_law hg ⟨hf.1, hf.2.1⟩ hf.2.2 hb with ⟨h1, h2, h3⟩ | ⟨h1, h3⟩ | ⟨h1, x, hx, h3, hG, h4, _⟩
  · rw [h3]
    refine BIf.t h1 ⟨_, _, _, rfl, by have := sumS_len' l m; omega, rfl, BIf.t (by simpa using h2) rfl⟩
  · rw [h3, h1]
    refine BIf.t rfl ⟨_, _, _, rfl, (by show p.length ≤ _; omega), rfl, BIf.f (by simp) ⟨l, m, _, rfl, hl, rfl, ?_⟩⟩
    rw [h1]
    exact BIf.t rfl (BIf.t rfl (BIf.t rfl ⟨_, _, _, rfl, (by show p.length ≤ _; omega), rfl, by rw [beq_self_eq_true]⟩))
  · rw [h3]
    refine BIf.f h1 ⟨insS x l, m, _, rfl, by have := hG.len; omega, rfl, ?_⟩
    rw [h4, h1]
    exact BIf.t rfl (BIf.t rfl (BIf.t rfl ⟨_, _, _, rfl, (by show p.length ≤ _; omega), rfl, by rw [beq_self_eq_true]⟩))
end Go.Proofs.Ytgdeoaiakdkhcaa.Am

namespace Go.Proofs.Ytgdeoaiakdkhcaa.Am
set_option linter.unusedVariables false
open Go Go.RowKit Go.Proofs Go.ChangeShapes Go.WideShapes Go.ChangeAt

/-! ### SolveValid -/
theorem f4_nf {β : Type} (wl : WLT β) (y : YieldT β) (b : β) (R : AV → β → Prop) (xs : List (List Dv)) (m : Int) (p : List Int) : wpFn Try.prog ⟨TL, [], wl, y, false⟩ 200 Try.f4 [.d (.sl 2 xs), rowA m p] b R = (
  ([] : List AV) = [] ∧ ∃ l0 : List Row, [AV.d (Dv.sl 2 xs)] = [AV.d (Dv.sl 2 (rowsR l0))] ∧ l0.length ≤ 9223372036854775807 ∧ BIf (!fewS l0) (R (AV.d (bo true)) b) (
  ∃ l1 : List Row, [AV.d (Dv.sl 2 xs)] = [AV.d (Dv.sl 2 (rowsR l1))] ∧ l1.length ≤ 9223372036854775807 ∧ BIf (!validR l1) (R (AV.d (bo true)) b) (
  ∃ (l2 : List Row) (m3 : Int) (b4 : List Int) (x5 : List Row × Bool × Int), [AV.d (Dv.sl 2 xs), rowA m p] = [AV.d (Dv.sl 2 (rowsR l2)), rowA m3 b4] ∧ 2 * l2.length ≤ 1000000 ∧ x5 = addS l2 m3 b4 ∧
  BIf (x5.2.2 != 0) (BIf (((rowsR x5.1).length : Int) == 0) (R (AV.d (bo !x5.2.1)) b) (R (AV.d (bo false)) b)) (
  ∃ l6 : List Row, [AV.d (Dv.sl 2 (rowsR x5.1))] = [AV.d (Dv.sl 2 (rowsR l6))] ∧ l6.length ≤ 9223372036854775807 ∧ BIf (!validR l6) (R (AV.d (bo false)) b) (
  BIf x5.2.1 (R (AV.d (bo (((rowsR x5.1).length : Int) == IntKind.wrap IntKind.i64 ((xs.length : Int) + 1)))) b) (
  ∃ (p7 q8 : List Row) (r9 : Bool), [AV.d (Dv.sl 2 (rowsR x5.1)), AV.d (Dv.sl 2 xs)] = [AV.d (Dv.sl 2 (rowsR p7)), AV.d (Dv.sl 2 (rowsR q8))] ∧ (p7.length ≤ 9223372036854775807 ∧ ∀ r ∈ p7, r.2.length ≤ 9223372036854775807) ∧ r9 = (p7 == q8) ∧ R (AV.d (bo r9)) b)))))) := by kernel_rfl

theorem add_bad {l : List Row} (hg : Good l) {m : Int} {b : List Int} (h : fine m b = false) : addS l m b = ([], false, 1) := by
  unfold addS
  rw [h]
  simp
theorem pc4 (l : List Row) (m : Int) (p : List Int) (hl : l.length ≤ 9223372036854775807) (hb : ∀ x ∈ p, 0 ≤ x ∧ x < 256) : PCall Try.prog 4 [.d (.sl 2 (rowsR l)), rowA m p] (.d (bo true)) := by
  refine PCall.ofFn (n := 200) (u := false) mixed TL_ok SCallsOk.nil Try.func4 (by rfl) (by rfl) fun Ev b => ?_
  rw [f4_nf]
  refine ⟨rfl, l, rfl, hl, BIf.of (fun _ => rfl) fun hfew => ⟨l, rfl, hl, BIf.of (fun _ => rfl) fun hv => ⟨l, m, p, _, rfl, ?_, rfl, ?_⟩⟩⟩
  · have := fewS_len (by simpa using hfew); omega
  have hfew := fewS_len (by simpa using hfew)
  have hv : validR l = true := by simpa using hv
  have hg := (validR_good l).1 hv
  cases hf : fine m p with
  | false => rw [add_bad hg hf]; exact BIf.t rfl (BIf.t rfl rfl)
  | true =>
    have hf' : formedS m p = true := (fine_formed m p).symm.trans hf
    simp only [formedS, Bool.and_eq_true, decide_eq_true_eq] at hf'
    rcases add_law hg ⟨hf'.1, hf'.2.1⟩ hf'.2.2 hb with ⟨h1, h2, h3⟩ | ⟨h1, h3⟩ | ⟨h1, x, hx, h3, hG, h4, _⟩
    · rw [h3]; exact BIf.t rfl (BIf.t rfl rfl)
    · rw [h3]
      refine BIf.f rfl ⟨l, rfl, hl, BIf.f (by rw [hv]; rfl) (BIf.f rfl ⟨l, l, _, rfl, ⟨hl, fun r hr => ?_⟩, rfl, by rw [beq_self_eq_true]⟩)⟩
      have := hg.ok r hr
      rw [fine_formed] at this
      simp only [formedS, Bool.and_eq_true, decide_eq_true_eq] at this
      omega
    · rw [h3]
      have hlen := hG.len
      refine BIf.f rfl ⟨insS x l, rfl, by omega, BIf.f (by rw [(validR_good _).2 hG]; rfl) (BIf.t rfl ?_)⟩
      have : (((rowsR (insS x l)).length : Int) == IntKind.wrap .i64 (((rowsR l).length : Int) + 1)) = true := by
        simp only [rowsR, List.length_map, ins_len]
        rw [wrap_i64 (by omega) (by omega)]; simp
      rw [this]
end Go.Proofs.Ytgdeoaiakdkhcaa.Am

namespace Go.Proofs.Ytgdeoaiakdkhcaa.Am
set_option linter.unusedVariables false
open Go Go.RowKit Go.Proofs

/-! ### sum -/
def cells256 (p : List Int) : List AV := (List.range 256).map fun i => .d (u8 (nth p i))
def bk (cs : List AV) : Blk := ⟨cs, false, false, 0⟩
noncomputable def lp23 : Code := sub [1, 1, 0, 1, 2, 3] (code Try.f23)
def tm23 (B : List Int) (m i : Int) : List AV := [.bad, .d (i64 m), .bad, .bad, .bad, .ref 1 0 16 16 1, .bad, .bad, .bad, .bad, .agg (cells256 B), .d (i64 i)] ++ List.replicate 25 .bad
def bitT (m : Int) (i : Nat) : Bool := IntKind.wrap .i64 ((BitVec.ofInt 64 (Int.fdiv m ((2 ^ i : Nat) : Int)) &&& BitVec.ofInt 64 1).toNat : Nat) == 1
def rowN (B : List Int) (i : Nat) : List Int := (List.range 16).map fun k => nth B (16 * i + k)
def hp23 (B o : List Int) : List Blk := [bk (cells256 B), bk (cells16 o)]
def stepM (B : List Int) (m : Int) (o : List Int) (i : Nat) : List Int := if bitT m i then xorL o (rowN B i) else o
def sumB (B : List Int) (m : Int) : List Int := (List.range 16).foldl (stepM B m) (List.replicate 16 0)
section
variable {β : Type} (wl : WLT β) (y : YieldT β) (b : β) (R : AV → β → Prop) (K : Exit → List AV → List Blk → β → Prop)
def Rd23 (m : Int) (B o : List Int) (i : Nat) : Prop := wpc Try.prog ⟨[], [], wl, y, true⟩ 100 lp23 (tm23 B m i) (hp23 B o) b (maskK 2 [1, 5, 10, 11] K) =
  BIf (bitT m i) (K .normal (tm23 B m (i + 1 : Nat)) (hp23 B (xorL o (rowN B i))) b) (K .normal (tm23 B m (i + 1 : Nat)) (hp23 B o) b)
set_option maxRecDepth 100000
theorem f23_round (m : Int) (B o : List Int) : ∀ i, i < 16 → Rd23 wl y b K m B o i
  | 0, _ => by unfold Rd23; kernel_rfl
  | 1, _ => by unfold Rd23; kernel_rfl
  | 2, _ => by unfold Rd23; kernel_rfl
  | 3, _ => by unfold Rd23; kernel_rfl
  | 4, _ => by unfold Rd23; kernel_rfl
  | 5, _ => by unfold Rd23; kernel_rfl
  | 6, _ => by unfold Rd23; kernel_rfl
  | 7, _ => by unfold Rd23; kernel_rfl
  | 8, _ => by unfold Rd23; kernel_rfl
  | 9, _ => by unfold Rd23; kernel_rfl
  | 10, _ => by unfold Rd23; kernel_rfl
  | 11, _ => by unfold Rd23; kernel_rfl
  | 12, _ => by unfold Rd23; kernel_rfl
  | 13, _ => by unfold Rd23; kernel_rfl
  | 14, _ => by unfold Rd23; kernel_rfl
  | 15, _ => by unfold Rd23; kernel_rfl
  | n + 16, h => absurd h (by omega)
theorem f23_end (m : Int) (B o : List Int) : wpc Try.prog ⟨[], [], wl, y, true⟩ 100 lp23 (tm23 B m (16 : Nat)) (hp23 B o) b (maskK 2 [1, 5, 10, 11] K) = K (.exit 0) (tm23 B m (16 : Nat)) (hp23 B o) b := by kernel_rfl
end
theorem wr23 {Ev : Env Try.prog} {b : Ev.β} {Q : Exit → St Ev.β → Prop} (B : List Int) (m : Int) : ∀ (n i : Nat) (o : List Int), i + n = 16 →
    Q (.exit 0) ⟨tm23 B m (16 : Nat), hp23 B ((List.range' i n).foldl (stepM B m) o), b⟩ → WR Ev lp23 (n + 1) ⟨tm23 B m i, hp23 B o, b⟩ Q
  | 0, i, o, hi, hQ => by
    refine WR.ofMask [1, 5, 10, 11] mixed (CX.Ok.of (u := true) CallsOk.nil SCallsOk.nil) (k := 100) ?_
    show wpc _ _ _ _ _ _ _ (maskK 2 _ _)
    obtain rfl : i = 16 := by omega
    rw [f23_end]
    exact hQ
  | n + 1, i, o, hi, hQ => by
    refine WR.ofMask [1, 5, 10, 11] mixed (CX.Ok.of (u := true) CallsOk.nil SCallsOk.nil) (k := 100) ?_
    show wpc _ _ _ _ _ _ _ (maskK 2 _ _)
    have hr := f23_round (wlW Ev) Ev.Y b (thenK (fun tm hp b => WR Ev lp23 (n + 1) ⟨tm, hp, b⟩ Q) fun e tm hp b => Q e ⟨tm, hp, b⟩) m B o i (by omega)
    unfold Rd23 at hr
    rw [hr]
    rw [List.range'_succ, List.foldl_cons] at hQ
    refine BIf.of (fun h => ?_) fun h => ?_
    · have e : stepM B m o i = xorL o (rowN B i) := by simp only [stepM, h, if_true]
      rw [e] at hQ
      exact wr23 B m n (i + 1) _ (by omega) hQ
    · have e : stepM B m o i = o := by simp only [stepM, h]; rfl
      rw [e] at hQ
      exact wr23 B m n (i + 1) _ (by omega) hQ
def wl23 {β : Type} : WLT β := fun c tm hp b K => ∃ (B : List Int) (m : Int), c = .loop lp23 ∧ maskTm [1, 5, 10, 11] 0 tm = tm23 B m 0 ∧ hp = hp23 B (List.replicate 16 0) ∧ K (.exit 0) (tm23 B m (16 : Nat)) (hp23 B (sumB B m)) b
theorem wl23_ok {Ev : Env Try.prog} (c : Code) (tm : List AV) (hp : List Blk) (b : Ev.β) (K : Exit → List AV → List Blk → Ev.β → Prop) (h : wl23 c tm hp b K) : W Ev c ⟨tm, hp, b⟩ (fun e s => K e s.tm s.hp s.b) := by
  obtain ⟨B, m, rfl, htm, rfl, hK⟩ := h
  refine W.cast (htm ▸ maskTm_le _ tm 0) (LeH.refl _) ?_
  refine W.rounds (wr23 (Q := fun e s => K e s.tm s.hp s.b) B m 16 0 _ rfl ?_)
  rw [← List.range_eq_range']; exact hK
set_option maxRecDepth 100000 in
theorem f23_nf {β : Type} (y : YieldT β) (b : β) (R : AV → β → Prop) (m : Int) (B : List Int) : wpFn Try.prog ⟨[], [], wl23, y, false⟩ 100 Try.f23 [.agg (cells256 B), .d (i64 m)] b R = (
  ∃ (B0 : List Int) (m1 : Int), Code.loop lp23 = Code.loop lp23 ∧ tm23 B m 0 = tm23 B0 m1 0 ∧ hp23 B (List.replicate 16 0) = hp23 B0 (List.replicate 16 0) ∧ R (.d (.sl 1 (bytesR (b16 (sumB B0 m1))))) b) := by kernel_rfl
theorem xorL_len (p q : List Int) : (xorL p q).length = 16 := by simp [xorL]
theorem sumB_len (B : List Int) (m : Int) : (sumB B m).length = 16 := by
  unfold sumB
  have : ∀ (l : List Nat) (o : List Int), o.length = 16 → (l.foldl (stepM B m) o).length = 16 := by
    intro l
    induction l with
    | nil => intro o h; exact h
    | cons i l ih =>
      intro o h
      rw [List.foldl_cons]
      refine ih _ ?_
      unfold stepM
      split
      · exact xorL_len _ _
      · exact h
  exact this _ _ (by simp)
theorem pc23 (B : List Int) (m : Int) : PCall Try.prog 23 [.agg (cells256 B), .d (i64 m)] (.d (.sl 1 (bytesR (sumB B m)))) := by
  refine PCall.ofFnW (n := 100) (u := false) (fun _ => wl23) mixed CallsOk.nil SCallsOk.nil (fun Ev => wl23_ok) Try.func23 (by rfl) (by rfl) fun Ev bb => ?_
  rw [f23_nf]
  refine ⟨B, m, rfl, rfl, rfl, ?_⟩
  rw [b16_id (sumB_len B m)]
def c23 (args : List AV) (K : AV → Prop) : Prop := ∃ (B : List Int) (m : Int) (o : List Int), args = [.agg (cells256 B), .d (i64 m)] ∧ o = sumB B m ∧ K (.d (.sl 1 (bytesR o)))
theorem c23_ok : ∀ args K, c23 args K → ∃ x, PCall Try.prog 23 args x ∧ K x := by
  rintro _ K ⟨B, m, _, rfl, rfl, h⟩; exact ⟨_, pc23 B m, h⟩
end Go.Proofs.Ytgdeoaiakdkhcaa.Am

namespace Go.Proofs.Ytgdeoaiakdkhcaa.Am
set_option linter.unusedVariables false
open Go Go.RowKit Go.Proofs

/-! ### all -/
noncomputable def lp22 : Code := sub [1, 1, 0, 1, 2, 3] (code Try.f22)
def wordsR (p : List Int) : List (List Dv) := p.map fun x => [u16 x]
def tm22 (l : AV) (xs : List (List Dv)) (i : Int) : List AV := [.bad, .bad, .ptr 0 0, .bad, .bad, .bad, l, .bad, .bad, .bad, .bad, .bad, .d (.sl 1 xs), .d (i64 xs.length), .d (i64 i)] ++ List.replicate 23 .bad
def rt22 (l : AV) (xs : List (List Dv)) (i : Int) : List AV := [.bad, .bad, .ptr 0 0, .bad, .d (.s (.slice none 0 0)), .d (bo false), l, .bad, .bad, .bad, .bad, .bad, .d (.sl 1 xs), .d (i64 xs.length), .d (i64 i)] ++ List.replicate 23 .bad
def T22 : List (Nat × (List AV → (AV → Prop) → Prop)) := [(12, c12), (23, c23)]
theorem T22_ok : CallsOk Try.prog T22 := CallsOk.cons c12_ok (CallsOk.cons c23_ok CallsOk.nil)
section
variable {β : Type} (wl : WLT β) (y : YieldT β) (b : β) (R : AV → β → Prop) (K : Exit → List AV → List Blk → β → Prop)
set_option maxRecDepth 100000
theorem f22_round (l xs : List (List Dv)) (B : List Int) (i : Int) : wpc Try.prog ⟨T22, [], wl, y, true⟩ 100 lp22 (tm22 (.d (.sl 2 l)) xs i) [bk (cells256 B)] b (maskK 1 [2, 4, 5, 6, 12, 13, 14] K) = (
  BIf (decide (i < (xs.length : Int))) (BIf (true && decide (0 ≤ i)) (∃ x0, xs[Int.toNat i]? = some [u16 x0] ∧ BIf (x0 == 0) (K Exit.normal (tm22 (.d (.sl 2 l)) xs (IntKind.wrap IntKind.i64 (i + 1))) [bk (cells256 B)] b)
    (∃ (B3 : List Int) (m4 : Int) (o5 : List Int), [AV.agg (cells256 B), AV.d (i64 (IntKind.wrap IntKind.i64 x0))] = [AV.agg (cells256 B3), AV.d (i64 m4)] ∧ o5 = sumB B3 m4 ∧
      ∃ (l6 : List Row) (m7 : Int) (b8 : List Int) (x9 : List Row × Bool × Int), [AV.d (Dv.sl 2 l), AV.agg [AV.d (i64 (IntKind.wrap IntKind.i64 x0)), AV.d (Dv.sl 1 (bytesR o5))]] = [AV.d (Dv.sl 2 (rowsR l6)), rowA m7 b8] ∧ 2 * l6.length ≤ 1000000 ∧ x9 = addS l6 m7 b8 ∧
        BIf (x9.2.2 != 0) (K Exit.ret (rt22 (.d (.sl 2 l)) xs i) [bk (cells256 B)] b) (K Exit.normal (tm22 (.d (.sl 2 (rowsR x9.1))) xs (IntKind.wrap IntKind.i64 (i + 1))) [bk (cells256 B)] b))) False)
    (K (Exit.exit 0) (tm22 (.d (.sl 2 l)) xs i) [bk (cells256 B)] b)) := by kernel_rfl
end

/-- the equations that are true of blocks, for some masks -/
def allS (B : List Int) : List Int → List Row → List Row × Bool
  | [], l => (l, true)
  | m :: ms, l => if m == 0 then allS B ms l else
    let x := addS l m (sumB B m)
    if x.2.2 != 0 then ([], false) else allS B ms x.1
theorem stepB_len1 (x : Row) : ∀ (l : List Row) (s : List Row × Bool), (l.foldl (stepB x) s).1.length ≤ s.1.length + l.length + 1 ∧ (s.2 = true ∨ (l.foldl (stepB x) s).2 = false → (l.foldl (stepB x) s).1.length = s.1.length + l.length)
  | [], s => ⟨by simp, fun _ => by simp⟩
  | r :: l, (acc, d) => by
    cases d with
    | true => rw [stepB_t]; exact ⟨by simp only [List.length_append, List.length_map, List.length_cons]; omega, fun _ => by simp only [List.length_append, List.length_map]⟩
    | false =>
      rw [List.foldl_cons]
      by_cases h : lead r.1 < lead x.1
      · have : stepB x (acc, false) r = (acc ++ [fin x] ++ [upd x r], true) := by simp [stepB, upd, fin, h]
        rw [this, stepB_t]
        exact ⟨by simp; omega, fun hh => by simp at hh⟩
      · have : stepB x (acc, false) r = (acc ++ [upd x r], false) := by simp [stepB, upd, h]
        rw [this]
        have ih := stepB_len1 x l (acc ++ [upd x r], false)
        simp only [List.length_append, List.length_cons, List.length_nil] at ih ⊢
        refine ⟨by omega, fun hh => ?_⟩
        have := ih.2 (by simpa using hh)
        omega
theorem add_len (l : List Row) (m : Int) (b : List Int) : (addS l m b).1.length ≤ l.length + 1 := by
  unfold addS
  split
  · simp
  · dsimp only
    split
    · simp
    · split
      · simp
      · have := stepB_len1 (l.foldl red (m, pad b)) l ([], false)
        simp only [List.length_nil] at this
        split
        · rename_i h
          have h := this.2 (by simpa using h)
          simp only [List.length_append, List.length_cons, List.length_nil]; omega
        · simp only; omega
theorem wr22 {Ev : Env Try.prog} {b : Ev.β} {Q : Exit → St Ev.β → Prop} (B ms : List Int) (hms : ms.length ≤ 100) (hw : ∀ x ∈ ms, 0 ≤ x ∧ x < 65536) : ∀ (rest : List Int) (k : Nat) (l : List Row), ms.drop k = rest → l.length ≤ k →
    BIf (allS B rest l).2 (Q (.exit 0) ⟨tm22 (.d (.sl 2 (rowsR (allS B rest l).1))) (wordsR ms) ms.length, [bk (cells256 B)], b⟩) (∀ (l : List (List Dv)) (i : Int), Q .ret ⟨rt22 (.d (.sl 2 l)) (wordsR ms) i, [bk (cells256 B)], b⟩) →
    k ≤ ms.length → WR Ev lp22 (rest.length + 1) ⟨tm22 (.d (.sl 2 (rowsR l))) (wordsR ms) k, [bk (cells256 B)], b⟩ Q
  | [], k, l, hd, hl, hQ, hk => by
    refine WR.ofMask [2, 4, 5, 6, 12, 13, 14] mixed (CX.Ok.of (u := true) T22_ok SCallsOk.nil) (k := 100) ?_
    show wpc _ _ _ _ _ _ _ (maskK 1 _ _)
    rw [f22_round]
    have := drop_nil hd
    obtain rfl : k = ms.length := by omega
    exact BIf.f (by simp [wordsR]) (bif_t hQ rfl)
  | x :: rest, k, l, hd, hl, hQ, hk => by
    refine WR.ofMask [2, 4, 5, 6, 12, 13, 14] mixed (CX.Ok.of (u := true) T22_ok SCallsOk.nil) (k := 100) ?_
    show wpc _ _ _ _ _ _ _ (maskK 1 _ _)
    rw [f22_round]
    obtain ⟨hk, hr, hd'⟩ := drop_cons hd
    have hx := hw x (List.mem_of_getElem? hr)
    refine BIf.t (by simpa [wordsR] using hk) (BIf.t (by simp) ⟨x, by simp [wordsR, hr], BIf.of (fun h => ?_) fun h => ?_⟩)
    · rw [wrap_succ hk (by omega)]
      refine wr22 B ms hms hw rest (k + 1) l hd' (by omega) ?_ hk
      simpa only [allS, h, if_true] using hQ
    · have e : IntKind.wrap .i64 x = x := wrap_i64 (by omega) (by omega)
      refine ⟨B, x, _, by rw [e], rfl, l, x, _, _, by rw [e]; rfl, by omega, rfl, BIf.of (fun h2 => ?_) fun h2 => ?_⟩
      · refine bif_f hQ ?_ _ _
        simp only [allS, h, h2, if_true]; rfl
      · rw [wrap_succ hk (by omega)]
        refine wr22 B ms hms hw rest (k + 1) _ hd' (by have := add_len l x (sumB B x); omega) ?_ hk
        have e : allS B (x :: rest) l = allS B rest (addS l x (sumB B x)).1 := by
          simp only [allS, h, h2]; rfl
        rw [e] at hQ; exact hQ
theorem LeL.at {x y : AV} (pre post : List AV) (h : LeA x y) : LeL (pre ++ x :: post) (pre ++ y :: post) := by
  induction pre with
  | nil => exact .cons h (LeL.refl _)
  | cons a pre ih => exact .cons .rfl ih
def wl22 {β : Type} : WLT β := fun c tm hp b K => ∃ (B ms : List Int), c = .loop lp22 ∧ maskTm [2, 6, 12, 13, 14] 0 tm = tm22 (.d (.s (.slice none 0 0))) (wordsR ms) 0 ∧ hp = [bk (cells256 B)] ∧ (ms.length ≤ 100 ∧ ∀ x ∈ ms, 0 ≤ x ∧ x < 65536) ∧
  BIf (allS B ms []).2 (K (.exit 0) (tm22 (.d (.sl 2 (rowsR (allS B ms []).1))) (wordsR ms) ms.length) [bk (cells256 B)] b) (∀ (l : List (List Dv)) (i : Int), K .ret (rt22 (.d (.sl 2 l)) (wordsR ms) i) [bk (cells256 B)] b)
theorem wl22_ok {Ev : Env Try.prog} (c : Code) (tm : List AV) (hp : List Blk) (b : Ev.β) (K : Exit → List AV → List Blk → Ev.β → Prop) (h : wl22 c tm hp b K) : W Ev c ⟨tm, hp, b⟩ (fun e s => K e s.tm s.hp s.b) := by
  obtain ⟨B, ms, rfl, htm, rfl, ⟨h0, h1⟩, hK⟩ := h
  refine W.cast (htm ▸ maskTm_le _ tm 0) (LeH.refl _) ?_
  refine W.cast (tm' := tm22 (.d (.sl 2 (rowsR []))) (wordsR ms) 0) (LeL.at [_, _, _, _, _, _] _ (LeA.nilSl rfl)) (LeH.refl _) ?_
  exact W.rounds (wr22 (Q := fun e s => K e s.tm s.hp s.b) B ms h0 h1 ms 0 [] rfl (Nat.zero_le _) hK (Nat.zero_le _))
set_option maxRecDepth 100000 in
theorem f22_nf {β : Type} (y : YieldT β) (b : β) (R : AV → β → Prop) (xs : List (List Dv)) (B : List Int) : wpFn Try.prog ⟨T22, [], wl22, y, false⟩ 100 Try.f22 [.agg (cells256 B), .d (.sl 1 xs)] b R = (
  ∃ (B0 ms : List Int), Code.loop lp22 = Code.loop lp22 ∧ tm22 (.d (.s (.slice none 0 0))) xs 0 = tm22 (.d (.s (.slice none 0 0))) (wordsR ms) 0 ∧ [bk (cells256 B)] = [bk (cells256 B0)] ∧ (ms.length ≤ 100 ∧ ∀ x ∈ ms, 0 ≤ x ∧ x < 65536) ∧
  BIf (allS B0 ms []).2 (R (.tup [.d (.sl 2 (rowsR (allS B0 ms []).1)), .d (bo true)]) b) (∀ (l : List (List Dv)) (i : Int), R (.tup [.d (.s (.slice none 0 0)), .d (bo false)]) b)) := by kernel_rfl
def allR (x : List Row × Bool) : AV := .tup [.d (.sl 2 (rowsR x.1)), .d (bo x.2)]
theorem all_nil (B : List Int) : ∀ (ms : List Int) (l : List Row), (allS B ms l).2 = false → (allS B ms l).1 = []
  | [], l, h => by simp [allS] at h
  | m :: ms, l, h => by
    unfold allS at h ⊢
    split
    · rename_i hm; rw [if_pos hm] at h; exact all_nil B ms l h
    · rename_i hm
      rw [if_neg hm] at h
      dsimp only at h ⊢
      split
      · rfl
      · rename_i h2; rw [if_neg h2] at h; exact all_nil B ms _ h
theorem pc22 (B ms : List Int) (h0 : ms.length ≤ 100) (h1 : ∀ x ∈ ms, 0 ≤ x ∧ x < 65536) : PCall Try.prog 22 [.agg (cells256 B), .d (.sl 1 (wordsR ms))] (allR (allS B ms [])) := by
  refine PCall.ofFnL (n := 100) (u := false) (fun _ => wl22) mixed T22_ok SCallsOk.nil (fun Ev => wl22_ok) Try.func22 (by rfl) (by rfl) fun Ev bb => ?_
  rw [f22_nf]
  refine ⟨B, ms, rfl, rfl, rfl, ⟨h0, h1⟩, BIf.of (fun h => ?_) fun h l i => ?_⟩
  · unfold allR; rw [h]; exact .base .rfl
  · unfold allR; rw [h, all_nil B ms [] h]; exact .tup (.cons (LeA.nilSl rfl) (LeL.refl _))
def c22 (args : List AV) (K : AV → Prop) : Prop := ∃ (B ms : List Int) (o : List Row × Bool), args = [.agg (cells256 B), .d (.sl 1 (wordsR ms))] ∧ (ms.length ≤ 100 ∧ ∀ x ∈ ms, 0 ≤ x ∧ x < 65536) ∧ o = allS B ms [] ∧ K (allR o)
theorem c22_ok : ∀ args K, c22 args K → ∃ x, PCall Try.prog 22 args x ∧ K x := by
  rintro _ K ⟨B, ms, _, rfl, ⟨h0, h1⟩, rfl, h⟩; exact ⟨_, pc22 B ms h0 h1, h⟩
end Go.Proofs.Ytgdeoaiakdkhcaa.Am

namespace Go.Proofs.Ytgdeoaiakdkhcaa.Am
set_option linter.unusedVariables false
open Go Go.RowKit Go.Proofs

/-! ### equations that are true of blocks -/
def xorF (f : Nat → Bool) (l : List Nat) : Bool := l.foldr (fun k a => f k ^^ a) false
theorem xorF_xor (f g : Nat → Bool) : ∀ l : List Nat, xorF (fun k => f k ^^ g k) l = (xorF f l ^^ xorF g l)
  | [] => rfl
  | k :: l => by
    have ih := xorF_xor f g l
    simp only [xorF, List.foldr_cons] at ih ⊢
    rw [ih]
    cases f k <;> cases g k <;> cases (List.foldr (fun k a => f k ^^ a) false l) <;> cases (List.foldr (fun k a => g k ^^ a) false l) <;> rfl
theorem xorF_false (l : List Nat) {f : Nat → Bool} (h : ∀ k ∈ l, f k = false) : xorF f l = false := by
  induction l with
  | nil => rfl
  | cons k l ih =>
    simp only [xorF, List.foldr_cons] at ih ⊢
    rw [h k (List.mem_cons_self ..), ih fun j hj => h j (List.mem_cons_of_mem _ hj)]; rfl
def cB (B : List Int) (i j k : Nat) : Bool := (BitVec.ofInt 8 (nth B (16 * k + i))).getLsbD j
def EV (B : List Int) (v : Ix → Bool) (i j : Nat) : Bool := xorF (fun k => v (.inl k) && cB B i j k) (List.range 16)
def TV (B : List Int) (v : Ix → Bool) : Prop := ∀ i, i < 16 → ∀ j, v (.inr (i, j)) = EV B v i j
theorem TV.vx {B : List Int} {u v : Ix → Bool} (h : TV B u) (k : TV B v) : TV B (vx u v) := by
  intro i hi j
  show (u (.inr (i, j)) ^^ v (.inr (i, j))) = _
  rw [h i hi j, k i hi j]
  unfold EV
  rw [← xorF_xor]
  congr 1
  funext k
  simp only [Am.vx]
  cases u (.inl k) <;> cases v (.inl k) <;> cases cB B i j k <;> rfl
theorem TV.fold {B : List Int} : ∀ {l : List (Ix × (Ix → Bool))} {v : Ix → Bool}, TV B v → (∀ r ∈ l, TV B r.2) → TV B (l.foldl redV v)
  | [], v, h, _ => h
  | r :: l, v, h, hl => by
    rw [List.foldl_cons]
    refine TV.fold ?_ fun s hs => hl s (List.mem_cons_of_mem _ hs)
    unfold redV
    split
    · exact h.vx (hl r (List.mem_cons_self ..))
    · exact h
theorem TV.zero {B : List Int} {v : Ix → Bool} (h : TV B v) (h0 : ∀ k, k < 16 → v (.inl k) = false) : ∀ i, i < 16 → ∀ j, v (.inr (i, j)) = false := by
  intro i hi j
  rw [h i hi j]
  exact xorF_false _ fun k hk => by rw [h0 k (by simpa using hk)]; rfl

theorem bitT_testBit {m : Int} (h0 : 0 ≤ m) (h1 : m < 65536) (k : Nat) : bitT m k = m.toNat.testBit k := by
  obtain ⟨n, rfl⟩ := Int.eq_ofNat_of_zero_le h0
  unfold bitT
  have e1 : Int.fdiv (n : Int) ((2 ^ k : Nat) : Int) = ((n / 2 ^ k : Nat) : Int) := by
    rw [Int.fdiv_eq_ediv_of_nonneg _ (Int.natCast_nonneg _)]; rfl
  have hle : n / 2 ^ k ≤ n := Nat.div_le_self _ _
  rw [e1]
  have e2 : (BitVec.ofInt 64 ((n / 2 ^ k : Nat) : Int) &&& BitVec.ofInt 64 1).toNat = n / 2 ^ k % 2 := by
    rw [BitVec.toNat_and, BitVec.toNat_ofInt, BitVec.toNat_ofInt]
    have : ((((n / 2 ^ k : Nat) : Int) % ((2 ^ 64 : Nat) : Int)).toNat) = n / 2 ^ k := by
      generalize n / 2 ^ k = q at hle
      have : n < 65536 := by omega
      omega
    rw [this]
    exact Nat.and_one_is_mod _
  rw [e2]
  have h2 : n / 2 ^ k % 2 < 2 := Nat.mod_lt _ (by omega)
  rw [wrap_i64 (by omega) (by omega), Int.toNat_natCast, Nat.testBit_eq_decide_div_mod_eq, Bool.eq_iff_iff]
  generalize n / 2 ^ k % 2 = q
  simp; omega
theorem nth_rowN {B : List Int} {i k : Nat} (h : i < 16) : nth (rowN B k) i = nth B (16 * k + i) := by
  simp [rowN, nth, h]
theorem sumB_bits {B : List Int} {m : Int} (h0 : 0 ≤ m) (h1 : m < 65536) {i j : Nat} (hi : i < 16) : ∀ (l : List Nat) (o : List Int),
    (BitVec.ofInt 8 (nth (l.foldl (stepM B m) o) i)).getLsbD j = ((BitVec.ofInt 8 (nth o i)).getLsbD j ^^ xorF (fun k => m.toNat.testBit k && cB B i j k) l)
  | [], o => by simp [xorF]
  | k :: l, o => by
    rw [List.foldl_cons, sumB_bits h0 h1 hi l]
    simp only [xorF, List.foldr_cons]
    unfold stepM
    rw [bitT_testBit h0 h1]
    cases m.toNat.testBit k with
    | false => simp
    | true =>
      simp only [if_true, Bool.true_and]
      rw [nth_xorL hi, ofInt_xor8, BitVec.getLsbD_xor, nth_rowN hi, Bool.xor_assoc]; rfl
theorem sumB_TV {B : List Int} {m : Int} (h0 : 0 ≤ m) (h1 : m < 65536) : TV B (vec (m, sumB B m)) := by
  intro i hi j
  have := sumB_bits (B := B) h0 h1 (j := j) hi (List.range 16) (List.replicate 16 0)
  simp only [vec, hi, decide_true, Bool.true_and, EV]
  unfold sumB
  rw [this]
  have e : nth (List.replicate 16 0) i = 0 := by unfold nth; rw [List.getD_eq_getElem?_getD, List.getElem?_replicate]; split <;> rfl
  rw [e]
  simp
theorem sumB_canon (B : List Int) (m : Int) : ∀ x ∈ sumB B m, 0 ≤ x ∧ x < 256 := by
  unfold sumB
  have : ∀ (l : List Nat) (o : List Int), (∀ x ∈ o, 0 ≤ x ∧ x < 256) → ∀ x ∈ l.foldl (stepM B m) o, 0 ≤ x ∧ x < 256 := by
    intro l
    induction l with
    | nil => intro o h; exact h
    | cons i l ih =>
      intro o h
      rw [List.foldl_cons]
      refine ih _ ?_
      unfold stepM
      split
      · intro x hx
        simp only [xorL, List.mem_map] at hx
        obtain ⟨k, _, rfl⟩ := hx
        exact xor8_bd _ _
      · exact h
  exact this _ _ (by simp)

def TR (B : List Int) (l : List Row) : Prop := ∀ r ∈ l, TV B (rowV r).2
theorem TR.all {B : List Int} {l : List Row} (h : TR B l) : ∀ r ∈ l.map rowV, TV B r.2 := by
  intro r hr
  obtain ⟨s, hs, rfl⟩ := List.mem_map.1 hr
  exact h s hs

/-- every sum that follows is that of the blocks -/
theorem truth_sum {B : List Int} {l : List Row} (hg : Good l) (ht : TR B l) {m : Int} (h0 : 0 ≤ m) (h1 : m < 65536) (hs : (sumS l m).2 = true) : sumS l m = (sumB B m, true) := by
  have hv := (validS_good l).2 hg
  rw [sumS_def h0 h1 hv] at hs ⊢
  have vU := vec_foldl (x := (m, [])) ⟨h0, h1⟩ hg.mask
  have bU := foldl_red_bd (x := (m, [])) ⟨h0, h1⟩ hg.mask
  have cU : canon (l.foldl red (m, [])).2 := canon_foldl canon_nil
  generalize l.foldl red (m, []) = u at *
  have hu : u.1 = 0 := by
    split at hs
    · cases hs
    · rename_i h; simpa using h
  rw [if_neg (by simp [hu])]
  congr 1
  have hT := TV.fold (sumB_TV (B := B) h0 h1) ht.all
  rw [vec_split, foldV_vx, fold_bytes, ← vU] at hT
  have hz := hT.zero fun k hk => by simp [vx, vec, hu]
  have hcb : canon (sumB B m) := by
    intro i hi
    refine sumB_canon B m _ ?_
    have : nth (sumB B m) i = (sumB B m)[i]'(by rw [sumB_len]; exact hi) := by simp [nth, List.getD, sumB_len, hi]
    rw [this]; exact List.getElem_mem _
  refine list16 (b16_len _) (sumB_len _ _) fun i hi => ?_
  rw [nth_b16 hi]
  refine ofInt8_inj (cU i hi) (hcb i hi) ?_
  apply BitVec.eq_of_getLsbD_eq
  intro j _
  have := hz i hi j
  simp only [vx, vec, hi, decide_true, Bool.true_and] at this
  revert this
  cases (BitVec.ofInt 8 (nth u.2 i)).getLsbD j <;> cases (BitVec.ofInt 8 (nth (sumB B m) i)).getLsbD j <;> simp

theorem TR.ins {B : List Int} {l : List Row} (hg : Good l) (ht : TR B l) {x : Row} (hx : okMask x) (hT : TV B (vec x)) : TR B (insS x l) := by
  intro r hr
  rcases ins_mem.1 hr with rfl | ⟨s, hs, rfl⟩
  · have e : (rowV (fin x)).2 = vec x := by
      show vec (x.1, pad (b16 x.2)) = _
      rw [pad16 (b16_len _), vec_b16]
    rw [e]; exact hT
  · rw [upd_vec hx (hg.mask s hs)]
    split
    · exact (ht s hs).vx hT
    · exact ht s hs

/-- bytes are bytes -/
def CR (l : List Row) : Prop := ∀ r ∈ l, canon r.2
theorem CR.ins {l : List Row} (h : CR l) {x : Row} (hx : canon x.2) : CR (insS x l) := by
  intro r hr
  rcases ins_mem.1 hr with rfl | ⟨s, hs, rfl⟩
  · intro i hi
    show 0 ≤ nth (b16 x.2) i ∧ nth (b16 x.2) i < 256
    rw [nth_b16 hi]; exact hx i hi
  · unfold upd
    split
    · intro i hi
      simp only
      rw [nth_b16 hi]; exact canon_xorL _ _ i hi
    · intro i hi
      simp only
      rw [nth_b16 hi]
      have : nth (pad s.2) i = nth s.2 i := by
        unfold pad nth
        rw [List.getD_eq_getElem?_getD, List.getElem?_take, if_pos hi, List.getD_eq_getElem?_getD, List.getElem?_append]
        split
        · rfl
        · rename_i hh
          rw [List.getElem?_replicate]
          have : s.2[i]? = none := List.getElem?_eq_none (by omega)
          rw [this]; split <;> rfl
      rw [this]; exact h s hs i hi
theorem Good.len16 {l : List Row} (h : Good l) : ∀ r ∈ l, r.2.length = 16 := by
  intro r hr
  have := h.ok r hr
  rw [fine_formed] at this
  simp only [formedS, Bool.and_eq_true, decide_eq_true_eq] at this
  exact this.2.2
theorem canon_all {p : List Int} (hl : p.length = 16) (h : canon p) : ∀ x ∈ p, 0 ≤ x ∧ x < 256 := by
  intro x hx
  obtain ⟨i, hi, rfl⟩ := List.mem_iff_getElem.1 hx
  have := h i (by omega)
  simpa [nth, List.getD, hi] using this
theorem sumB_canon' (B : List Int) (m : Int) : canon (sumB B m) := by
  intro i hi
  refine sumB_canon B m _ ?_
  have : nth (sumB B m) i = (sumB B m)[i]'(by rw [sumB_len]; exact hi) := by simp [nth, List.getD, sumB_len, hi]
  rw [this]; exact List.getElem_mem _
/-- rows that are true of blocks -/
structure Tru (B : List Int) (l : List Row) : Prop where
  good : Good l
  tr : TR B l
  cr : CR l
theorem Tru.bytes {B : List Int} {l : List Row} (h : Tru B l) : ∀ r ∈ l, ∀ x ∈ r.2, 0 ≤ x ∧ x < 256 := fun r hr => canon_all (h.good.len16 r hr) (h.cr r hr)
theorem Tru.nil (B : List Int) : Tru B [] := ⟨⟨fun r h => (by cases h), .nil, .nil⟩, fun r h => (by cases h), fun r h => (by cases h)⟩

/-- no true equation is refused -/
theorem truth_add {B : List Int} {l : List Row} (h : Tru B l) {m : Int} (h0 : 1 ≤ m) (h1 : m < 65536) :
    (addS l m (sumB B m)).2.2 = 0 ∧ Tru B (addS l m (sumB B m)).1 := by
  rcases add_law h.good ⟨h0, h1⟩ (sumB_len B m) (sumB_canon B m) with ⟨h2, h3, _⟩ | ⟨_, h3⟩ | ⟨_, x, hx, h3, hG, _, hv, _, hc⟩
  · exact absurd (congrArg Prod.fst (truth_sum h.good h.tr (by omega) h1 h2)) h3
  · rw [h3]; exact ⟨rfl, h⟩
  · rw [h3]
    refine ⟨rfl, hG, TR.ins h.good h.tr hx ?_, h.cr.ins hc⟩
    rw [hv]
    exact TV.fold (sumB_TV (by omega) h1) h.tr.all
theorem truth_all {B : List Int} : ∀ {ms : List Int} {l : List Row}, Tru B l → (∀ x ∈ ms, 0 ≤ x ∧ x < 65536) → (allS B ms l).2 = true ∧ Tru B (allS B ms l).1
  | [], l, ht, _ => ⟨rfl, ht⟩
  | m :: ms, l, ht, hb => by
    have hb' := fun x hx => hb x (List.mem_cons_of_mem _ hx)
    have hm := hb m (List.mem_cons_self ..)
    unfold allS
    split
    · exact truth_all ht hb'
    · rename_i h
      have h : m ≠ 0 := by simpa using h
      obtain ⟨h1, h2⟩ := truth_add ht (m := m) (by omega) hm.2
      dsimp only
      rw [h1]
      exact truth_all h2 hb'
end Go.Proofs.Ytgdeoaiakdkhcaa.Am

namespace Go.Proofs.Ytgdeoaiakdkhcaa.Am
set_option linter.unusedVariables false
open Go Go.RowKit Go.Proofs

/-! ### SolveTruth -/
def T5 : List (Nat × (List AV → (AV → Prop) → Prop)) := (22, c22) :: (23, c23) :: TL
theorem T5_ok : CallsOk Try.prog T5 := CallsOk.cons c22_ok (CallsOk.cons c23_ok TL_ok)
def end5 {β : Type} (b : β) (R : AV → β → Prop) (B : List Int) (i : Int) (x8 : List Int × Bool) : Prop :=
  BIf (!x8.2) (R (AV.d (bo true)) b) (BIf (decide (Int.tmod (IntKind.wrap IntKind.i64 i) 16 < 0)) False (∃ (B9 : List Int) (m10 : Int) (o11 : List Int), [AV.agg (cells256 B), AV.d (i64 (IntKind.wrap IntKind.i64 (1 * 2 ^ min (Int.toNat (Int.tmod (IntKind.wrap IntKind.i64 i) 16)) 64)))] = [AV.agg (cells256 B9), AV.d (i64 m10)] ∧ o11 = sumB B9 m10 ∧
    ∃ (p12 q13 : List Int) (r14 : Bool), [AV.d (Dv.sl 1 (bytesR x8.1)), AV.d (Dv.sl 1 (bytesR o11))] = [AV.d (Dv.sl 1 (bytesR p12)), AV.d (Dv.sl 1 (bytesR q13))] ∧ p12.length ≤ 9223372036854775807 ∧ r14 = (p12 == q13) ∧ R (AV.d (bo r14)) b))
set_option maxRecDepth 100000 in
theorem f5_nf {β : Type} (wl : WLT β) (y : YieldT β) (b : β) (R : AV → β → Prop) (xs : List (List Dv)) (mask i : Int) (B : List Int) : wpFn Try.prog ⟨T5, [], wl, y, false⟩ 200 Try.f5 [.agg (cells256 B), .d (.sl 1 xs), .d (u16 mask), .d (u8 i)] b R = (
  ([] : List AV) = [] ∧ BIf (decide ((xs.length : Int) > 40)) (R (AV.d (bo true)) b) (∃ (B0 ms1 : List Int) (o2 : List Row × Bool), [AV.agg (cells256 B), AV.d (Dv.sl 1 xs)] = [AV.agg (cells256 B0), AV.d (Dv.sl 1 (wordsR ms1))] ∧ (ms1.length ≤ 100 ∧ ∀ x ∈ ms1, 0 ≤ x ∧ x < 65536) ∧ o2 = allS B0 ms1 [] ∧ BIf (!o2.2) (R (AV.d (bo false)) b) (
    ∃ (l3 : List Row) (m4 : Int) (x5 : List Int × Bool), [AV.d (Dv.sl 2 (rowsR o2.1)), AV.d (i64 (IntKind.wrap IntKind.i64 mask))] = [AV.d (Dv.sl 2 (rowsR l3)), AV.d (i64 m4)] ∧ l3.length ≤ 9223372036854775807 ∧ x5 = sumS l3 m4 ∧
    ∃ (l6 : List Row) (m7 : Int) (x8 : List Int × Bool), [AV.d (Dv.sl 2 (rowsR o2.1)), AV.d (i64 (Int.tmod (IntKind.wrap IntKind.i64 i) 16))] = [AV.d (Dv.sl 2 (rowsR l6)), AV.d (i64 m7)] ∧ l6.length ≤ 9223372036854775807 ∧ x8 = solvedS l6 m7 ∧
    BIf (!x5.2) (end5 b R B i x8) (∃ (B15 : List Int) (m16 : Int) (o17 : List Int), [AV.agg (cells256 B), AV.d (i64 (IntKind.wrap IntKind.i64 mask))] = [AV.agg (cells256 B15), AV.d (i64 m16)] ∧ o17 = sumB B15 m16 ∧
      ∃ (p18 q19 : List Int) (r20 : Bool), [AV.d (Dv.sl 1 (bytesR x5.1)), AV.d (Dv.sl 1 (bytesR o17))] = [AV.d (Dv.sl 1 (bytesR p18)), AV.d (Dv.sl 1 (bytesR q19))] ∧ p18.length ≤ 9223372036854775807 ∧ r20 = (p18 == q19) ∧ BIf r20 (end5 b R B i x8) (R (AV.d (bo false)) b))))) := by kernel_rfl

theorem end5_ok {β : Type} {b : β} {l : List Row} {B : List Int} {i : Int} (h : Tru B l) (hi : 0 ≤ i ∧ i < 256) : end5 b (fun y _ => y = .d (bo true)) B i (solvedS l (Int.tmod (IntKind.wrap .i64 i) 16)) := by
  have e : IntKind.wrap .i64 i = i := wrap_i64 (by omega) (by omega)
  unfold end5
  rw [e]
  obtain ⟨n, rfl⟩ := Int.eq_ofNat_of_zero_le hi.1
  have e2 : Int.tmod (n : Int) 16 = ((n % 16 : Nat) : Int) := rfl
  rw [e2]
  have hk : n % 16 < 16 := Nat.mod_lt _ (by omega)
  generalize n % 16 = k at hk
  rw [solved_sum h.good h.bytes hk]
  have e3 : IntKind.wrap .i64 (1 * 2 ^ min (Int.toNat (k : Int)) 64) = two k := by
    have : min (Int.toNat (k : Int)) 64 = k := by omega
    rw [this, Int.one_mul]
    have hb := two_bd hk
    unfold two at hb ⊢
    rw [show ((2 : Int) ^ k) = ((2 ^ k : Nat) : Int) by simp]
    exact wrap_i64 (by omega) (by omega)
  rw [e3]
  have hb := two_bd hk
  refine BIf.of (fun _ => rfl) fun hs => BIf.f (by simp) ⟨B, two k, _, rfl, rfl, ?_⟩
  have := truth_sum h.good h.tr (m := two k) (by omega) hb.2 (by simpa using hs)
  rw [this]
  exact ⟨_, _, _, rfl, (by rw [sumB_len]; omega), rfl, by rw [beq_self_eq_true]⟩

theorem pc5 (B ms : List Int) (mask i : Int) (hms : ∀ x ∈ ms, 0 ≤ x ∧ x < 65536) (hm : 0 ≤ mask ∧ mask < 65536) (hi : 0 ≤ i ∧ i < 256) : PCall Try.prog 5 [.agg (cells256 B), .d (.sl 1 (wordsR ms)), .d (u16 mask), .d (u8 i)] (.d (bo true)) := by
  refine PCall.ofFn (n := 200) (u := false) mixed T5_ok SCallsOk.nil Try.func5 (by rfl) (by rfl) fun Ev b => ?_
  rw [f5_nf]
  refine ⟨rfl, BIf.of (fun _ => rfl) fun h => ?_⟩
  have h : ms.length ≤ 40 := by
    simp only [wordsR, List.length_map, decide_eq_false_iff_not] at h; omega
  obtain ⟨h1, h2⟩ := truth_all (Tru.nil B) hms
  have hl := h2.good.len
  refine ⟨B, ms, _, rfl, ⟨by omega, hms⟩, rfl, BIf.f (by rw [h1]; rfl) ⟨_, _, _, rfl, by omega, rfl, _, _, _, rfl, by omega, rfl, ?_⟩⟩
  rw [wrap_i64 (x := mask) (by omega) (by omega)]
  have he := end5_ok (b := b) h2 hi
  refine BIf.of (fun _ => he) fun hs => ⟨B, mask, _, rfl, rfl, ?_⟩
  have := truth_sum h2.good h2.tr hm.1 hm.2 (by simpa using hs)
  rw [this]
  exact ⟨_, _, _, rfl, (by rw [sumB_len]; omega), rfl, BIf.t (by rw [beq_self_eq_true]) he⟩
end Go.Proofs.Ytgdeoaiakdkhcaa.Am

namespace Go.Proofs.Ytgdeoaiakdkhcaa.Am
set_option linter.unusedVariables false
open Go Go.RowKit Go.Proofs

/-! ### what follows from rows -/
abbrev Vc := Ix → Bool
def z0 : Vc := fun _ => false
def InV (l : List Row) (v : Vc) : Prop := (l.map rowV).foldl redV v = z0
theorem fold_zero (l : List (Ix × Vc)) : l.foldl redV z0 = z0 := fold_skip _ _ fun _ _ => rfl
def Sp : List Vc → Vc → Prop
  | [], v => v = z0
  | e :: es, v => Sp es v ∨ Sp es (vx v e)
theorem vx_comm (u v : Vc) : vx u v = vx v u := by funext i; simp only [vx]; cases u i <;> cases v i <;> rfl
theorem vx_can (u v : Vc) : vx (vx u v) v = u := by rw [vx_assoc, vx_self, vx_zero]
theorem Sp.add : ∀ {es : List Vc} {u v : Vc}, Sp es u → Sp es v → Sp es (vx u v)
  | [], u, v, hu, hv => by
    simp only [Sp] at hu hv ⊢
    subst hu; subst hv; exact vx_self _
  | e :: es, u, v, hu, hv => by
    rcases hu with hu | hu <;> rcases hv with hv | hv
    · exact .inl (Sp.add hu hv)
    · right; have := Sp.add hu hv; rwa [← vx_assoc] at this
    · right; have := Sp.add hu hv
      have e1 : vx (vx u e) v = vx (vx u v) e := by rw [vx_assoc, vx_assoc, vx_comm e v]
      rwa [e1] at this
    · left; have := Sp.add hu hv
      have e1 : vx (vx u e) (vx v e) = vx u v := by rw [vx_assoc, vx_comm v e, ← vx_assoc e e v, vx_self, zero_vx]
      rwa [e1] at this
theorem Sp.zero : ∀ es : List Vc, Sp es z0
  | [] => rfl
  | _ :: es => .inl (Sp.zero es)
theorem Sp.mem : ∀ {es : List Vc} {e : Vc}, e ∈ es → Sp es e
  | f :: es, e, h => by
    rcases List.mem_cons.1 h with rfl | h
    · right; rw [vx_self]; exact Sp.zero es
    · exact .inl (Sp.mem h)
theorem Sp.sub : ∀ {es fs : List Vc} {v : Vc}, (∀ e ∈ es, Sp fs e) → Sp es v → Sp fs v
  | [], fs, v, _, h => by simp only [Sp] at h; subst h; exact Sp.zero fs
  | e :: es, fs, v, hs, h => by
    rcases h with h | h
    · exact Sp.sub (fun e he => hs e (List.mem_cons_of_mem _ he)) h
    · have := Sp.add (Sp.sub (fun e he => hs e (List.mem_cons_of_mem _ he)) h) (hs e (List.mem_cons_self ..))
      rwa [vx_can] at this

theorem fold_back {P : Vc → Prop} (hP : ∀ u v, P u → P v → P (vx u v)) : ∀ (g : List (Ix × Vc)) (v : Vc), (∀ r ∈ g, P r.2) → P (g.foldl redV v) → P v
  | [], v, _, h => h
  | r :: g, v, hr, h => by
    rw [List.foldl_cons] at h
    have h1 := fold_back hP g _ (fun s hs => hr s (List.mem_cons_of_mem _ hs)) h
    have e : redV v r = if v r.1 then vx v r.2 else v := rfl
    rw [e] at h1
    split at h1
    · have := hP _ _ h1 (hr r (List.mem_cons_self ..))
      rwa [vx_can] at this
    · exact h1

theorem in_ins {l : List Row} (hg : Good l) {e : Vc} {x : Row} (hx : okMask x) (hv : vec x = (l.map rowV).foldl redV e) (hc : ∀ r ∈ l, x.1.toNat.testBit (top r.1) = false) (v : Vc) :
    InV (insS x l) v ↔ InV l v ∨ InV l (vx v e) := by
  obtain ⟨k1, k2⟩ := ins_kill hx hg hc
  have hk : ∀ v, ((insS x l).map rowV).foldl redV ((l.map rowV).foldl redV v) = ((insS x l).map rowV).foldl redV v := fun v => fold_kill _ (l.map rowV) v fun r hr => by
    obtain ⟨s, hs, rfl⟩ := List.mem_map.1 hr
    exact k2 s hs
  have hx0 : (l.map rowV).foldl redV (vec x) = vec x := fold_skip _ _ fun r hr => by
    obtain ⟨s, hs, rfl⟩ := List.mem_map.1 hr
    exact hc s hs
  constructor
  · intro h
    have key : (l.map rowV).foldl redV v = z0 ∨ (l.map rowV).foldl redV v = vec x := by
      refine fold_back (P := fun v => (l.map rowV).foldl redV v = z0 ∨ (l.map rowV).foldl redV v = vec x) (fun u v hu hv => ?_) ((insS x l).map rowV) v (fun r hr => ?_) ?_
      · rw [foldV_vx]
        rcases hu with hu | hu <;> rcases hv with hv | hv <;> rw [hu, hv]
        · exact .inl (vx_self _)
        · exact .inr (zero_vx _)
        · exact .inr (vx_zero _)
        · exact .inl (vx_self _)
      · obtain ⟨s, hs, rfl⟩ := List.mem_map.1 hr
        rcases ins_mem.1 hs with rfl | ⟨s', hs', rfl⟩
        · have e : (rowV (fin x)).2 = vec x := by
            show vec (x.1, pad (b16 x.2)) = _
            rw [pad16 (b16_len _), vec_b16]
          rw [e, hx0]; exact .inr rfl
        · rw [upd_vec hx (hg.mask s' hs')]
          split
          · rw [foldV_vx, hx0, fold_self hg hs']; exact .inr (zero_vx _)
          · rw [fold_self hg hs']; exact .inl rfl
      · have h : ((insS x l).map rowV).foldl redV v = z0 := h
        simp only [h]
        exact .inl (fold_zero _)
    rcases key with h1 | h1
    · exact .inl h1
    · right; unfold InV; rw [foldV_vx, h1, ← hv, vx_self]; rfl
  · rintro (h | h)
    · unfold InV at h ⊢; rw [← hk v, h]; exact fold_zero _
    · unfold InV at h ⊢
      rw [foldV_vx, ← hv] at h
      have : (l.map rowV).foldl redV v = vec x := by
        have := congrArg (fun w => vx w (vec x)) h
        simp only [vx_can] at this
        rw [this]; exact zero_vx _
      rw [← hk v, this]; exact k1

theorem sum_in {l : List Row} (hg : Good l) {m : Int} {b : List Int} (h0 : 0 ≤ m) (h1 : m < 65536) (hs : sumS l m = (b, true)) : InV l (vec (m, b)) := by
  have hv := (validS_good l).2 hg
  rw [sumS_def h0 h1 hv] at hs
  have vU := vec_foldl (x := (m, [])) ⟨h0, h1⟩ hg.mask
  unfold InV
  rw [vec_split, foldV_vx, fold_bytes, ← vU]
  generalize l.foldl red (m, []) = u at *
  split at hs
  · cases hs
  · rename_i hu
    have hu : u.1 = 0 := by simpa using hu
    have hb : b16 u.2 = b := congrArg Prod.fst hs
    have : vec u = vec (0, b) := by
      funext i
      cases i with
      | inl k => simp [vec, hu]
      | inr ij =>
        obtain ⟨i, j⟩ := ij
        simp only [vec]
        by_cases h : i < 16
        · rw [← hb, nth_b16 h]
        · simp [h]
    rw [this]; exact vx_self _

/-- what an equation adds -/
theorem in_add {B : List Int} {l : List Row} (h : Tru B l) {m : Int} (h0 : 1 ≤ m) (h1 : m < 65536) (v : Vc) :
    InV (addS l m (sumB B m)).1 v ↔ InV l v ∨ InV l (vx v (vec (m, sumB B m))) := by
  rcases add_law h.good ⟨h0, h1⟩ (sumB_len B m) (sumB_canon B m) with ⟨h2, h3, _⟩ | ⟨h2, h3⟩ | ⟨_, x, hx, h3, hG, _, hv, hc, _⟩
  · exact absurd (congrArg Prod.fst (truth_sum h.good h.tr (by omega) h1 h2)) h3
  · rw [h3]
    have hi := sum_in h.good (by omega) h1 h2
    refine ⟨.inl, fun hh => ?_⟩
    rcases hh with hh | hh
    · exact hh
    · unfold InV at hh hi ⊢
      rw [foldV_vx, hi] at hh
      rw [← hh]; exact (vx_zero _).symm
  · rw [h3]
    exact in_ins h.good hx hv hc v
def eqsB (B : List Int) (ms : List Int) : List Vc := (ms.filter fun m => m != 0).map fun m => vec (m, sumB B m)
theorem in_all {B : List Int} : ∀ {ms : List Int} {l : List Row} {es : List Vc}, Tru B l → (∀ x ∈ ms, 0 ≤ x ∧ x < 65536) → (∀ v, InV l v ↔ Sp es v) → ∀ v, InV (allS B ms l).1 v ↔ Sp ((eqsB B ms).reverse ++ es) v
  | [], l, es, _, _, h, v => by simpa [allS, eqsB] using h v
  | m :: ms, l, es, ht, hb, h, v => by
    have hb' := fun x hx => hb x (List.mem_cons_of_mem _ hx)
    have hm := hb m (List.mem_cons_self ..)
    unfold allS
    by_cases h0 : m = 0
    · subst h0
      simp only [beq_self_eq_true, if_true]
      have e : eqsB B (0 :: ms) = eqsB B ms := by simp [eqsB]
      rw [e]; exact in_all ht hb' h v
    · have e : eqsB B (m :: ms) = vec (m, sumB B m) :: eqsB B ms := by simp [eqsB, h0]
      obtain ⟨h1, h2⟩ := truth_add ht (m := m) (by omega) hm.2
      have e2 : (m == 0) = false := by simpa using h0
      dsimp only
      rw [e2, h1, e, List.reverse_cons, List.append_assoc]
      exact in_all h2 hb' (fun v => by rw [in_add ht (by omega) hm.2 v, h v, h (vx v _)]; rfl) v

/-! ### rows are told by what follows from them -/
theorem fold_top : ∀ {g : List Row}, Good g → ∀ {t : Nat} {v : Vc}, (∀ s ∈ g, t < top s.1 → v (.inl (top s.1)) = false) → (∀ s ∈ g, top s.1 ≠ t) → ((g.map rowV).foldl redV v) (.inl t) = v (.inl t)
  | [], _, t, v, _, _ => rfl
  | r :: g, hg, t, v, h1, h2 => by
    rw [List.map_cons, List.foldl_cons]
    have e : redV v (rowV r) = if v (.inl (top r.1)) then vx v (rowV r).2 else v := rfl
    have hm := hg.mask r (List.mem_cons_self ..)
    rw [e]
    split
    · rename_i hv
      have hlt : ¬ t < top r.1 := fun h => by rw [h1 r (List.mem_cons_self ..) h] at hv; cases hv
      have hne := h2 r (List.mem_cons_self ..)
      rw [fold_top hg.tail (fun s hs hst => ?_) fun s hs => h2 s (List.mem_cons_of_mem _ hs)]
      · show (v (.inl t) ^^ r.1.toNat.testBit t) = _
        rw [high_bit hm.1 (by omega)]; simp
      · show (v (.inl (top s.1)) ^^ r.1.toNat.testBit (top s.1)) = false
        rw [h1 s (List.mem_cons_of_mem _ hs) hst, ((List.pairwise_cons.1 hg.clear).1 s hs).1]; rfl
    · exact fold_top hg.tail (fun s hs => h1 s (List.mem_cons_of_mem _ hs)) fun s hs => h2 s (List.mem_cons_of_mem _ hs)
theorem top_in {l g : List Row} (hl : Good l) (hg : Good g) (h : ∀ v, InV l v → InV g v) {r : Row} (hr : r ∈ l) : ∃ s ∈ g, top s.1 = top r.1 := by
  by_cases hh : ∃ s ∈ g, top s.1 = top r.1
  · exact hh
  · exfalso
    have hm := hl.mask r hr
    have h1 : InV g (rowV r).2 := h _ (fold_self hl hr)
    have h2 := fold_top hg (t := top r.1) (v := (rowV r).2) (fun s hs hst => high_bit hm.1 hst) fun s hs he => hh ⟨s, hs, he⟩
    unfold InV at h1
    rw [h1] at h2
    have h3 : (rowV r).2 (.inl (top r.1)) = true := top_bit hm.1
    rw [h3] at h2; cases h2
theorem Good.apart {l : List Row} (h : Good l) {r s : Row} (hr : r ∈ l) (hs : s ∈ l) (hne : top s.1 ≠ top r.1) : r.1.toNat.testBit (top s.1) = false := by
  obtain ⟨a, ha⟩ := List.mem_iff_getElem?.1 hr
  obtain ⟨b, hb⟩ := List.mem_iff_getElem?.1 hs
  rcases Nat.lt_trichotomy a b with h' | h' | h'
  · exact (pairwise_at h.clear ha hb h').1
  · subst h'; rw [ha] at hb; cases hb; exact absurd rfl hne
  · exact (pairwise_at h.clear hb ha h').2
theorem row_in {l g : List Row} (hl : Good l) (hg : Good g) (cl : CR l) (cg : CR g) (h : ∀ v, InV l v ↔ InV g v) {r : Row} (hr : r ∈ l) : r ∈ g := by
  obtain ⟨s, hs, hst⟩ := top_in hl hg (fun v => (h v).1) hr
  have h1 : InV g (vx (rowV r).2 (rowV s).2) := by
    have h2 : InV g (rowV r).2 := (h _).1 (fold_self hl hr)
    have h3 : InV g (rowV s).2 := fold_self hg hs
    unfold InV at h2 h3 ⊢
    rw [foldV_vx, h2, h3]; exact vx_self _
  have h2 : vx (rowV r).2 (rowV s).2 = z0 := by
    rw [← h1]
    refine (fold_skip _ _ fun t ht => ?_).symm
    obtain ⟨t, htg, rfl⟩ := List.mem_map.1 ht
    show (r.1.toNat.testBit (top t.1) ^^ s.1.toNat.testBit (top t.1)) = false
    by_cases he : top t.1 = top s.1
    · rw [he, top_bit (hg.mask s hs).1, hst, top_bit (hl.mask r hr).1]; rfl
    · obtain ⟨t', ht', het⟩ := top_in hg hl (fun v => (h v).2) htg
      rw [hg.apart hs htg he, ← het, hl.apart hr ht' (by omega)]; rfl
  have h3 : (rowV r).2 = (rowV s).2 := by
    have := congrArg (fun w => vx w (rowV s).2) h2
    simp only [vx_can] at this
    rw [this]; exact zero_vx _
  have h4 : vec (r.1, pad r.2) = vec (s.1, pad s.2) := h3
  rw [pad16 (hl.len16 r hr), pad16 (hg.len16 s hs)] at h4
  have e1 : r.1 = s.1 := vec_inl (x := r) (y := s) (by have := (hl.mask r hr).1; omega) (by have := (hg.mask s hs).1; omega) h4
  have e2 : r.2 = s.2 := by
    have := b16_ext (x := r) (y := s) (cl r hr) (cg s hs) h4
    rwa [b16_id (hl.len16 r hr), b16_id (hg.len16 s hs)] at this
  have : r = s := Prod.ext e1 e2
  rw [this]; exact hs
theorem falls_ext : ∀ {l g : List Row}, (l.Pairwise fun a b => top b.1 < top a.1) → (g.Pairwise fun a b => top b.1 < top a.1) → (∀ r, r ∈ l ↔ r ∈ g) → l = g
  | [], [], _, _, _ => rfl
  | [], b :: g, _, _, h => by have := (h b).2 (List.mem_cons_self ..); cases this
  | a :: l, [], _, _, h => by have := (h a).1 (List.mem_cons_self ..); cases this
  | a :: l, b :: g, hl, hg, h => by
    obtain ⟨la, ll⟩ := List.pairwise_cons.1 hl
    obtain ⟨ga, gg⟩ := List.pairwise_cons.1 hg
    have e : a = b := by
      rcases List.mem_cons.1 ((h a).1 (List.mem_cons_self ..)) with e | h1
      · exact e
      · rcases List.mem_cons.1 ((h b).2 (List.mem_cons_self ..)) with e | h2
        · exact e.symm
        · have := ga a h1; have := la b h2; omega
    subst e
    rw [falls_ext ll gg fun r => ⟨fun hr => ?_, fun hr => ?_⟩]
    · rcases List.mem_cons.1 ((h r).1 (List.mem_cons_of_mem _ hr)) with rfl | h1
      · have := la r hr; omega
      · exact h1
    · rcases List.mem_cons.1 ((h r).2 (List.mem_cons_of_mem _ hr)) with rfl | h1
      · have := ga r hr; omega
      · exact h1
theorem rows_unique {l g : List Row} (hl : Good l) (hg : Good g) (cl : CR l) (cg : CR g) (h : ∀ v, InV l v ↔ InV g v) : l = g :=
  falls_ext hl.falls hg.falls fun r => ⟨row_in hl hg cl cg h, row_in hg hl cg cl fun v => (h v).symm⟩

/-- the order of equations, and repetitions, do not matter -/
theorem order_law {B ms ks : List Int} (hms : ∀ x ∈ ms, 0 ≤ x ∧ x < 65536) (hk : ∀ x, x ∈ ks ↔ x ∈ ms) : allS B ks [] = allS B ms [] := by
  have hks : ∀ x ∈ ks, 0 ≤ x ∧ x < 65536 := fun x hx => hms x ((hk x).1 hx)
  obtain ⟨h1, h2⟩ := truth_all (Tru.nil B) hms
  obtain ⟨h3, h4⟩ := truth_all (Tru.nil B) hks
  have h0 : ∀ v, InV [] v ↔ Sp [] v := fun v => Iff.rfl
  have hsub : ∀ (p q : List Int), (∀ x, x ∈ p → x ∈ q) → ∀ v, Sp ((eqsB B p).reverse ++ []) v → Sp ((eqsB B q).reverse ++ []) v := by
    intro p q hpq v
    refine Sp.sub fun e he => Sp.mem ?_
    simp only [List.append_nil, List.mem_reverse, eqsB, List.mem_map, List.mem_filter] at he ⊢
    obtain ⟨m, ⟨hm, hm0⟩, rfl⟩ := he
    exact ⟨m, ⟨hpq m hm, hm0⟩, rfl⟩
  refine Prod.ext (rows_unique h4.good h2.good h4.cr h2.cr fun v => ?_) (h3.trans h1.symm)
  rw [in_all (Tru.nil B) hks h0 v, in_all (Tru.nil B) hms h0 v]
  exact ⟨hsub ks ms (fun x => (hk x).1) v, hsub ms ks (fun x => (hk x).2) v⟩
end Go.Proofs.Ytgdeoaiakdkhcaa.Am

namespace Go.Proofs.Ytgdeoaiakdkhcaa.Am
set_option linter.unusedVariables false
open Go Go.RowKit Go.Proofs

/-! ### SolveOrder -/
noncomputable def lp6 : Code := sub [1, 1, 1, 1, 0, 1, 2, 3] (code Try.f6)
def tm6 (xs : List (List Dv)) (a : Int) (acc : AV) (i : Int) : List AV := [.bad, .d (.sl 1 xs), .d (u8 a), .ptr 0 0, .bad, .bad, .bad, .d (bo true), acc, .d (i64 i)] ++ List.replicate 61 .bad
section
variable {β : Type} (wl : WLT β) (y : YieldT β) (b : β) (R : AV → β → Prop) (K : Exit → List AV → List Blk → β → Prop)
set_option maxRecDepth 100000
theorem f6_round (xs l : List (List Dv)) (B : List Int) (a i : Int) : wpc Try.prog ⟨[], [], wl, y, true⟩ 100 lp6 (tm6 xs a (.own 40 1 l) i) [bk (cells256 B)] b (maskK 1 [1, 2, 3, 7, 8, 9] K) = (
  BIf (decide (i ≥ 0)) (BIf (true && decide (0 ≤ i)) (∃ x0, xs[Int.toNat i]? = some [u16 x0] ∧ BIf (true && decide ((l.length + 1) * 2 ≤ 140737488355328)) (BIf (decide ((xs.length : Int) = 0) || false) False (BIf (Int.tmod (IntKind.wrap IntKind.i64 a) (xs.length : Int) == i)
    (BIf (true && decide (0 ≤ i)) (∃ x3, xs[Int.toNat i]? = some [u16 x3] ∧ BIf (true && decide (((l ++ [[u16 x0]]).length + 1) * 2 ≤ 140737488355328)) (K Exit.normal (tm6 xs a (.own 40 1 (l ++ [[u16 x0]] ++ [[u16 x3]])) (IntKind.wrap IntKind.i64 (i - 1))) [bk (cells256 B)] b) False) False)
    (K Exit.normal (tm6 xs a (.own 40 1 (l ++ [[u16 x0]])) (IntKind.wrap IntKind.i64 (i - 1))) [bk (cells256 B)] b))) False) False) (K (Exit.exit 0) (tm6 xs a (.own 40 1 l) i) [bk (cells256 B)] b)) := by kernel_rfl
end
def backS (ms : List Int) (a : Int) : Nat → List Int
  | 0 => []
  | k + 1 => nth ms k :: ((if Int.tmod (IntKind.wrap .i64 a) (ms.length : Int) == (k : Int) then [nth ms k] else []) ++ backS ms a k)
theorem backS_len (ms : List Int) (a : Int) : ∀ k, (backS ms a k).length ≤ 2 * k
  | 0 => by simp [backS]
  | k + 1 => by
    have := backS_len ms a k
    simp only [backS]
    split <;> simp <;> omega
theorem words_at {ms : List Int} {k : Nat} (h : k < ms.length) : (wordsR ms)[k]? = some [u16 (nth ms k)] := by
  simp [wordsR, nth, List.getElem?_eq_getElem h]
theorem wr6 {Ev : Env Try.prog} {b : Ev.β} {Q : Exit → St Ev.β → Prop} (B ms : List Int) (a : Int) (hms : ms.length ≤ 40) : ∀ (k : Nat) (q : List Int), k ≤ ms.length → q.length + 2 * k ≤ 1000 →
    Q (.exit 0) ⟨tm6 (wordsR ms) a (.own 40 1 (wordsR (q ++ backS ms a k))) (-1), [bk (cells256 B)], b⟩ → WR Ev lp6 (k + 1) ⟨tm6 (wordsR ms) a (.own 40 1 (wordsR q)) ((k : Int) - 1), [bk (cells256 B)], b⟩ Q
  | 0, q, hk, hq, hQ => by
    refine WR.ofMask [1, 2, 3, 7, 8, 9] mixed (CX.Ok.of (u := true) CallsOk.nil SCallsOk.nil) (k := 100) ?_
    show wpc _ _ _ _ _ _ _ (maskK 1 _ _)
    rw [f6_round]
    refine BIf.f (by simp) ?_
    rw [show backS ms a 0 = [] from rfl, List.append_nil] at hQ
    exact hQ
  | k + 1, q, hk, hq, hQ => by
    refine WR.ofMask [1, 2, 3, 7, 8, 9] mixed (CX.Ok.of (u := true) CallsOk.nil SCallsOk.nil) (k := 100) ?_
    show wpc _ _ _ _ _ _ _ (maskK 1 _ _)
    rw [f6_round]
    have e : ((k + 1 : Nat) : Int) - 1 = (k : Int) := by omega
    rw [e]
    have g : (wordsR ms)[Int.toNat k]? = some [u16 (nth ms k)] := words_at (by omega)
    have w : IntKind.wrap .i64 ((k : Int) - 1) = (k : Int) - 1 := wrap_i64 (by omega) (by omega)
    have hw : ∀ (p : List Int) (x : Int), wordsR p ++ [[u16 x]] = wordsR (p ++ [x]) := fun p x => by simp [wordsR]
    have hl : (wordsR ms).length = ms.length := by simp [wordsR]
    rw [w, hl]
    refine BIf.t (by simp) (BIf.t (by simp) ⟨_, g, BIf.t (by simp [wordsR]; omega) (BIf.f (by rw [decide_eq_false (by omega)]; rfl) (BIf.of (fun h => BIf.t (by simp) ⟨_, g, BIf.t (by simp [wordsR]; omega) ?_⟩) fun h => ?_))⟩)
    · rw [hw, hw]
      refine wr6 B ms a hms k _ (by omega) (by simp; omega) ?_
      simpa [backS, h] using hQ
    · rw [hw]
      refine wr6 B ms a hms k _ (by omega) (by simp; omega) ?_
      simpa [backS, h] using hQ
def wl6 {β : Type} : WLT β := fun c tm hp b K => ∃ (B ms : List Int) (a : Int), c = .loop lp6 ∧ maskTm [1, 2, 3, 7, 8, 9] 0 tm = tm6 (wordsR ms) a (.d (.s (.slice none 0 0))) (IntKind.wrap .i64 ((ms.length : Int) - 1)) ∧ hp = [bk (cells256 B)] ∧ ms.length ≤ 40 ∧
  K (.exit 0) (tm6 (wordsR ms) a (.own 40 1 (wordsR (backS ms a ms.length))) (-1)) [bk (cells256 B)] b
theorem wl6_ok {Ev : Env Try.prog} (c : Code) (tm : List AV) (hp : List Blk) (b : Ev.β) (K : Exit → List AV → List Blk → Ev.β → Prop) (h : wl6 c tm hp b K) : W Ev c ⟨tm, hp, b⟩ (fun e s => K e s.tm s.hp s.b) := by
  obtain ⟨B, ms, a, rfl, htm, rfl, h0, hK⟩ := h
  rw [wrap_i64 (by omega) (by omega)] at htm
  refine W.cast (htm ▸ maskTm_le _ tm 0) (LeH.refl _) ?_
  refine W.cast (tm' := tm6 (wordsR ms) a (.own 40 1 (wordsR [])) ((ms.length : Int) - 1)) (LeL.at [_, _, _, _, _, _, _, _] _ (LeA.nilOwn rfl)) (LeH.refl _) ?_
  exact W.rounds (wr6 (Q := fun e s => K e s.tm s.hp s.b) B ms a h0 ms.length [] (Nat.le_refl _) (by simp; omega) hK)
set_option maxRecDepth 100000 in
theorem f6_nf {β : Type} (y : YieldT β) (b : β) (R : AV → β → Prop) (xs : List (List Dv)) (a : Int) (B : List Int) : wpFn Try.prog ⟨T5, [], wl6, y, false⟩ 200 Try.f6 [.agg (cells256 B), .d (.sl 1 xs), .d (u8 a)] b R = (
  ([] : List AV) = [] ∧ BIf (decide ((xs.length : Int) > 40)) (R (AV.d (bo true)) b) (∃ (B0 ms : List Int) (a' : Int), Code.loop lp6 = Code.loop lp6 ∧ tm6 xs a (.d (.s (.slice none 0 0))) (IntKind.wrap .i64 ((xs.length : Int) - 1)) = tm6 (wordsR ms) a' (.d (.s (.slice none 0 0))) (IntKind.wrap .i64 ((ms.length : Int) - 1)) ∧ [bk (cells256 B)] = [bk (cells256 B0)] ∧ ms.length ≤ 40 ∧
    ∃ (B3 ms4 : List Int) (o5 : List Row × Bool), [AV.agg (cells256 B0), AV.d (Dv.sl 1 (wordsR ms))] = [AV.agg (cells256 B3), AV.d (Dv.sl 1 (wordsR ms4))] ∧ (ms4.length ≤ 100 ∧ ∀ x ∈ ms4, 0 ≤ x ∧ x < 65536) ∧ o5 = allS B3 ms4 [] ∧
    ∃ (B6 ms7 : List Int) (o8 : List Row × Bool), [AV.agg (cells256 B0), AV.d (Dv.sl 1 (wordsR (backS ms a' ms.length)))] = [AV.agg (cells256 B6), AV.d (Dv.sl 1 (wordsR ms7))] ∧ (ms7.length ≤ 100 ∧ ∀ x ∈ ms7, 0 ≤ x ∧ x < 65536) ∧ o8 = allS B6 ms7 [] ∧
    BIf o5.2 (BIf o8.2 (∃ (p9 q10 : List Row) (r11 : Bool), [AV.d (Dv.sl 2 (rowsR o5.1)), AV.d (Dv.sl 2 (rowsR o8.1))] = [AV.d (Dv.sl 2 (rowsR p9)), AV.d (Dv.sl 2 (rowsR q10))] ∧ (p9.length ≤ 9223372036854775807 ∧ ∀ r ∈ p9, r.2.length ≤ 9223372036854775807) ∧ r11 = (p9 == q10) ∧ R (AV.d (bo r11)) b) (R (AV.d (bo false)) b)) (R (AV.d (bo false)) b))) := by kernel_rfl
theorem back_mem (ms : List Int) (a : Int) (x : Int) : ∀ k, k ≤ ms.length → (x ∈ backS ms a k ↔ x ∈ ms.take k)
  | 0, _ => by simp [backS]
  | k + 1, h => by
    have e : ms.take (k + 1) = ms.take k ++ [nth ms k] := by
      rw [List.take_add_one, List.getElem?_eq_getElem (by omega)]
      simp [nth, List.getD, List.getElem?_eq_getElem (show k < ms.length by omega)]
    rw [e, backS, List.mem_cons, List.mem_append, back_mem ms a x k (by omega), List.mem_append]
    split <;> simp <;> constructor <;> intro hh <;> rcases hh with hh | hh <;> simp [hh]
theorem pc6 (B ms : List Int) (a : Int) (hms : ∀ x ∈ ms, 0 ≤ x ∧ x < 65536) : PCall Try.prog 6 [.agg (cells256 B), .d (.sl 1 (wordsR ms)), .d (u8 a)] (.d (bo true)) := by
  refine PCall.ofFnW (n := 200) (u := false) (fun _ => wl6) mixed T5_ok SCallsOk.nil (fun Ev => wl6_ok) Try.func6 (by rfl) (by rfl) fun Ev b => ?_
  rw [f6_nf]
  have hl : (wordsR ms).length = ms.length := by simp [wordsR]
  rw [hl]
  refine ⟨rfl, BIf.of (fun _ => rfl) fun h => ?_⟩
  have h : ms.length ≤ 40 := by
    simp only [decide_eq_false_iff_not] at h; omega
  have hmem : ∀ x, x ∈ backS ms a ms.length ↔ x ∈ ms := fun x => by rw [back_mem ms a x _ (Nat.le_refl _), List.take_length]
  obtain ⟨h1, h2⟩ := truth_all (Tru.nil B) hms
  have hlen := h2.good.len
  have hb := backS_len ms a ms.length
  have ho := order_law (B := B) hms hmem
  refine ⟨B, ms, a, rfl, rfl, rfl, h, B, ms, _, rfl, ⟨by omega, hms⟩, rfl, B, _, _, rfl, ⟨by omega, fun x hx => hms x ((hmem x).1 hx)⟩, rfl, ?_⟩
  rw [ho]
  refine BIf.t h1 (BIf.t h1 ⟨_, _, _, rfl, ⟨by omega, fun r hr => by rw [h2.good.len16 r hr]; omega⟩, rfl, by rw [beq_self_eq_true]⟩)
end Go.Proofs.Ytgdeoaiakdkhcaa.Am

namespace Go.Proofs.Ytgdeoaiakdkhcaa.Am
set_option linter.unusedVariables false
open Go Go.RowKit Go.Proofs Go.ChangeShapes Go.WideShapes Go.ChangeAt

theorem Try_own : ownKnob Try.prog.godebug = none := by kernel_rfl
theorem Try_laidOut : laidOutB Try.prog = true := by kernel_rfl
theorem flat22 : flat Try.prog 20 22 = some [.sl [.int .i64, .sl [.int .u8]]] := by kernel_rfl

/-- bytes of a row -/
def goodRow (r : Row) : Prop := r.2.length ≤ maxLen ∧ (∀ x ∈ r.2, 0 ≤ x ∧ x < 256)
theorem bytes_of {x : Dv} (h : HasTy (.sl [.int .u8]) x) : ∃ p : List Int, x = .sl 1 (bytesR p) ∧ p.length ≤ maxLen ∧ ∀ a ∈ p, 0 ≤ a ∧ a < 256 := by
  cases h with
  | sl _ xs hl h =>
    have key : ∀ (xs : List (List Dv)), (∀ row ∈ xs, HasTys [.int .u8] row) → ∃ p : List Int, xs = bytesR p ∧ ∀ a ∈ p, 0 ≤ a ∧ a < 256 := by
      intro xs
      induction xs with
      | nil => exact fun _ => ⟨[], rfl, fun a h => by cases h⟩
      | cons row xs ih =>
        intro h
        obtain ⟨p, rfl, hp⟩ := ih fun r hr => h r (List.mem_cons_of_mem _ hr)
        have h0 := h row (List.mem_cons_self ..)
        cases h0 with
        | cons h1 h2 => cases h2 with
          | nil => cases h1 with
            | int _ n hw =>
              refine ⟨n :: p, rfl, fun a ha => ?_⟩
              rcases List.mem_cons.1 ha with rfl | ha
              · simp [Lit.wf, IntKind.min, IntKind.max, IntKind.signed, IntKind.bits] at hw; omega
              · exact hp a ha
    obtain ⟨p, rfl, hp⟩ := key xs h
    exact ⟨p, rfl, by simpa [bytesR] using hl, hp⟩
theorem rows_of {x : Dv} (h : HasTy (.sl [.int .i64, .sl [.int .u8]]) x) : ∃ l : List Row, x = .sl 2 (rowsR l) ∧ l.length ≤ maxLen ∧ ∀ r ∈ l, goodRow r := by
  cases h with
  | sl _ xs hl h =>
    have key : ∀ (xs : List (List Dv)), (∀ row ∈ xs, HasTys [.int .i64, .sl [.int .u8]] row) → ∃ l : List Row, xs = rowsR l ∧ ∀ r ∈ l, goodRow r := by
      intro xs
      induction xs with
      | nil => exact fun _ => ⟨[], rfl, fun a h => by cases h⟩
      | cons row xs ih =>
        intro h
        obtain ⟨l, rfl, hp⟩ := ih fun r hr => h r (List.mem_cons_of_mem _ hr)
        have h0 := h row (List.mem_cons_self ..)
        cases h0 with
        | cons h1 h2 => cases h2 with
          | cons h2 h3 => cases h3 with
            | nil => cases h1 with
              | int _ n hw =>
                obtain ⟨p, rfl, h4, h5⟩ := bytes_of h2
                refine ⟨(n, p) :: l, rfl, fun r hr => ?_⟩
                rcases List.mem_cons.1 hr with rfl | hr
                · exact ⟨h4, h5⟩
                · exact hp r hr
    obtain ⟨l, rfl, hp⟩ := key xs h
    exact ⟨l, rfl, by simpa [rowsR] using hl, hp⟩

set_option maxRecDepth 100000 in
theorem lifted8 (os : Os) (started : os.Started) (H : Type) (enc : TypeId × Value → H) :
    ReturnsInHanded {} Try.checked os 8 .any (Rows.solveSumsSpec.pre6 enc Try.prog Try.f8 Rows.solveSumsRow.domain false) (Rows.solveSumsSpec.post enc Try.prog Try.f8 false true false false) := by
  refine returnsInHanded_of_change (C := Try.checked) Try_own started (by kernel_rfl) Try.func8
    (ChangeSpec.witness6 (enc := enc) (C := Try.checked) false ⟨#[], #[.slice none 0 0, .int .u16 0, .int .u16 0], []⟩ 8 (by kernel_rfl) (by kernel_rfl) (by kernel_rfl) (by kernel_rfl)) ?_
  intro W base args ds gs before hval0 hW hcnd _
  have hval : ∀ (j : Nat) t v, Try.f8.params[j]? = some t → args[j]? = some v → Value.okWide Try.prog W .any base t v := hval0
  have hW' : DataW.Whole enc Try.prog Try.f8.params.toList Rows.solveSumsSpec.vars false W args.toList ds gs before := hW
  obtain ⟨p, q, hA0, hV, rfl, hfz, hnd⟩ := hW
  have hA : DataW.TrodAll enc Try.prog W 0 (fun _ => true) true Try.f8.params.toList args.toList ds p := hA0
  rw [Try.params8] at hA hval
  obtain ⟨v0, vs0, d0, ds0, p0, q0, hargs, rfl, rfl, h0, r0⟩ := trodAll_cons hA
  obtain ⟨v1, vs1, d1, ds1, p1, q1, rfl, rfl, rfl, h1, r1⟩ := trodAll_cons r0
  obtain ⟨v2, vs2, d2, ds2, p2, q2, rfl, rfl, rfl, h2, r2⟩ := trodAll_cons r1
  obtain ⟨rfl, rfl, rfl⟩ := trodAll_nil r2
  obtain rfl : args = #[v0, v1, v2] := by cases args; simp_all
  obtain ⟨x0, t0, g0⟩ := arg_slice Try.underlying22 flat22 (hval 0 22 v0 rfl rfl) h0
  obtain ⟨l, rfl, hl, _⟩ := rows_of t0
  obtain ⟨a, wa, g1⟩ := arg_int Try.underlying40 (hval 1 40 v1 rfl rfl) h1
  obtain ⟨c, wc, g2⟩ := arg_int Try.underlying40 (hval 2 40 v2 rfl rfl) h2
  exact law_calls (tb := 4) Try_laidOut rfl (by kernel_rfl) Try.underlying4 (by kernel_rfl) (fun ds hd => by
    match ds, hd with
    | [d1, d2, d3], _ => rfl) hW' _ (.cons g0 (.cons g1 (.cons g2 .nil))) (pc8 l a c hl (u16_bd wa) (u16_bd wc))

theorem solveSums : Rows.SolveSumsSaid :=
  OpenClaim.holds_of_wide 8 Try.f8 rfl rfl rfl rfl rfl rfl rfl ⟨rfl, rfl, rfl, rfl, rfl⟩ rfl rfl rfl rfl rfl (by kernel_rfl) Try.func8 (by kernel_rfl)
    (of_decide_eq_true (by kernel_rfl)) (by unfold Func.isWrapper; first | (rw [if_pos (by decide +kernel)]; kernel_rfl) | (rw [if_neg (by decide +kernel)]; exact ⟨rfl, rfl⟩))
    (fun os started H enc _ => lifted8 os started H enc)
#print axioms solveSums
end Go.Proofs.Ytgdeoaiakdkhcaa.Am

namespace Go.Proofs.Ytgdeoaiakdkhcaa.Am
set_option linter.unusedVariables false
open Go Go.RowKit Go.Proofs Go.ChangeShapes Go.WideShapes Go.ChangeAt

theorem flat25 : flat Try.prog 20 25 = some [.int .i64, .sl [.int .u8]] := by kernel_rfl
theorem flat39 : flat Try.prog 20 39 = some [.sl [.int .u16]] := by kernel_rfl
theorem row_of {row : List Dv} (h : HasTys [.int .i64, .sl [.int .u8]] row) : ∃ (m : Int) (p : List Int), row.map AV.d = [.d (i64 m), .d (.sl 1 (bytesR p))] ∧ ∀ x ∈ p, 0 ≤ x ∧ x < 256 := by
  cases h with
  | cons h1 h2 => cases h2 with
    | cons h2 h3 => cases h3 with
      | nil => cases h1 with
        | int _ n hw =>
          obtain ⟨p, rfl, _, h5⟩ := bytes_of h2
          exact ⟨n, p, rfl, h5⟩
theorem flat38 : flat Try.prog 20 38 = some (List.replicate 256 (.int .u8)) := by kernel_rfl
theorem u8s_of : ∀ {n : Nat} {row : List Dv}, HasTys (List.replicate n (.int .u8)) row → ∃ p : List Int, row = p.map u8 ∧ p.length = n ∧ ∀ x ∈ p, 0 ≤ x ∧ x < 256
  | 0, row, h => by
    cases h
    exact ⟨[], rfl, rfl, fun x h => by cases h⟩
  | n + 1, row, h => by
    cases h with
    | cons h1 h2 =>
      obtain ⟨p, rfl, hl, hp⟩ := u8s_of (n := n) h2
      cases h1 with
      | int _ x hw =>
        refine ⟨x :: p, rfl, by simp [hl], fun a ha => ?_⟩
        rcases List.mem_cons.1 ha with rfl | ha
        · simp [Lit.wf, IntKind.min, IntKind.max, IntKind.signed, IntKind.bits] at hw; omega
        · exact hp a ha
theorem words_of {x : Dv} (h : HasTy (.sl [.int .u16]) x) : ∃ p : List Int, x = .sl 1 (p.map fun x => [u16 x]) ∧ p.length ≤ maxLen ∧ ∀ a ∈ p, 0 ≤ a ∧ a < 65536 := by
  cases h with
  | sl _ xs hl h =>
    have key : ∀ (xs : List (List Dv)), (∀ row ∈ xs, HasTys [.int .u16] row) → ∃ p : List Int, xs = (p.map fun x => [u16 x]) ∧ ∀ a ∈ p, 0 ≤ a ∧ a < 65536 := by
      intro xs
      induction xs with
      | nil => exact fun _ => ⟨[], rfl, fun a h => by cases h⟩
      | cons row xs ih =>
        intro h
        obtain ⟨p, rfl, hp⟩ := ih fun r hr => h r (List.mem_cons_of_mem _ hr)
        have h0 := h row (List.mem_cons_self ..)
        cases h0 with
        | cons h1 h2 => cases h2 with
          | nil => cases h1 with
            | int _ n hw =>
              refine ⟨n :: p, rfl, fun a ha => ?_⟩
              rcases List.mem_cons.1 ha with rfl | ha
              · simp [Lit.wf, IntKind.min, IntKind.max, IntKind.signed, IntKind.bits] at hw; omega
              · exact hp a ha
    obtain ⟨p, rfl, hp⟩ := key xs h
    exact ⟨p, rfl, by simpa using hl, hp⟩
end Go.Proofs.Ytgdeoaiakdkhcaa.Am

namespace Go.Proofs.Ytgdeoaiakdkhcaa.Am
set_option linter.unusedVariables false
open Go Go.RowKit Go.Proofs

/-! ### the reference's Copy -/
noncomputable def lp36 : Code := sub [1, 1, 0, 1, 2, 3] (code Try.f36)
def tm36 (acc : AV) (xs : List (List Dv)) (i : Int) : List AV := [.d (.sl 2 xs), .bad, .bad, acc, .d (i64 i)] ++ List.replicate 25 .bad
/-- rows are laid as blocks that grow -/
def GT : List (Nat × (List AV → List Blk → (AV → List Blk → Prop) → Prop)) := [(1000025, fun _ _ _ => False)]
theorem GT_ok : SCallsOk Try.prog GT := by
  intro k f h args hp K hf
  simp only [GT, List.lookup_cons, List.lookup_nil] at h
  split at h
  · cases h; exact hf.elim
  · cases h
section
variable {β : Type} (wl : WLT β) (y : YieldT β) (b : β) (R : AV → List Blk → β → Prop) (K : Exit → List AV → List Blk → β → Prop)
theorem f36_round (xs : List (List Dv)) (cs : List AV) (i : Int) (n v : Nat) : wpc Try.prog ⟨[], GT, wl, y, false⟩ 100 lp36 (tm36 (.gref 0 v n 2) xs i) [⟨cs, false, true, v⟩] b (maskT [0, 3, 4] K) = (
  BIf (decide (i < (xs.length : Int))) (BIf (true && decide (0 ≤ i)) (∃ x0 xs1, xs[Int.toNat i]? = some [i64 x0, Dv.sl 1 xs1] ∧ BIf (decide (xs1.length * 1 ≤ 140737488355328)) (BIf (true && decide (0 ≤ i)) (∃ x4 xs5, xs[Int.toNat i]? = some [i64 x4, Dv.sl 1 xs5] ∧ v = v ∧ BIf (decide ((n + 1) * 32 ≤ 140737488355328))
    (K Exit.normal (tm36 (.gref 0 (v + 1) (n + 1) 2) xs (IntKind.wrap IntKind.i64 (i + 1))) [⟨cs ++ [AV.d (i64 x4), AV.d (Dv.sl 1 xs1)], false, true, v + 1⟩] b) False) False) False) False)
  (K (Exit.exit 0) (tm36 (.gref 0 v n 2) xs i) [⟨cs, false, true, v⟩] b)) := by kernel_rfl
theorem f36_round0 (xs : List (List Dv)) (i : Int) : wpc Try.prog ⟨[], GT, wl, y, false⟩ 100 lp36 (tm36 nilA xs i) [] b (maskT [0, 3, 4] K) = (
  BIf (decide (i < (xs.length : Int))) (BIf (true && decide (0 ≤ i)) (∃ x0 xs1, xs[Int.toNat i]? = some [i64 x0, Dv.sl 1 xs1] ∧ BIf (decide (xs1.length * 1 ≤ 140737488355328)) (BIf (true && decide (0 ≤ i)) (∃ x4 xs5, xs[Int.toNat i]? = some [i64 x4, Dv.sl 1 xs5] ∧
    K Exit.normal (tm36 (.gref 0 0 1 2) xs (IntKind.wrap IntKind.i64 (i + 1))) [⟨[AV.d (i64 x4), AV.d (Dv.sl 1 xs1)], false, true, 0⟩] b) False) False) False)
  (K (Exit.exit 0) (tm36 nilA xs i) [] b)) := by kernel_rfl
end
theorem flatA_rows (l : List Row) (r : Row) : flatA (rowsR l) ++ [AV.d (i64 r.1), AV.d (.sl 1 (bytesR r.2))] = flatA (rowsR (l ++ [r])) := by simp [flatA, rowsR, rowD]
theorem take_snoc {α : Type} {l : List α} {k : Nat} {r : α} (h : l[k]? = some r) : l.take (k + 1) = l.take k ++ [r] := by
  rw [List.take_add_one, h]; rfl
def smallRows (l : List Row) : Prop := l.length ≤ 1000 ∧ ∀ r ∈ l, r.2.length ≤ 1000
theorem wr36 {Ev : Env Try.prog} {b : Ev.β} {Q : Exit → St Ev.β → Prop} (l : List Row) (hl : smallRows l) (hQ : Q (.exit 0) ⟨tm36 (.gref 0 (l.length - 1) l.length 2) (rowsR l) l.length, [⟨flatA (rowsR l), false, true, l.length - 1⟩], b⟩) : ∀ (rest : List Row) (k : Nat), l.drop (k + 1) = rest → k + 1 ≤ l.length →
    WR Ev lp36 (rest.length + 1) ⟨tm36 (.gref 0 k (k + 1) 2) (rowsR l) ((k + 1 : Nat) : Int), [⟨flatA (rowsR (l.take (k + 1))), false, true, k⟩], b⟩ Q
  | [], k, hd, hk => by
    refine WR.ofMaskT [0, 3, 4] mixed (CX.Ok.of (u := false) CallsOk.nil GT_ok) (k := 100) ?_
    rw [f36_round]
    have := drop_nil hd
    obtain rfl : k = l.length - 1 := by omega
    refine BIf.f (by simp [rowsR]; omega) ?_
    have e : l.length - 1 + 1 = l.length := by omega
    rw [e, List.take_length]; exact hQ
  | (m, p) :: rest, k, hd, hk => by
    refine WR.ofMaskT [0, 3, 4] mixed (CX.Ok.of (u := false) CallsOk.nil GT_ok) (k := 100) ?_
    rw [f36_round]
    obtain ⟨hk, hr, hd'⟩ := drop_cons hd
    have g : (rowsR l)[Int.toNat ((k + 1 : Nat) : Int)]? = some [i64 m, .sl 1 (bytesR p)] := by simp [rowsR, hr, rowD]
    have hp := hl.2 _ (List.mem_of_getElem? hr)
    have h1 := hl.1
    refine BIf.t (by simp only [rowsR, List.length_map]; exact decide_eq_true (by omega)) (BIf.t (by simp; omega) ⟨_, _, g, BIf.t (by simp only [bytesR, List.length_map]; exact decide_eq_true (by simp only at hp; omega)) (BIf.t (by simp; omega) ⟨_, _, g, rfl, BIf.t (decide_eq_true (by omega)) ?_⟩)⟩)
    rw [wrap_succ hk (by omega), flatA_rows (l.take (k + 1)) (m, p), ← take_snoc hr]
    exact wr36 l hl hQ rest (k + 1) hd' hk
def wl36 {β : Type} (l : List Row) : WLT β := fun c tm hp b K => c = .loop lp36 ∧ maskTm [0, 3, 4] 0 tm = tm36 nilA (rowsR l) 0 ∧ hp = [] ∧
  K (.exit 0) (tm36 (.gref 0 (l.length - 1) l.length 2) (rowsR l) l.length) [⟨flatA (rowsR l), false, true, l.length - 1⟩] b
theorem wl36_ok {Ev : Env Try.prog} (l : List Row) (hl : smallRows l) (hne : l ≠ []) (c : Code) (tm : List AV) (hp : List Blk) (b : Ev.β) (K : Exit → List AV → List Blk → Ev.β → Prop) (h : wl36 l c tm hp b K) : W Ev c ⟨tm, hp, b⟩ (fun e s => K e s.tm s.hp s.b) := by
  obtain ⟨rfl, htm, rfl, hK⟩ := h
  refine W.cast (htm ▸ maskTm_le _ tm 0) (LeH.refl _) ?_
  cases l with
  | nil => exact absurd rfl hne
  | cons r0 rest =>
    obtain ⟨m, p⟩ := r0
    have hp := hl.2 _ (List.mem_cons_self ..)
    have h1 := hl.1
    refine W.rounds (m := (rest.length + 1) + 1) (WR.ofMaskT [0, 3, 4] mixed (CX.Ok.of (u := false) CallsOk.nil GT_ok) (k := 100) ?_)
    rw [f36_round0]
    have g : (rowsR ((m, p) :: rest))[Int.toNat 0]? = some [i64 m, .sl 1 (bytesR p)] := rfl
    refine BIf.t (by simp [rowsR]) (BIf.t rfl ⟨_, _, g, BIf.t (by simp only [bytesR, List.length_map]; exact decide_eq_true (by simp only at hp; omega)) (BIf.t rfl ⟨_, _, g, ?_⟩)⟩)
    exact wr36 (Q := fun e s => K e s.tm s.hp s.b) ((m, p) :: rest) hl hK rest 0 rfl (by simp)
section
variable {β : Type} (wl : WLT β) (y : YieldT β) (b : β) (R : AV → List Blk → β → Prop)
theorem f36_nf (l : List Row) (xs : List (List Dv)) : wpFnS Try.prog ⟨[], GT, wl36 l, y, false⟩ 100 Try.f36 [.d (.sl 2 xs)] b R = (
  Code.loop lp36 = Code.loop lp36 ∧ tm36 nilA xs 0 = tm36 nilA (rowsR l) 0 ∧ ([] : List Blk) = [] ∧ R (.gref 0 (l.length - 1) l.length 2) [⟨flatA (rowsR l), false, true, l.length - 1⟩] b) := by kernel_rfl
theorem f36n_nf : wpFnS Try.prog ⟨[], GT, wl, y, true⟩ 100 Try.f36 [.d (.sl 2 [])] b R = R nilA [] b := by kernel_rfl
end
theorem fc36 (l : List Row) (hl : smallRows l) (hne : l ≠ []) : FCall Try.prog 36 [.d (.sl 2 (rowsR l))] (.gref 0 (l.length - 1) l.length 2) [⟨flatA (rowsR l), false, true, l.length - 1⟩] := by
  refine FCall.ofFnW (n := 100) (u := false) (fun _ => wl36 l) mixed CallsOk.nil GT_ok (fun Ev => wl36_ok l hl hne) Try.func36 (by rfl) (by rfl) (by rfl) fun Ev bb => ?_
  rw [f36_nf]
  exact ⟨rfl, rfl, rfl, rfl, rfl⟩
theorem fc36n : FCall Try.prog 36 [.d (.sl 2 [])] nilA [] := by
  refine FCall.ofFnW (n := 100) (u := true) wlNo mixed CallsOk.nil GT_ok (fun Ev => wlNo_ok Ev) Try.func36 (by rfl) (by rfl) (by rfl) fun Ev bb => ?_
  rw [f36n_nf]
  exact ⟨rfl, rfl⟩
theorem pc36 (l : List Row) (hl : smallRows l) : PCall Try.prog 36 [.d (.sl 2 (rowsR l))] (.d (.sl 2 (rowsR l))) := by
  by_cases hne : l = []
  · subst hne
    exact PCall.le (x := nilA) (.base (LeA.nilSl rfl)) rfl (fc36n.toP (.v rfl))
  · refine (fc36 l hl hne).toP (.gref rfl rfl rfl rfl (by simp [rowsR]) fun r hr => ?_)
    obtain ⟨x, _, rfl⟩ := List.mem_map.1 hr
    rfl
def c36 (args : List AV) (K : AV → Prop) : Prop := ∃ (l : List Row), args = [.d (.sl 2 (rowsR l))] ∧ smallRows l ∧ K (.d (.sl 2 (rowsR l)))
theorem c36_ok : ∀ args K, c36 args K → ∃ x, PCall Try.prog 36 args x ∧ K x := by
  rintro _ K ⟨l, rfl, h1, h⟩; exact ⟨_, pc36 l h1, h⟩
def s36 (args : List AV) (hp : List Blk) (K : AV → List Blk → Prop) : Prop := ∃ (l : List Row), args = [.d (.sl 2 (rowsR l))] ∧ smallRows l ∧
  BIf (decide (l.length = 0)) (K nilA hp) (K (.gref hp.length (l.length - 1) l.length 2) (hp ++ [⟨flatA (rowsR l), false, true, l.length - 1⟩]))
theorem s36_ok : ∀ args hp K, s36 args hp K → ∃ x hp', SCall Try.prog 36 args hp x hp' ∧ K x hp' := by
  rintro _ hp K ⟨l, rfl, h1, h⟩
  by_cases hne : l = []
  · subst hne
    have := fc36n.toS rfl hp
    simp only [shift, nilA, shiftH, List.map_nil, List.append_nil] at this
    exact ⟨_, _, this, bif_t h rfl⟩
  · have := (fc36 l h1 hne).toS rfl hp
    simp only [shift, shiftH, List.map_cons, List.map_nil, shiftB, shifts_flatA, Nat.add_zero] at this
    have hl : l.length ≠ 0 := fun hh => hne (List.length_eq_zero_iff.1 hh)
    exact ⟨_, _, this, bif_f h (decide_eq_false hl)⟩
end Go.Proofs.Ytgdeoaiakdkhcaa.Am

namespace Go.Proofs.Ytgdeoaiakdkhcaa.Am
set_option linter.unusedVariables false
open Go Go.RowKit Go.Proofs

/-! ### Zero -/
noncomputable def lp35 : Code := sub [1, 0, 1, 2, 3] (code Try.f35)
def tm35 (xs : List (List Dv)) (i : Int) : List AV := [.d (.sl 1 xs), .bad, .bad, .d (i64 i)] ++ List.replicate 11 .bad
section
variable {β : Type} (wl : WLT β) (y : YieldT β) (b : β) (R : AV → β → Prop) (K : Exit → List AV → List Blk → β → Prop)
theorem f35_round (xs : List (List Dv)) (i : Int) : wpc Try.prog ⟨[], [], wl, y, false⟩ 100 lp35 (tm35 xs i) [] b (maskT [0, 2, 3] K) = (
  BIf (decide (i < (xs.length : Int))) (BIf (true && decide (0 ≤ i)) (∃ x0, xs[Int.toNat i]? = some [u8 x0] ∧ BIf (x0 != 0) (K Exit.ret ((tm35 xs i).set 2 (.d (bo false))) [] b) (K Exit.normal (tm35 xs (IntKind.wrap IntKind.i64 (i + 1))) [] b)) False)
  (K (Exit.exit 0) (tm35 xs i) [] b)) := by kernel_rfl
end
def zeroL (p : List Int) : Bool := p.all fun x => x == 0
theorem wr35 {Ev : Env Try.prog} {b : Ev.β} {Q : Exit → St Ev.β → Prop} (p : List Int) (hl : p.length ≤ 9223372036854775807) : ∀ (rest : List Int) (k : Nat), p.drop k = rest →
    BIf (zeroL rest) (Q (.exit 0) ⟨tm35 (bytesR p) p.length, [], b⟩) (∀ i : Int, Q .ret ⟨(tm35 (bytesR p) i).set 2 (.d (bo false)), [], b⟩) → k ≤ p.length → WR Ev lp35 (rest.length + 1) ⟨tm35 (bytesR p) k, [], b⟩ Q
  | [], k, hd, hQ, hk => by
    refine WR.ofMaskT [0, 2, 3] mixed (CX.Ok.of (u := false) CallsOk.nil SCallsOk.nil) (k := 100) ?_
    rw [f35_round]
    have := drop_nil hd
    obtain rfl : k = p.length := by omega
    exact BIf.f (by simp [bytesR]) hQ
  | x :: rest, k, hd, hQ, hk => by
    refine WR.ofMaskT [0, 2, 3] mixed (CX.Ok.of (u := false) CallsOk.nil SCallsOk.nil) (k := 100) ?_
    rw [f35_round]
    obtain ⟨hk, hr, hd'⟩ := drop_cons hd
    refine BIf.t (by simpa [bytesR] using hk) (BIf.t (by simp) ⟨x, by simp [bytesR, hr], BIf.of (fun h => ?_) fun h => ?_⟩)
    · have h : x ≠ 0 := by simpa [bne] using h
      exact bif_f hQ (by simp [zeroL, h]) k
    · have h : x = 0 := by simpa [bne] using h
      rw [wrap_succ hk hl]
      refine wr35 p hl rest (k + 1) hd' ?_ hk
      subst h
      have e : zeroL (0 :: rest) = zeroL rest := by simp [zeroL]
      rw [e] at hQ; exact hQ
def wl35 {β : Type} : WLT β := fun c tm hp b K => ∃ (p : List Int), c = .loop lp35 ∧ maskTm [0, 3] 0 tm = tm35 (bytesR p) 0 ∧ hp = [] ∧ p.length ≤ 9223372036854775807 ∧
  BIf (zeroL p) (K (.exit 0) (tm35 (bytesR p) p.length) [] b) (∀ i : Int, K .ret ((tm35 (bytesR p) i).set 2 (.d (bo false))) [] b)
theorem wl35_ok {Ev : Env Try.prog} (c : Code) (tm : List AV) (hp : List Blk) (b : Ev.β) (K : Exit → List AV → List Blk → Ev.β → Prop) (h : wl35 c tm hp b K) : W Ev c ⟨tm, hp, b⟩ (fun e s => K e s.tm s.hp s.b) := by
  obtain ⟨p, rfl, htm, rfl, h0, hK⟩ := h
  refine W.cast (htm ▸ maskTm_le _ tm 0) (LeH.refl _) ?_
  exact W.rounds (wr35 (Q := fun e s => K e s.tm s.hp s.b) p h0 p 0 rfl hK (Nat.zero_le _))
theorem f35_nf {β : Type} (y : YieldT β) (b : β) (R : AV → β → Prop) (xs : List (List Dv)) : wpFn Try.prog ⟨[], [], wl35, y, false⟩ 100 Try.f35 [.d (.sl 1 xs)] b R = (
  ∃ p : List Int, Code.loop lp35 = Code.loop lp35 ∧ tm35 xs 0 = tm35 (bytesR p) 0 ∧ ([] : List Blk) = [] ∧ p.length ≤ 9223372036854775807 ∧ BIf (zeroL p) (R (.d (bo true)) b) (∀ i : Int, R (.d (bo false)) b)) := by kernel_rfl
theorem pc35 (p : List Int) (hl : p.length ≤ 9223372036854775807) : PCall Try.prog 35 [.d (.sl 1 (bytesR p))] (.d (bo (zeroL p))) := by
  refine PCall.ofFnW (n := 100) (u := false) (fun _ => wl35) mixed CallsOk.nil SCallsOk.nil (fun Ev => wl35_ok) Try.func35 (by rfl) (by rfl) fun Ev bb => ?_
  rw [f35_nf]
  exact ⟨p, rfl, rfl, rfl, hl, BIf.of (fun h => by rw [h]) fun h _ => by rw [h]⟩
def c35 (args : List AV) (K : AV → Prop) : Prop := ∃ (p : List Int) (r : Bool), args = [.d (.sl 1 (bytesR p))] ∧ p.length ≤ 9223372036854775807 ∧ r = zeroL p ∧ K (.d (bo r))
theorem c35_ok : ∀ args K, c35 args K → ∃ x, PCall Try.prog 35 args x ∧ K x := by
  rintro _ K ⟨p, _, rfl, h0, rfl, h⟩; exact ⟨_, pc35 p h0, h⟩

/-! ### Solved -/
def T15 : List (Nat × (List AV → (AV → Prop) → Prop)) := [(21, c21), (36, c36)]
theorem T15_ok : CallsOk Try.prog T15 := CallsOk.cons c21_ok (CallsOk.cons c36_ok CallsOk.nil)
noncomputable def lp15 : Code := sub [1, 1, 1, 0, 1, 2, 3] (code Try.f15)
def tm15 (xs : List (List Dv)) (j i : Int) : List AV := [.bad, .d (i64 j), .bad, .bad, .bad, .bad, .d (.sl 2 xs), .d (i64 i)] ++ List.replicate 33 .bad
def rt15 (xs ds : List (List Dv)) (j i : Int) : List AV := [.bad, .d (i64 j), .bad, .bad, .d (.sl 1 ds), .d (bo true), .d (.sl 2 xs), .d (i64 i)] ++ List.replicate 33 .bad
section
variable {β : Type} (wl : WLT β) (y : YieldT β) (b : β) (R : AV → β → Prop) (K : Exit → List AV → List Blk → β → Prop)
theorem f15_round (xs : List (List Dv)) (j i : Int) : wpc Try.prog ⟨T15, [], wl, y, false⟩ 100 lp15 (tm15 xs j i) [] b (maskT [1, 4, 5, 6, 7] K) = (
  BIf (decide (i < (xs.length : Int))) (BIf (true && decide (0 ≤ i)) (∃ x0 xs1, xs[Int.toNat i]? = some [i64 x0, Dv.sl 1 xs1] ∧ BIf (decide (IntKind.wrap IntKind.u64 j < 0)) False (BIf (x0 == IntKind.wrap IntKind.i64 (1 * 2 ^ min (Int.toNat (IntKind.wrap IntKind.u64 j)) 64))
    (BIf (true && decide (0 ≤ i)) (∃ x4 xs5, xs[Int.toNat i]? = some [i64 x4, Dv.sl 1 xs5] ∧ K Exit.ret (rt15 xs xs5 j i) [] b) False) (K Exit.normal (tm15 xs j (IntKind.wrap IntKind.i64 (i + 1))) [] b))) False)
  (K (Exit.exit 0) (tm15 xs j i) [] b)) := by kernel_rfl
end
theorem wrap_u64_id {x : Int} (h0 : 0 ≤ x) (h1 : x < 18446744073709551616) : IntKind.wrap .u64 x = x := by
  simp only [IntKind.wrap]; simp [IntKind.signed, IntKind.bits]; omega
theorem wr15 {Ev : Env Try.prog} {b : Ev.β} {Q : Exit → St Ev.β → Prop} (l : List Row) (hl : l.length ≤ 9223372036854775807) (j : Int) (hj : 0 ≤ j ∧ j < 16) : ∀ (rest : List Row) (k : Nat), l.drop k = rest →
    (match rest.find? fun r => r.1 == bit j with
      | some r => ∀ i : Int, Q .ret ⟨rt15 (rowsR l) (bytesR r.2) j i, [], b⟩
      | none => Q (.exit 0) ⟨tm15 (rowsR l) j l.length, [], b⟩) → k ≤ l.length → WR Ev lp15 (rest.length + 1) ⟨tm15 (rowsR l) j k, [], b⟩ Q
  | [], k, hd, hQ, hk => by
    refine WR.ofMaskT [1, 4, 5, 6, 7] mixed (CX.Ok.of (u := false) T15_ok SCallsOk.nil) (k := 100) ?_
    rw [f15_round]
    have := drop_nil hd
    obtain rfl : k = l.length := by omega
    exact BIf.f (by simp [rowsR]) hQ
  | r :: rest, k, hd, hQ, hk => by
    refine WR.ofMaskT [1, 4, 5, 6, 7] mixed (CX.Ok.of (u := false) T15_ok SCallsOk.nil) (k := 100) ?_
    rw [f15_round, wrap_u64_id hj.1 (by omega)]
    obtain ⟨hk, hr, hd'⟩ := drop_cons hd
    have g : (rowsR l)[Int.toNat k]? = some [i64 r.1, .sl 1 (bytesR r.2)] := by simp [rowsR, hr, rowD]
    rw [List.find?_cons] at hQ
    refine BIf.t (by simpa [rowsR] using hk) (BIf.t (by simp) ⟨_, _, g, BIf.f (by simp; omega) (BIf.of (fun h => BIf.t (by simp) ⟨_, _, g, ?_⟩) fun h => ?_)⟩)
    · change (r.1 == bit j) = true at h
      rw [h] at hQ; exact hQ k
    · change (r.1 == bit j) = false at h
      rw [h] at hQ
      rw [wrap_succ hk hl]
      exact wr15 l hl j hj rest (k + 1) hd' hQ hk
def wl15 {β : Type} : WLT β := fun c tm hp b K => ∃ (l : List Row) (j : Int), c = .loop lp15 ∧ maskTm [1, 6, 7] 0 tm = tm15 (rowsR l) j 0 ∧ hp = [] ∧ (l.length ≤ 9223372036854775807 ∧ 0 ≤ j ∧ j < 16) ∧
  BIf (findS l j).isSome (∀ i : Int, ∃ q, q = (match findS l j with | some r => r.2 | none => []) ∧ K .ret (rt15 (rowsR l) (bytesR q) j i) [] b) (K (.exit 0) (tm15 (rowsR l) j l.length) [] b)
theorem wl15_ok {Ev : Env Try.prog} (c : Code) (tm : List AV) (hp : List Blk) (b : Ev.β) (K : Exit → List AV → List Blk → Ev.β → Prop) (h : wl15 c tm hp b K) : W Ev c ⟨tm, hp, b⟩ (fun e s => K e s.tm s.hp s.b) := by
  obtain ⟨l, j, rfl, htm, rfl, ⟨h0, h1⟩, hK⟩ := h
  refine W.cast (htm ▸ maskTm_le _ tm 0) (LeH.refl _) ?_
  refine W.rounds (wr15 (Q := fun e s => K e s.tm s.hp s.b) l h0 j h1 l 0 rfl ?_ (Nat.zero_le _))
  change match findS l j with | some r => _ | none => _
  cases hf : findS l j with
  | some r =>
    rw [hf] at hK
    intro i
    obtain ⟨q, rfl, hq⟩ := bif_t hK rfl i
    exact hq
  | none =>
    rw [hf] at hK
    exact bif_f hK rfl
theorem f15_nf {β : Type} (y : YieldT β) (b : β) (R : AV → β → Prop) (xs : List (List Dv)) (j : Int) : wpFn Try.prog ⟨T15, [], wl15, y, false⟩ 100 Try.f15 [.d (.sl 2 xs), .d (i64 j)] b R = (
  ∃ l0 : List Row, [AV.d (Dv.sl 2 xs)] = [AV.d (Dv.sl 2 (rowsR l0))] ∧ l0.length ≤ 9223372036854775807 ∧ BIf (!validR l0) (R (AV.tup [nilA, AV.d (bo false)]) b) (BIf (decide (j < 0)) (R (AV.tup [nilA, AV.d (bo false)]) b) (BIf (decide (j ≥ 16)) (R (AV.tup [nilA, AV.d (bo false)]) b)
  (∃ l1 : List Row, [AV.d (Dv.sl 2 xs)] = [AV.d (Dv.sl 2 (rowsR l1))] ∧ smallRows l1 ∧ ∃ (l : List Row) (j' : Int), Code.loop lp15 = Code.loop lp15 ∧ tm15 (rowsR l1) j 0 = tm15 (rowsR l) j' 0 ∧ ([] : List Blk) = [] ∧ (l.length ≤ 9223372036854775807 ∧ 0 ≤ j' ∧ j' < 16) ∧
    BIf (findS l j').isSome (∀ i : Int, ∃ q, q = (match findS l j' with | some r => r.2 | none => []) ∧ R (AV.tup [AV.d (.sl 1 (bytesR q)), AV.d (bo true)]) b) (R (AV.tup [nilA, AV.d (bo false)]) b))))) := by kernel_rfl
/-- what the reference's Solved answers is what Solved answers -/
theorem pc15 (l : List Row) (i : Int) (hs : smallRows l) : PCall Try.prog 15 [.d (.sl 2 (rowsR l)), .d (i64 i)] (bytesB (solvedS l i)) := by
  have hl : l.length ≤ 9223372036854775807 := by have := hs.1; omega
  refine PCall.ofFnL (n := 100) (u := false) (fun _ => wl15) mixed T15_ok SCallsOk.nil (fun Ev => wl15_ok) Try.func15 (by rfl) (by rfl) fun Ev bb => ?_
  rw [f15_nf]
  have hbad : (decide (i < 0) || (decide (i ≥ 16) || !validS l)) = true → LeT (.tup [nilA, .d (bo false)]) (bytesB (solvedS l i)) := by
    intro h
    unfold solvedS
    rw [h]
    exact nilTup1 _
  refine ⟨l, rfl, hl, BIf.of (fun hv => hbad ?_) fun hv => BIf.of (fun h1 => hbad ?_) fun h1 => BIf.of (fun h2 => hbad ?_) fun h2 => ⟨l, rfl, hs, l, i, rfl, rfl, rfl, ⟨hl, ?_⟩, ?_⟩⟩
  · rw [← validR_eq l, hv]; simp
  · rw [h1]; rfl
  · rw [h2]; simp
  · simp at h1 h2; omega
  · have hv : validR l = true := by simpa using hv
    have hg := (validR_good l).1 hv
    have e : (decide (i < 0) || (decide (i ≥ 16) || !validS l)) = false := by rw [h1, h2, ← validR_eq l, hv]; rfl
    have e2 : solvedS l i = if (findS l i).isSome then (foundS l i, true) else ([], false) := by unfold solvedS; rw [e]; rfl
    rw [e2]
    refine BIf.of (fun hf i' => ⟨_, rfl, ?_⟩) fun hf => ?_
    · rw [if_pos hf]
      unfold foundS
      cases hfs : findS l i with
      | none => rw [hfs] at hf; cases hf
      | some r =>
        have hm := List.mem_of_find?_eq_some hfs
        have := hg.len16 r hm
        simp only [pad16 this, b16_id this]
        exact .rfl
    · rw [if_neg (by rw [hf]; simp)]; exact nilTup1 _
def c15 (args : List AV) (K : AV → Prop) : Prop := ∃ (l : List Row) (i : Int) (x : List Int × Bool), args = [.d (.sl 2 (rowsR l)), .d (i64 i)] ∧ smallRows l ∧ x = solvedS l i ∧ K (bytesB x)
theorem c15_ok : ∀ args K, c15 args K → ∃ x, PCall Try.prog 15 args x ∧ K x := by
  rintro _ K ⟨l, i, _, rfl, h1, rfl, h⟩; exact ⟨_, pc15 l i h1, h⟩
end Go.Proofs.Ytgdeoaiakdkhcaa.Am

namespace Go.Proofs.Ytgdeoaiakdkhcaa.Am
set_option linter.unusedVariables false
open Go Go.RowKit Go.Proofs

/-! ### the reference's reduce -/
def T34 : List (Nat × (List AV → (AV → Prop) → Prop)) := [(37, c37), (25, c25)]
theorem T34_ok : CallsOk Try.prog T34 := CallsOk.cons c37_ok (CallsOk.cons c25_ok CallsOk.nil)
noncomputable def lp34 : Code := sub [1, 0, 1, 2, 3] (code Try.f34)
def tm34 (xs : List (List Dv)) (i : Int) : List AV := [.d (.sl 2 xs), .bad, .bad, .ptr 0 0, .ptr 1 0, .d (i64 i)] ++ List.replicate 34 .bad
def rowB2 (m : Int) (ds : List (List Dv)) : Blk := ⟨[.d (i64 m), .d (.sl 1 ds)], false, false, 0⟩
def zeroB2 : Blk := ⟨[.d (i64 0), .d (.s (.slice none 0 0))], false, false, 0⟩
section
variable {β : Type} (wl : WLT β) (y : YieldT β) (b : β) (R : AV → β → Prop) (K : Exit → List AV → List Blk → β → Prop)
theorem f34_round (xs ds : List (List Dv)) (i m : Int) : wpc Try.prog ⟨T34, [], wl, y, false⟩ 100 lp34 (tm34 xs i) [rowB2 m ds, zeroB2] b (maskT [0, 3, 4, 5] K) = (
  BIf (decide (i < (xs.length : Int))) (BIf (true && decide (0 ≤ i)) (∃ x0 xs1, xs[Int.toNat i]? = some [i64 x0, Dv.sl 1 xs1] ∧ ∃ m4, [AV.d (i64 x0)] = [AV.d (i64 m4)] ∧ (1 ≤ m4 ∧ m4 < 4611686018427387904) ∧ BIf (and64 m (lead m4) != 0)
    (BIf (true && decide (0 ≤ i)) (∃ x5 xs6, xs[Int.toNat i]? = some [i64 x5, Dv.sl 1 xs6] ∧ BIf (true && decide (0 ≤ i)) (∃ x9 xs10, xs[Int.toNat i]? = some [i64 x9, Dv.sl 1 xs10] ∧ ∃ p13 q14 r15, [AV.d (Dv.sl 1 ds), AV.d (Dv.sl 1 xs10)] = [AV.d (Dv.sl 1 (bytesR p13)), AV.d (Dv.sl 1 (bytesR q14))] ∧ (16 ≤ p13.length ∧ 16 ≤ q14.length) ∧ r15 = xorL p13 q14 ∧
      K Exit.normal (tm34 xs (IntKind.wrap IntKind.i64 (i + 1))) [rowB2 (xor64 m x5) (bytesR r15), zeroB2] b) False) False)
    (K Exit.normal (tm34 xs (IntKind.wrap IntKind.i64 (i + 1))) [rowB2 m ds, zeroB2] b)) False) (K (Exit.exit 0) (tm34 xs i) [rowB2 m ds, zeroB2] b)) := by kernel_rfl
end
def redR (x : Row) (r : Row) : Row := if and64 x.1 (lead r.1) != 0 then (xor64 x.1 r.1, xorL x.2 r.2) else x
theorem redR_len {x r : Row} (h : 16 ≤ x.2.length) : 16 ≤ (redR x r).2.length := by
  unfold redR; split
  · rw [xorL_len]; exact Nat.le_refl _
  · exact h
theorem wr34 {Ev : Env Try.prog} {b : Ev.β} {Q : Exit → St Ev.β → Prop} (l : List Row) (hl : l.length ≤ 9223372036854775807) (hok : ∀ r ∈ l, okMask r ∧ 16 ≤ r.2.length) : ∀ (rest : List Row) (k : Nat) (x : Row), l.drop k = rest → 16 ≤ x.2.length →
    Q (.exit 0) ⟨tm34 (rowsR l) l.length, [rowB2 (rest.foldl redR x).1 (bytesR (rest.foldl redR x).2), zeroB2], b⟩ → k ≤ l.length → WR Ev lp34 (rest.length + 1) ⟨tm34 (rowsR l) k, [rowB2 x.1 (bytesR x.2), zeroB2], b⟩ Q
  | [], k, x, hd, hx, hQ, hk => by
    refine WR.ofMaskT [0, 3, 4, 5] mixed (CX.Ok.of (u := false) T34_ok SCallsOk.nil) (k := 100) ?_
    rw [f34_round]
    have := drop_nil hd
    obtain rfl : k = l.length := by omega
    exact BIf.f (by simp [rowsR]) hQ
  | r :: rest, k, x, hd, hx, hQ, hk => by
    refine WR.ofMaskT [0, 3, 4, 5] mixed (CX.Ok.of (u := false) T34_ok SCallsOk.nil) (k := 100) ?_
    rw [f34_round]
    obtain ⟨hk, hr, hd'⟩ := drop_cons hd
    have g : (rowsR l)[Int.toNat k]? = some [i64 r.1, .sl 1 (bytesR r.2)] := by simp [rowsR, hr, rowD]
    obtain ⟨ho, hlen⟩ := hok r (List.mem_of_getElem? hr)
    rw [List.foldl_cons] at hQ
    rw [wrap_succ hk hl]
    refine BIf.t (by simpa [rowsR] using hk) (BIf.t (by simp) ⟨_, _, g, r.1, rfl, ⟨ho.1, by have := ho.2; omega⟩, BIf.of (fun h => BIf.t (by simp) ⟨_, _, g, BIf.t (by simp) ⟨_, _, g, _, _, _, rfl, ⟨hx, hlen⟩, rfl, ?_⟩⟩) fun h => ?_⟩)
    · have e : redR x r = (xor64 x.1 r.1, xorL x.2 r.2) := by simp only [redR, h, if_true]
      rw [e] at hQ
      exact wr34 l hl hok rest (k + 1) (xor64 x.1 r.1, xorL x.2 r.2) hd' (by rw [xorL_len]; exact Nat.le_refl _) hQ hk
    · have e : redR x r = x := by simp only [redR, h]; rfl
      rw [e] at hQ
      exact wr34 l hl hok rest (k + 1) x hd' hx hQ hk
def wl34 {β : Type} : WLT β := fun c tm hp b K => ∃ (l : List Row) (x : Row), c = .loop lp34 ∧ maskTm [0, 3, 4, 5] 0 tm = tm34 (rowsR l) 0 ∧ hp = [rowB2 x.1 (bytesR x.2), zeroB2] ∧ (l.length ≤ 9223372036854775807 ∧ (∀ r ∈ l, okMask r ∧ 16 ≤ r.2.length) ∧ 16 ≤ x.2.length) ∧
  ∃ z, z = l.foldl redR x ∧ K (.exit 0) (tm34 (rowsR l) l.length) [rowB2 z.1 (bytesR z.2), zeroB2] b
theorem wl34_ok {Ev : Env Try.prog} (c : Code) (tm : List AV) (hp : List Blk) (b : Ev.β) (K : Exit → List AV → List Blk → Ev.β → Prop) (h : wl34 c tm hp b K) : W Ev c ⟨tm, hp, b⟩ (fun e s => K e s.tm s.hp s.b) := by
  obtain ⟨l, x, rfl, htm, rfl, ⟨h0, h1, h2⟩, _, rfl, hK⟩ := h
  refine W.cast (htm ▸ maskTm_le _ tm 0) (LeH.refl _) ?_
  exact W.rounds (wr34 (Q := fun e s => K e s.tm s.hp s.b) l h0 h1 l 0 x rfl h2 hK (Nat.zero_le _))
theorem f34_nf {β : Type} (y : YieldT β) (b : β) (R : AV → β → Prop) (xs ds : List (List Dv)) (m : Int) : wpFn Try.prog ⟨T34, [], wl34, y, false⟩ 100 Try.f34 [.d (.sl 2 xs), .agg [.d (i64 m), .d (.sl 1 ds)]] b R = (
  ∃ (l : List Row) (x : Row), Code.loop lp34 = Code.loop lp34 ∧ tm34 xs 0 = tm34 (rowsR l) 0 ∧ [rowB2 m ds, zeroB2] = [rowB2 x.1 (bytesR x.2), zeroB2] ∧ (l.length ≤ 9223372036854775807 ∧ (∀ r ∈ l, okMask r ∧ 16 ≤ r.2.length) ∧ 16 ≤ x.2.length) ∧
    ∃ z : Row, z = l.foldl redR x ∧ R (rowA z.1 z.2) b) := by kernel_rfl
theorem pc34 (l : List Row) (m : Int) (p : List Int) (h0 : l.length ≤ 9223372036854775807) (h1 : ∀ r ∈ l, okMask r ∧ 16 ≤ r.2.length) (h2 : 16 ≤ p.length) : PCall Try.prog 34 [.d (.sl 2 (rowsR l)), rowA m p] (rowA (l.foldl redR (m, p)).1 (l.foldl redR (m, p)).2) := by
  refine PCall.ofFnW (n := 100) (u := false) (fun _ => wl34) mixed T34_ok SCallsOk.nil (fun Ev => wl34_ok) Try.func34 (by rfl) (by rfl) fun Ev bb => ?_
  show wpFn _ _ _ _ [_, .agg [.d (i64 m), .d (.sl 1 (bytesR p))]] _ _
  rw [f34_nf]
  exact ⟨l, (m, p), rfl, rfl, rfl, ⟨h0, h1, h2⟩, _, rfl, rfl⟩
def c34 (args : List AV) (K : AV → Prop) : Prop := ∃ (l : List Row) (m : Int) (p : List Int) (z : Row), args = [.d (.sl 2 (rowsR l)), rowA m p] ∧ (l.length ≤ 9223372036854775807 ∧ (∀ r ∈ l, okMask r ∧ 16 ≤ r.2.length) ∧ 16 ≤ p.length) ∧ z = l.foldl redR (m, p) ∧ K (rowA z.1 z.2)
theorem c34_ok : ∀ args K, c34 args K → ∃ x, PCall Try.prog 34 args x ∧ K x := by
  rintro _ K ⟨l, m, p, _, rfl, ⟨h0, h1, h2⟩, rfl, h⟩; exact ⟨_, pc34 l m p h0 h1 h2, h⟩

/-! ### Sum -/
def T17 : List (Nat × (List AV → (AV → Prop) → Prop)) := [(21, c21), (34, c34)]
theorem T17_ok : CallsOk Try.prog T17 := CallsOk.cons c21_ok (CallsOk.cons c34_ok CallsOk.nil)
theorem f17_nf {β : Type} (wl : WLT β) (y : YieldT β) (b : β) (R : AV → β → Prop) (xs : List (List Dv)) (m : Int) : wpFn Try.prog ⟨T17, [], wl, y, false⟩ 100 Try.f17 [.d (.sl 2 xs), .d (i64 m)] b R = (
  ∃ l0 : List Row, [AV.d (Dv.sl 2 xs)] = [AV.d (Dv.sl 2 (rowsR l0))] ∧ l0.length ≤ 9223372036854775807 ∧ BIf (!validR l0) (R (AV.tup [nilA, AV.d (bo false)]) b) (BIf (decide (m < 0)) (R (AV.tup [nilA, AV.d (bo false)]) b) (BIf (decide (m ≥ 65536)) (R (AV.tup [nilA, AV.d (bo false)]) b)
  (∃ (l : List Row) (m' : Int) (p : List Int) (z : Row), [AV.d (.sl 2 xs), rowA m (List.replicate 16 0)] = [AV.d (.sl 2 (rowsR l)), rowA m' p] ∧ (l.length ≤ 9223372036854775807 ∧ (∀ r ∈ l, okMask r ∧ 16 ≤ r.2.length) ∧ 16 ≤ p.length) ∧ z = l.foldl redR (m', p) ∧
    BIf (z.1 != 0) (R (AV.tup [nilA, AV.d (bo false)]) b) (R (bytesB (z.2, true)) b))))) := by kernel_rfl
theorem redR_red {x r : Row} (h : r.2.length = 16) : redR x r = red x r := by unfold redR red; rw [pad16 h]
theorem foldR_red : ∀ {l : List Row} {x : Row}, (∀ r ∈ l, r.2.length = 16) → l.foldl redR x = l.foldl red x
  | [], _, _ => rfl
  | r :: l, x, h => by
    rw [List.foldl_cons, List.foldl_cons, redR_red (h r (List.mem_cons_self ..))]
    exact foldR_red fun s hs => h s (List.mem_cons_of_mem _ hs)
/-- sixteen bytes stay sixteen bytes -/
theorem fold_len {l : List Row} {x : Row} (h : x.2.length = 16) : (l.foldl red x).2.length = 16 := by
  induction l generalizing x with
  | nil => exact h
  | cons r l ih =>
    rw [List.foldl_cons]
    refine ih ?_
    unfold red; split
    · exact xorL_len _ _
    · exact h
theorem fold_zeros : ∀ (l : List Row) (x y : Row), x.1 = y.1 → (∀ i, i < 16 → nth x.2 i = nth y.2 i) → (l.foldl red x).1 = (l.foldl red y).1 ∧ ∀ i, i < 16 → nth (l.foldl red x).2 i = nth (l.foldl red y).2 i
  | [], x, y, h1, h2 => ⟨h1, h2⟩
  | r :: l, x, y, h1, h2 => by
    rw [List.foldl_cons, List.foldl_cons]
    refine fold_zeros l _ _ ?_ ?_
    · unfold red; rw [h1]; split
      · rfl
      · exact h1
    · intro i hi
      unfold red; rw [h1]; split
      · simp only; rw [nth_xorL hi, nth_xorL hi, h2 i hi]
      · exact h2 i hi
theorem pc17 (l : List Row) (m : Int) (hl : l.length ≤ 9223372036854775807) : PCall Try.prog 17 [.d (.sl 2 (rowsR l)), .d (i64 m)] (bytesB (sumS l m)) := by
  refine PCall.ofFnL (n := 100) (u := false) wlNo mixed T17_ok SCallsOk.nil wlNo_ok Try.func17 (by rfl) (by rfl) fun Ev bb => ?_
  rw [f17_nf]
  have hbad : (decide (m < 0) || (decide (m ≥ 65536) || !validS l)) = true → LeT (.tup [nilA, .d (bo false)]) (bytesB (sumS l m)) := by
    intro h
    unfold sumS
    rw [h]
    exact nilTup1 _
  refine ⟨l, rfl, hl, BIf.of (fun hv => hbad ?_) fun hv => BIf.of (fun h1 => hbad ?_) fun h1 => BIf.of (fun h2 => hbad ?_) fun h2 => ⟨l, m, List.replicate 16 0, _, rfl, ⟨hl, ?_, by simp⟩, rfl, ?_⟩⟩
  · rw [← validR_eq l, hv]; simp
  · rw [h1]; rfl
  · rw [h2]; simp
  · have hg := (validR_good l).1 (by simpa using hv)
    exact fun r hr => ⟨hg.mask r hr, by rw [hg.len16 r hr]; exact Nat.le_refl _⟩
  · have hv : validR l = true := by simpa using hv
    have hg := (validR_good l).1 hv
    have h1' : ¬ m < 0 := by simpa using h1
    have h2' : ¬ m ≥ 65536 := by simpa using h2
    rw [foldR_red hg.len16, sumS_def (by omega) (by omega) (by rw [← validR_eq l]; exact hv)]
    obtain ⟨e1, e2⟩ := fold_zeros l (m, List.replicate 16 0) (m, []) rfl fun i hi => by
      unfold nth; rw [List.getD_eq_getElem?_getD, List.getElem?_replicate]; split <;> rfl
    rw [← e1]
    refine BIf.of (fun h => ?_) fun h => ?_
    · rw [if_pos h]; exact nilTup1 _
    · rw [if_neg (by rw [h]; simp)]
      have : b16 (l.foldl red (m, [])).2 = (l.foldl red (m, List.replicate 16 0)).2 := list16 (b16_len _) (fold_len (by simp)) fun i hi => by rw [nth_b16 hi, e2 i hi]
      rw [this]; exact .rfl
def c17 (args : List AV) (K : AV → Prop) : Prop := ∃ (l : List Row) (m : Int) (x : List Int × Bool), args = [.d (.sl 2 (rowsR l)), .d (i64 m)] ∧ l.length ≤ 9223372036854775807 ∧ x = sumS l m ∧ K (bytesB x)
theorem c17_ok : ∀ args K, c17 args K → ∃ x, PCall Try.prog 17 args x ∧ K x := by
  rintro _ K ⟨l, m, _, rfl, h1, rfl, h⟩; exact ⟨_, pc17 l m h1, h⟩
end Go.Proofs.Ytgdeoaiakdkhcaa.Am

namespace Go.Proofs.Ytgdeoaiakdkhcaa.Am
set_option linter.unusedVariables false
open Go Go.RowKit Go.Proofs

/-! ### the reference's Add -/
noncomputable def lp13 : Code := sub [1, 1, 1, 1, 1, 1, 1, 1, 0, 1, 2, 3] (code Try.f13)
def T13 : List (Nat × (List AV → (AV → Prop) → Prop)) := [(37, c37), (25, c25), (21, c21), (24, c24), (34, c34), (35, c35)]
theorem T13_ok : CallsOk Try.prog T13 := CallsOk.cons c37_ok (CallsOk.cons c25_ok (CallsOk.cons c21_ok (CallsOk.cons c24_ok (CallsOk.cons c34_ok (CallsOk.cons c35_ok CallsOk.nil)))))
def S13 : List (Nat × (List AV → List Blk → (AV → List Blk → Prop) → Prop)) := [(36, s36)]
theorem S13_ok : SCallsOk Try.prog S13 := by
  intro k f h args hp K hf
  simp only [S13, List.lookup_cons, List.lookup_nil] at h
  split at h
  · rename_i he
    cases h; rw [eq_of_beq he]; exact s36_ok args hp K hf
  · cases h
def tm13 (acc rows : AV) (ld : Int) (dn : Bool) (i : Int) : List AV := [.bad, .bad, .bad, .bad, .bad, .bad, .bad, .ptr 1 0, .d (i64 ld), acc, .d (bo dn), rows, .d (i64 i)] ++ List.replicate 89 .bad
def gB (v : Nat) (cs : List AV) : Blk := ⟨cs, false, true, v⟩
section
variable {β : Type} (wl : WLT β) (y : YieldT β) (b : β) (R : AV → β → Prop) (K : Exit → List AV → List Blk → β → Prop)
/-- behind the insertion: the row is turned, and taken over -/
def part2 (ds : List (List Dv)) (cs : List AV) (i m ld : Int) (n v : Nat) (B : Blk) (xs : List (List Dv)) (dn : Bool) : Prop :=
  v = v ∧ BIf (decide (0 ≤ i) && decide (i < (n : Int))) (v = v ∧ v = v ∧ ∃ x2, List.take 1 (List.drop (Int.toNat i * 2 + 0) cs) = [AV.d (i64 x2)] ∧ BIf (and64 x2 ld != 0)
    (v = v ∧ BIf (decide (0 ≤ i) && decide (i < (n : Int))) (v = v ∧ v = v ∧ ∃ x3, List.take 1 (List.drop (Int.toNat i * 2 + 0) cs) = [AV.d (i64 x3)] ∧ v = v ∧ BIf (decide (0 ≤ i) && decide (i < (n : Int))) (v = v ∧ v = v ∧ ∃ xs4, List.take 1 (List.drop (Int.toNat i * 2 + 1) cs) = [AV.d (Dv.sl 1 xs4)] ∧
      ∃ p5 q6 r7, [AV.d (Dv.sl 1 xs4), AV.d (Dv.sl 1 ds)] = [AV.d (Dv.sl 1 (bytesR p5)), AV.d (Dv.sl 1 (bytesR q6))] ∧ (16 ≤ p5.length ∧ 16 ≤ q6.length) ∧ r7 = xorL p5 q6 ∧ v = v ∧ BIf (decide (0 ≤ i) && decide (i < (n : Int))) (v = v ∧ BIf (decide (Int.toNat i * 2 + 2 ≤ cs.length))
        (v = v ∧ BIf (decide (0 ≤ i) && decide (i < (n : Int))) (v = v ∧ ∃ x8 xs9, List.take 2 (List.drop (Int.toNat i * 2) (List.take (Int.toNat i * 2) cs ++ [AV.d (i64 (xor64 x3 m)), AV.d (Dv.sl 1 (bytesR r7))] ++ List.drop (Int.toNat i * 2 + 2) cs)) = [AV.d (i64 x8), AV.d (Dv.sl 1 xs9)] ∧
          BIf (true && decide ((xs.length + 1) * 32 ≤ 140737488355328)) (K Exit.normal (tm13 (.own 25 2 (xs ++ [[i64 x8, Dv.sl 1 xs9]])) (.gref 2 v n 2) ld dn (IntKind.wrap IntKind.i64 (i + 1))) [B, rowB2 m ds, gB v (List.take (Int.toNat i * 2) cs ++ [AV.d (i64 (xor64 x3 m)), AV.d (Dv.sl 1 (bytesR r7))] ++ List.drop (Int.toNat i * 2 + 2) cs)] b) False) False) False) False) False) False)
    (v = v ∧ BIf (decide (0 ≤ i) && decide (i < (n : Int))) (v = v ∧ ∃ x11 xs12, List.take 2 (List.drop (Int.toNat i * 2) cs) = [AV.d (i64 x11), AV.d (Dv.sl 1 xs12)] ∧
      BIf (true && decide ((xs.length + 1) * 32 ≤ 140737488355328)) (K Exit.normal (tm13 (.own 25 2 (xs ++ [[i64 x11, Dv.sl 1 xs12]])) (.gref 2 v n 2) ld dn (IntKind.wrap IntKind.i64 (i + 1))) [B, rowB2 m ds, gB v cs] b) False) False)) False
theorem f13_round (xs ds : List (List Dv)) (cs : List AV) (i m ld : Int) (dn : Bool) (n v : Nat) (B : Blk) : wpc Try.prog ⟨T13, S13, wl, y, false⟩ 100 lp13 (tm13 (.own 25 2 xs) (.gref 2 v n 2) ld dn i) [B, rowB2 m ds, gB v cs] b (maskT [7, 8, 9, 10, 11, 12] K) = (
  v = v ∧ BIf (decide (i < (n : Int))) (BIf (!dn) (v = v ∧ BIf (decide (0 ≤ i) && decide (i < (n : Int))) (v = v ∧ v = v ∧ ∃ x0, List.take 1 (List.drop (Int.toNat i * 2 + 0) cs) = [AV.d (i64 x0)] ∧ ∃ m1, [AV.d (i64 x0)] = [AV.d (i64 m1)] ∧ (1 ≤ m1 ∧ m1 < 4611686018427387904) ∧ BIf (decide (lead m1 < ld))
      (BIf (true && decide ((xs.length + 1) * 32 ≤ 140737488355328)) (part2 b K ds cs i m ld n v B (xs ++ [[i64 m, .sl 1 ds]]) true) False) (part2 b K ds cs i m ld n v B xs dn)) False)
    (part2 b K ds cs i m ld n v B xs dn)) (K (Exit.exit 0) (tm13 (.own 25 2 xs) (.gref 2 v n 2) ld dn i) [B, rowB2 m ds, gB v cs] b)) := by kernel_rfl
end

/-! rows as cells -/
theorem flat_len (l : List Row) : (flatA (rowsR l)).length = l.length * 2 := by
  induction l with
  | nil => rfl
  | cons r l ih =>
    have : rowsR (r :: l) = rowD r :: rowsR l := rfl
    rw [this, flatA_cons, List.length_append, ih]; simp [rowD]; omega
theorem flat_split {rs : List Row} {k : Nat} {r : Row} (h : rs[k]? = some r) : flatA (rowsR rs) = flatA (rowsR (rs.take k)) ++ ([AV.d (i64 r.1), AV.d (.sl 1 (bytesR r.2))] ++ flatA (rowsR (rs.drop (k + 1)))) ∧ (flatA (rowsR (rs.take k))).length = k * 2 := by
  have hk := (List.getElem?_eq_some_iff.1 h).1
  constructor
  · have e : rs = rs.take k ++ r :: rs.drop (k + 1) := by
      rw [← (List.getElem?_eq_some_iff.1 h).2, ← List.drop_eq_getElem_cons hk, List.take_append_drop]
    conv => lhs; rw [e]
    simp [flatA, rowsR, rowD]
  · rw [flat_len, List.length_take, Nat.min_eq_left (by omega)]
theorem flat_two {rs : List Row} {k : Nat} {r : Row} (h : rs[k]? = some r) : List.take 2 (List.drop (k * 2) (flatA (rowsR rs))) = [AV.d (i64 r.1), AV.d (.sl 1 (bytesR r.2))] := by
  obtain ⟨h1, h2⟩ := flat_split h
  rw [h1, List.drop_left' h2]; rfl
theorem flat_one {rs : List Row} {k : Nat} {r : Row} (h : rs[k]? = some r) : List.take 1 (List.drop (k * 2 + 0) (flatA (rowsR rs))) = [AV.d (i64 r.1)] := by
  obtain ⟨h1, h2⟩ := flat_split h
  rw [h1, Nat.add_zero, List.drop_left' h2]; rfl
theorem flat_snd {rs : List Row} {k : Nat} {r : Row} (h : rs[k]? = some r) : List.take 1 (List.drop (k * 2 + 1) (flatA (rowsR rs))) = [AV.d (.sl 1 (bytesR r.2))] := by
  obtain ⟨h1, h2⟩ := flat_split h
  rw [h1, ← List.drop_drop, List.drop_left' h2]; rfl
theorem flat_set {rs : List Row} {k : Nat} (hk : k < rs.length) (m : Int) (p : List Int) : List.take (k * 2) (flatA (rowsR rs)) ++ [AV.d (i64 m), AV.d (.sl 1 (bytesR p))] ++ List.drop (k * 2 + 2) (flatA (rowsR rs)) = flatA (rowsR (rs.set k (m, p))) := by
  have hr : rs[k]? = some rs[k] := List.getElem?_eq_getElem hk
  obtain ⟨h1, h2⟩ := flat_split hr
  have hs : (rs.set k (m, p))[k]? = some (m, p) := by rw [List.getElem?_set_self hk]
  obtain ⟨h3, h4⟩ := flat_split hs
  rw [h3, h1, List.take_left' h2, ← List.drop_drop, List.drop_left' h2]
  have e1 : (rs.set k (m, p)).take k = rs.take k := by rw [List.take_set_of_le (Nat.le_refl _)]
  have e2 : (rs.set k (m, p)).drop (k + 1) = rs.drop (k + 1) := by rw [List.drop_set_of_lt (by omega)]
  rw [e1, e2]
  simp

theorem upd_id {y r : Row} (hr : r.2.length = 16) : upd y r = if and64 r.1 (lead y.1) != 0 then (xor64 r.1 y.1, xorL r.2 y.2) else r := by
  unfold upd
  rw [pad16 hr, b16_xorL, b16_id hr]
theorem part2_ok {β : Type} {b : β} {K : Exit → List AV → List Blk → β → Prop} {y : Row} {n v : Nat} {B : Blk} {out rs : List Row} {dn : Bool} {k : Nat} {r : Row} (hy : y.2.length = 16) (hr : rs[k]? = some r) (hr16 : r.2.length = 16) (hn : rs.length = n) (hnb : n ≤ 1000) (ho : out.length ≤ 100000)
    (hK : ∀ rs' : List Row, rs'.length = n → rs'.drop (k + 1) = rs.drop (k + 1) → K .normal (tm13 (.own 25 2 (rowsR (out ++ [upd y r]))) (.gref 2 v n 2) (lead y.1) dn ((k + 1 : Nat) : Int)) [B, rowB2 y.1 (bytesR y.2), gB v (flatA (rowsR rs'))] b) :
    part2 b K (bytesR y.2) (flatA (rowsR rs)) k y.1 (lead y.1) n v B (rowsR out) dn := by
  have hk : k < n := hn ▸ (List.getElem?_eq_some_iff.1 hr).1
  have hi : (decide ((0 : Int) ≤ (k : Int)) && decide ((k : Int) < (n : Int))) = true := by simp; omega
  have hw : ∀ (r0 : Row), rowsR out ++ [[i64 r0.1, .sl 1 (bytesR r0.2)]] = rowsR (out ++ [r0]) := fun r0 => by simp [rowsR, rowD]
  have hfit : (true && decide (((rowsR out).length + 1) * 32 ≤ 140737488355328)) = true := by simp [rowsR]; omega
  unfold part2
  rw [Int.toNat_natCast, flat_one hr, flat_snd hr, flat_two hr, flat_len, wrap_succ hk (by omega)]
  refine ⟨rfl, BIf.t hi ⟨rfl, rfl, _, rfl, BIf.of (fun h => ?_) fun h => ?_⟩⟩
  · refine ⟨rfl, BIf.t hi ⟨rfl, rfl, _, rfl, rfl, BIf.t hi ⟨rfl, rfl, _, rfl, r.2, y.2, _, rfl, ⟨by omega, by omega⟩, rfl, rfl, BIf.t hi ⟨rfl, BIf.t (by simp; omega) ⟨rfl, BIf.t hi ⟨rfl, ?_⟩⟩⟩⟩⟩⟩
    rw [flat_set (by omega)]
    have hset : (rs.set k (xor64 r.1 y.1, xorL r.2 y.2))[k]? = some (xor64 r.1 y.1, xorL r.2 y.2) := by rw [List.getElem?_set_self (by omega)]
    refine ⟨_, _, flat_two hset, BIf.t hfit ?_⟩
    have e : upd y r = (xor64 r.1 y.1, xorL r.2 y.2) := by rw [upd_id hr16, if_pos h]
    rw [hw (xor64 r.1 y.1, xorL r.2 y.2), ← e]
    rw [e]
    have := hK (rs.set k (xor64 r.1 y.1, xorL r.2 y.2)) (by simp [hn]) (List.drop_set_of_lt (by omega))
    rwa [e] at this
  · refine ⟨rfl, BIf.t hi ⟨rfl, _, _, rfl, BIf.t hfit ?_⟩⟩
    have e : upd y r = r := by rw [upd_id hr16, if_neg (by rw [h]; simp)]
    rw [hw r]
    have := hK rs hn rfl
    rwa [e] at this
theorem stepB_eq (y : Row) (out : List Row) (dn : Bool) (r : Row) (hy : y.2.length = 16) : stepB y (out, dn) r = ((if !dn && decide (lead r.1 < lead y.1) then out ++ [y] else out) ++ [upd y r], dn || decide (lead r.1 < lead y.1)) := by
  unfold stepB upd
  rw [b16_id hy]
theorem wr13 {Ev : Env Try.prog} {b : Ev.β} {Q : Exit → St Ev.β → Prop} (l : List Row) (hl : l.length ≤ 1000) (hok : ∀ r ∈ l, okMask r ∧ r.2.length = 16) (y : Row) (hy : y.2.length = 16) (B : Blk) (v : Nat) : ∀ (rest : List Row) (k : Nat) (out rs : List Row) (dn : Bool), l.drop k = rest → rs.drop k = rest → rs.length = l.length → out.length ≤ 2 * k →
    (∀ cs, Q (.exit 0) ⟨tm13 (.own 25 2 (rowsR (rest.foldl (stepB y) (out, dn)).1)) (.gref 2 v l.length 2) (lead y.1) (rest.foldl (stepB y) (out, dn)).2 l.length, [B, rowB2 y.1 (bytesR y.2), gB v cs], b⟩) → k ≤ l.length →
    WR Ev lp13 (rest.length + 1) ⟨tm13 (.own 25 2 (rowsR out)) (.gref 2 v l.length 2) (lead y.1) dn k, [B, rowB2 y.1 (bytesR y.2), gB v (flatA (rowsR rs))], b⟩ Q
  | [], k, out, rs, dn, hd, hd2, hrl, ho, hQ, hk => by
    refine WR.ofMaskT [7, 8, 9, 10, 11, 12] mixed (CX.Ok.of (u := false) T13_ok S13_ok) (k := 100) ?_
    rw [f13_round]
    have := drop_nil hd
    obtain rfl : k = l.length := by omega
    exact ⟨rfl, BIf.f (by simp) (hQ _)⟩
  | r :: rest, k, out, rs, dn, hd, hd2, hrl, ho, hQ, hk => by
    refine WR.ofMaskT [7, 8, 9, 10, 11, 12] mixed (CX.Ok.of (u := false) T13_ok S13_ok) (k := 100) ?_
    rw [f13_round]
    obtain ⟨hk, hr, hd'⟩ := drop_cons hd
    obtain ⟨_, hr2, hd2'⟩ := drop_cons hd2
    obtain ⟨hm, h16⟩ := hok r (List.mem_of_getElem? hr)
    have hi : (decide ((0 : Int) ≤ (k : Int)) && decide ((k : Int) < (l.length : Int))) = true := by simp; omega
    rw [List.foldl_cons, stepB_eq y out dn r hy] at hQ
    have hgo : ∀ (out' : List Row) (dn' : Bool), out'.length ≤ 2 * k + 1 → (out' ++ [upd y r], dn') = ((if !dn && decide (lead r.1 < lead y.1) then out ++ [y] else out) ++ [upd y r], dn || decide (lead r.1 < lead y.1)) →
        part2 b (thenK (fun tm hp b => WR Ev lp13 (rest.length + 1) ⟨tm, hp, b⟩ Q) fun e tm hp b => Q e ⟨tm, hp, b⟩) (bytesR y.2) (flatA (rowsR rs)) k y.1 (lead y.1) l.length v B (rowsR out') dn' := by
      intro out' dn' hlo he
      rw [← he] at hQ
      refine part2_ok hy hr2 h16 hrl hl (by omega) fun rs' h1 h2 => ?_
      exact wr13 l hl hok y hy B v rest (k + 1) _ rs' dn' hd' (h2.trans hd2') h1 (by simp; omega) hQ hk
    refine ⟨rfl, BIf.t (by simpa using hk) (BIf.of (fun h1 => ?_) fun h1 => ?_)⟩
    · have h1 : dn = false := by simpa using h1
      subst h1
      rw [Int.toNat_natCast, flat_one hr2]
      refine ⟨rfl, BIf.t hi ⟨rfl, rfl, _, rfl, r.1, rfl, ⟨hm.1, by have := hm.2; omega⟩, BIf.of (fun h2 => BIf.t (by simp [rowsR]; omega) ?_) fun h2 => ?_⟩⟩
      · have hw : rowsR out ++ [[i64 y.1, .sl 1 (bytesR y.2)]] = rowsR (out ++ [y]) := by simp [rowsR, rowD]
        rw [hw]
        exact hgo (out ++ [y]) true (by simp; omega) (by rw [h2]; simp)
      · exact hgo out false (by omega) (by rw [h2]; simp)
    · have h1 : dn = true := by simpa using h1
      subst h1
      exact hgo out true (by omega) (by simp)
def wl13 {β : Type} : WLT β := fun c tm hp b K => match tm.getD 11 .bad with
  | .gref .. => ∃ (l : List Row) (y : Row) (B : Blk) (z : List Row × Bool), c = .loop lp13 ∧ maskTm [7, 8, 9, 10, 11, 12] 0 tm = tm13 nilA (.gref 2 (l.length - 1) l.length 2) (lead y.1) false 0 ∧ hp = [B, rowB2 y.1 (bytesR y.2), gB (l.length - 1) (flatA (rowsR l))] ∧
      (l.length ≤ 1000 ∧ (∀ r ∈ l, okMask r ∧ r.2.length = 16) ∧ y.2.length = 16) ∧ z = l.foldl (stepB y) ([], false) ∧
      ∀ cs, K (.exit 0) (tm13 (.own 25 2 (rowsR z.1)) (.gref 2 (l.length - 1) l.length 2) (lead y.1) z.2 l.length) [B, rowB2 y.1 (bytesR y.2), gB (l.length - 1) cs] b
  | _ => ∃ (y : Row) (B : Blk), c = .loop lp13 ∧ maskTm [7, 8, 9, 10, 11, 12] 0 tm = tm13 nilA nilA (lead y.1) false 0 ∧ hp = [B, rowB2 y.1 (bytesR y.2)] ∧ K (.exit 0) (tm13 nilA nilA (lead y.1) false 0) [B, rowB2 y.1 (bytesR y.2)] b
theorem f13_round0 {β : Type} (wl : WLT β) (y : YieldT β) (b : β) (K : Exit → List AV → List Blk → β → Prop) (ld : Int) (hp : List Blk) : wpc Try.prog ⟨T13, S13, wl, y, false⟩ 100 lp13 (tm13 nilA nilA ld false 0) hp b (maskT [7, 8, 9, 10, 11, 12] K) = K (.exit 0) (tm13 nilA nilA ld false 0) hp b := by kernel_rfl
theorem wl13_ok {Ev : Env Try.prog} (c : Code) (tm : List AV) (hp : List Blk) (b : Ev.β) (K : Exit → List AV → List Blk → Ev.β → Prop) (h : wl13 c tm hp b K) : W Ev c ⟨tm, hp, b⟩ (fun e s => K e s.tm s.hp s.b) := by
  unfold wl13 at h
  split at h
  · obtain ⟨l, y, B, _, rfl, htm, rfl, ⟨h0, h1, h2⟩, rfl, hK⟩ := h
    refine W.cast (htm ▸ maskTm_le _ tm 0) (LeH.refl _) ?_
    refine W.cast (tm' := tm13 (.own 25 2 (rowsR [])) (.gref 2 (l.length - 1) l.length 2) (lead y.1) false 0) (LeL.at [_, _, _, _, _, _, _, _, _] _ (LeA.nilOwn rfl)) (LeH.refl _) ?_
    exact W.rounds (wr13 (Q := fun e s => K e s.tm s.hp s.b) l h0 h1 y h2 B _ l 0 [] l false rfl rfl rfl (by simp) hK (Nat.zero_le _))
  · obtain ⟨y, B, rfl, htm, rfl, hK⟩ := h
    refine W.cast (htm ▸ maskTm_le _ tm 0) (LeH.refl _) ?_
    refine W.rounds (m := 1) (WR.ofMaskT [7, 8, 9, 10, 11, 12] mixed (CX.Ok.of (u := false) T13_ok S13_ok) (k := 100) ?_)
    rw [f13_round0]; exact hK
end Go.Proofs.Ytgdeoaiakdkhcaa.Am

namespace Go.Proofs.Ytgdeoaiakdkhcaa.Am
set_option linter.unusedVariables false
open Go Go.RowKit Go.Proofs

def tup3 (a : AV) (n : Bool) (e : Int) : AV := .tup [a, .d (bo n), .d (i64 e)]
theorem f13_nf {β : Type} (y : YieldT β) (b : β) (R : AV → β → Prop) (xs ds : List (List Dv)) (m : Int) : wpFn Try.prog ⟨T13, S13, wl13, y, false⟩ 100 Try.f13 [.d (.sl 2 xs), .agg [.d (i64 m), .d (.sl 1 ds)]] b R = (
  ∃ l0 : List Row, [AV.d (Dv.sl 2 xs)] = [AV.d (Dv.sl 2 (rowsR l0))] ∧ l0.length ≤ 9223372036854775807 ∧ BIf (!validR l0) (R (tup3 nilA false 1) b) (∃ m1 p2, [AV.agg [AV.d (i64 m), AV.d (Dv.sl 1 ds)]] = [rowA m1 p2] ∧ BIf (!formedS m1 p2) (R (tup3 nilA false 1) b)
  (∃ (l3 : List Row) (m4 : Int) (p5 : List Int) (z6 : Row), [AV.d (Dv.sl 2 xs), AV.agg [AV.d (i64 m), AV.d (Dv.sl 1 ds)]] = [AV.d (Dv.sl 2 (rowsR l3)), rowA m4 p5] ∧ (l3.length ≤ 9223372036854775807 ∧ (∀ r ∈ l3, okMask r ∧ 16 ≤ r.2.length) ∧ 16 ≤ p5.length) ∧ z6 = l3.foldl redR (m4, p5) ∧
    BIf (z6.1 == 0) (∃ p7 r8, [AV.d (Dv.sl 1 (bytesR z6.2))] = [AV.d (Dv.sl 1 (bytesR p7))] ∧ p7.length ≤ 9223372036854775807 ∧ r8 = zeroL p7 ∧ BIf (!r8) (R (tup3 nilA false 12) b)
      (∃ l9 : List Row, [AV.d (Dv.sl 2 xs)] = [AV.d (Dv.sl 2 (rowsR l9))] ∧ smallRows l9 ∧ BIf (decide (l9.length = 0)) (R (tup3 nilA false 0) b) (l9.length - 1 = l9.length - 1 ∧ ∃ xs10, flatA (rowsR l9) = flatA xs10 ∧ xs10.length = l9.length ∧ (∀ r ∈ xs10, r.length = 2) ∧ R (tup3 (AV.d (Dv.sl 2 xs10)) false 0) b)))
    (∃ m11, [AV.d (i64 z6.1)] = [AV.d (i64 m11)] ∧ (1 ≤ m11 ∧ m11 < 4611686018427387904) ∧ ∃ l12 : List Row, [AV.d (Dv.sl 2 xs)] = [AV.d (Dv.sl 2 (rowsR l12))] ∧ smallRows l12 ∧ BIf (decide (l12.length = 0))
      (∃ (y13 : Row) (B14 : Blk), Code.loop lp13 = Code.loop lp13 ∧ tm13 nilA nilA (lead m11) false 0 = tm13 nilA nilA (lead y13.1) false 0 ∧ [rowB2 m ds, rowB2 z6.1 (bytesR z6.2)] = [B14, rowB2 y13.1 (bytesR y13.2)] ∧ R (tup3 (AV.d (Dv.sl 2 [[i64 y13.1, Dv.sl 1 (bytesR y13.2)]])) true 0) b)
      (∃ (l15 : List Row) (y16 : Row) (B17 : Blk) (z18 : List Row × Bool), Code.loop lp13 = Code.loop lp13 ∧ tm13 nilA (.gref 2 (l12.length - 1) l12.length 2) (lead m11) false 0 = tm13 nilA (.gref 2 (l15.length - 1) l15.length 2) (lead y16.1) false 0 ∧
        [rowB2 m ds, rowB2 z6.1 (bytesR z6.2), gB (l12.length - 1) (flatA (rowsR l12))] = [B17, rowB2 y16.1 (bytesR y16.2), gB (l15.length - 1) (flatA (rowsR l15))] ∧ (l15.length ≤ 1000 ∧ (∀ r ∈ l15, okMask r ∧ r.2.length = 16) ∧ y16.2.length = 16) ∧ z18 = l15.foldl (stepB y16) ([], false) ∧
        ∀ cs : List AV, BIf (!z18.2) (BIf (true && decide (((rowsR z18.1).length + 1) * 32 ≤ 140737488355328)) (R (tup3 (AV.d (Dv.sl 2 (rowsR z18.1 ++ [[i64 y16.1, Dv.sl 1 (bytesR y16.2)]]))) true 0) b) False) (R (tup3 (AV.d (Dv.sl 2 (rowsR z18.1))) true 0) b)))))) := by kernel_rfl
theorem zeroL_16 {p : List Int} (h : p.length = 16) : zeroL p = zero16 p := by
  rw [Bool.eq_iff_iff]
  unfold zeroL zero16
  rw [List.all_eq_true, List.all_eq_true]
  constructor
  · intro hh i hi
    have hi : i < p.length := by rw [h]; simpa using hi
    have e : nth p i = p[i] := by simp [nth, List.getD, hi]
    rw [e]; exact hh _ (List.getElem_mem hi)
  · intro hh x hx
    obtain ⟨i, hi, rfl⟩ := List.mem_iff_getElem.1 hx
    have := hh i (by simpa [h] using hi)
    simpa [nth, List.getD, hi] using this
/-- what the reference's Add answers is what Add answers -/
theorem pc13 (l : List Row) (m : Int) (p : List Int) (hs : smallRows l) : PCall Try.prog 13 [.d (.sl 2 (rowsR l)), rowA m p] (addR (addS l m p)) := by
  have hl : l.length ≤ 9223372036854775807 := by have := hs.1; omega
  refine PCall.ofFnL (n := 100) (u := false) (fun _ => wl13) mixed T13_ok S13_ok (fun Ev => wl13_ok) Try.func13 (by rfl) (by rfl) fun Ev bb => ?_
  show wpFn _ _ _ _ [_, .agg [.d (i64 m), .d (.sl 1 (bytesR p))]] _ _
  rw [f13_nf]
  have hbad : (!validS l || !fine m p) = true → LeT (tup3 nilA false 1) (addR (addS l m p)) := by
    intro h
    unfold addS
    rw [if_pos h]
    exact nilTup _ _
  refine ⟨l, rfl, hl, BIf.of (fun hv => hbad ?_) fun hv => ⟨m, p, rfl, BIf.of (fun hf => hbad ?_) fun hf => ?_⟩⟩
  · rw [← validR_eq l, hv]; rfl
  · rw [fine_formed, hf]; simp
  have hv : validR l = true := by simpa using hv
  have hf : formedS m p = true := by simpa using hf
  have hg := (validR_good l).1 hv
  have hf' := hf
  simp only [formedS, Bool.and_eq_true, decide_eq_true_eq] at hf'
  have h16 := hf'.2.2
  have ea : addS l m p = (if (l.foldl red (m, p)).1 == 0 && zero16 (l.foldl red (m, p)).2 then (l.map keepR, false, 0) else if (l.foldl red (m, p)).1 == 0 then ([], false, 12) else
      (if !(l.foldl (stepB (l.foldl red (m, p))) ([], false)).2 then (l.foldl (stepB (l.foldl red (m, p))) ([], false)).1 ++ [((l.foldl red (m, p)).1, b16 (l.foldl red (m, p)).2)] else (l.foldl (stepB (l.foldl red (m, p))) ([], false)).1, true, 0)) := by
    unfold addS
    rw [← validR_eq l, hv, fine_formed, hf, pad16 h16]
    rfl
  rw [ea]
  have hx16 : (l.foldl red (m, p)).2.length = 16 := fold_len h16
  have hbd := foldl_red_bd (x := (m, p)) ⟨by simp only; omega, hf'.2.1⟩ hg.mask
  refine ⟨l, m, p, _, rfl, ⟨hl, fun r hr => ⟨hg.mask r hr, by rw [hg.len16 r hr]; exact Nat.le_refl _⟩, by omega⟩, rfl, ?_⟩
  rw [foldR_red hg.len16]
  generalize l.foldl red (m, p) = x at hx16 hbd
  have hsmall : smallRows l := hs
  refine BIf.of (fun h0 => ⟨x.2, _, rfl, by omega, rfl, BIf.of (fun hz => ?_) fun hz => ⟨l, rfl, hsmall, BIf.of (fun hn => ?_) fun hn => ⟨rfl, rowsR l, rfl, by simp [rowsR], ?_, ?_⟩⟩⟩) fun h0 => ?_
  · have hz : zero16 x.2 = false := by rw [← zeroL_16 hx16]; simpa using hz
    rw [h0, hz]
    exact nilTup _ _
  · have hz : zero16 x.2 = true := by rw [← zeroL_16 hx16]; simpa using hz
    have hn : l = [] := List.length_eq_zero_iff.1 (by simpa using hn)
    rw [h0, hz, hn]
    exact nilTup _ _
  · intro r hr
    obtain ⟨r', _, rfl⟩ := List.mem_map.1 hr
    rfl
  · have hz : zero16 x.2 = true := by rw [← zeroL_16 hx16]; simpa using hz
    rw [h0, hz, keep_id hg]
    exact .rfl
  · have hx0 : x.1 ≠ 0 := by simpa using h0
    rw [h0]
    refine ⟨x.1, rfl, ⟨by omega, by omega⟩, l, rfl, hsmall, BIf.of (fun hn => ⟨x, _, rfl, rfl, rfl, ?_⟩) fun hn => ⟨l, x, _, _, rfl, rfl, rfl, ⟨hsmall.1, fun r hr => ⟨hg.mask r hr, hg.len16 r hr⟩, hx16⟩, rfl, fun cs => ?_⟩⟩
    · have hn : l = [] := List.length_eq_zero_iff.1 (by simpa using hn)
      subst hn
      simp only [List.foldl_nil, b16_id hx16]
      exact .rfl
    · have hlen : (l.foldl (stepB x) ([], false)).1.length ≤ 0 + l.length + 1 := (stepB_len1 x l ([], false)).1
      have h1000 := hsmall.1
      refine BIf.of (fun h1 => BIf.t (by simp [rowsR]; omega) ?_) fun h1 => ?_
      · have e : rowsR (l.foldl (stepB x) ([], false)).1 ++ [[i64 x.1, .sl 1 (bytesR x.2)]] = rowsR ((l.foldl (stepB x) ([], false)).1 ++ [(x.1, b16 x.2)]) := by simp [rowsR, rowD, b16_id hx16]
        rw [e, h1]
        exact .rfl
      · rw [h1]; exact .rfl
def c13 (args : List AV) (K : AV → Prop) : Prop := ∃ (l : List Row) (m : Int) (b : List Int) (x : List Row × Bool × Int), args = [.d (.sl 2 (rowsR l)), rowA m b] ∧ smallRows l ∧ x = addS l m b ∧ K (addR x)
theorem c13_ok : ∀ args K, c13 args K → ∃ x, PCall Try.prog 13 args x ∧ K x := by
  rintro _ K ⟨l, m, b, _, rfl, h1, rfl, h⟩; exact ⟨_, pc13 l m b h1, h⟩
end Go.Proofs.Ytgdeoaiakdkhcaa.Am
