import Derived.Test.YtgdeoaiakdkhcaaSvM
import Derived.Test.YtgdeoaiakdkhcaaAmZh
namespace Go.Proofs.Ytgdeoaiakdkhcaa.Am
set_option linter.unusedVariables false
open Go Go.RowKit Go.Proofs

/-! ### words of bits -/
section
variable {ι : Type}
def vx (u v : ι → Bool) : ι → Bool := fun i => (u i ^^ v i)
def redV (x : ι → Bool) (r : ι × (ι → Bool)) : ι → Bool := if x r.1 then vx x r.2 else x
theorem redV_vx (x y : ι → Bool) (r : ι × (ι → Bool)) : redV (vx x y) r = vx (redV x r) (redV y r) := by
  funext i
  unfold redV
  have e : vx x y r.1 = (x r.1 ^^ y r.1) := rfl
  rw [e]
  cases x r.1 <;> cases y r.1 <;> simp [vx] <;> cases x i <;> cases y i <;> cases r.2 i <;> rfl
theorem foldV_vx : ∀ (l : List (ι × (ι → Bool))) (x y : ι → Bool), l.foldl redV (vx x y) = vx (l.foldl redV x) (l.foldl redV y)
  | [], x, y => rfl
  | r :: l, x, y => by simp only [List.foldl_cons, redV_vx, foldV_vx l]
end

/-! ### equations as words -/
abbrev Ix := Nat ⊕ (Nat × Nat)
def vec (x : Row) : Ix → Bool
  | .inl k => x.1.toNat.testBit k
  | .inr (i, j) => decide (i < 16) && (BitVec.ofInt 8 (nth x.2 i)).getLsbD j
def top (m : Int) : Nat := m.toNat.log2
def rowV (r : Row) : Ix × (Ix → Bool) := (.inl (top r.1), vec (r.1, pad r.2))

theorem nth_xorL {p q : List Int} {i : Nat} (h : i < 16) : nth (xorL p q) i = xor8 (nth p i) (nth q i) := by
  simp [nth, xorL, List.getElem?_range, h]
theorem wrap_u8_nat {n : Nat} (h : n < 256) : IntKind.wrap .u8 (n : Int) = n := wrap_u8 (by omega) (by omega)
theorem xor8_nat (a b : Int) : xor8 a b = (((BitVec.ofInt 8 a ^^^ BitVec.ofInt 8 b).toNat : Nat) : Int) := by
  unfold xor8; exact wrap_u8_nat (BitVec.isLt _)
theorem ofInt_xor8 (a b : Int) : BitVec.ofInt 8 (xor8 a b) = BitVec.ofInt 8 a ^^^ BitVec.ofInt 8 b := by
  rw [xor8_nat]
  generalize hz : BitVec.ofInt 8 a ^^^ BitVec.ofInt 8 b = z
  apply BitVec.eq_of_toNat_eq
  rw [BitVec.toNat_ofInt]
  have := z.isLt
  omega
theorem xor8_bd (a b : Int) : 0 ≤ xor8 a b ∧ xor8 a b < 256 := by
  rw [xor8_nat]
  have := (BitVec.ofInt 8 a ^^^ BitVec.ofInt 8 b).isLt
  omega
theorem vec_xor {m n : Int} {p q : List Int} (h0 : 0 ≤ m) (h1 : m < 65536) (h2 : 0 ≤ n) (h3 : n < 65536) : vec (xor64 m n, xorL p q) = vx (vec (m, p)) (vec (n, q)) := by
  funext i
  cases i with
  | inl k => simp only [vec, vx]; rw [xor64_eq h0 h1 h2 h3]; simp
  | inr ij =>
    obtain ⟨i, j⟩ := ij
    simp only [vec, vx]
    by_cases h : i < 16
    · rw [nth_xorL h, ofInt_xor8]; simp [h]
    · simp [h]

theorem lead_nat (m : Int) : (lead m).toNat = 2 ^ top m := Int.toNat_natCast _
theorem lead_bd {m : Int} (h0 : 1 ≤ m) (h1 : m < 65536) : 0 ≤ lead m ∧ lead m < 65536 := by
  have h2 := (log2_bounds (n := m.toNat) (by omega)).1
  unfold lead
  generalize 2 ^ m.toNat.log2 = z at h2
  omega
theorem and_pow (n k : Nat) : n &&& 2 ^ k = if n.testBit k then 2 ^ k else 0 := by
  apply Nat.eq_of_testBit_eq
  intro i
  rw [Nat.testBit_and, Nat.testBit_two_pow]
  by_cases h : k = i
  · subst h
    cases hn : n.testBit k <;> simp [Nat.testBit_two_pow]
  · cases hn : n.testBit k <;> simp [Nat.testBit_two_pow, h]
theorem and_lead {x m : Int} (hx : 0 ≤ x ∧ x < 65536) (h0 : 1 ≤ m) (h1 : m < 65536) : (and64 x (lead m) != 0) = x.toNat.testBit (top m) := by
  have hl := lead_bd h0 h1
  rw [and64_eq hx.1 hx.2 hl.1 hl.2, lead_nat, and_pow]
  cases x.toNat.testBit (top m) with
  | true =>
    have := Nat.two_pow_pos (top m)
    generalize 2 ^ top m = z at this
    simp [bne]; omega
  | false => simp [bne]
theorem vec_red {x r : Row} (hx : 0 ≤ x.1 ∧ x.1 < 65536) (hr : okMask r) : vec (red x r) = redV (vec x) (rowV r) := by
  unfold red redV rowV
  rw [and_lead hx hr.1 hr.2]
  show _ = if x.1.toNat.testBit (top r.1) then _ else _
  split
  · rw [vec_xor hx.1 hx.2 (by have := hr.1; omega) hr.2]
  · rfl
theorem vec_foldl : ∀ {l : List Row} {x : Row}, 0 ≤ x.1 ∧ x.1 < 65536 → (∀ r ∈ l, okMask r) → vec (l.foldl red x) = (l.map rowV).foldl redV (vec x)
  | [], x, _, _ => rfl
  | r :: l, x, hx, h => by
    have hr := h r (List.mem_cons_self ..)
    simp only [List.foldl_cons, List.map_cons]
    rw [vec_foldl (red_bd hx hr) fun r' h' => h r' (List.mem_cons_of_mem _ h'), vec_red hx hr]

/-- its bytes are bytes -/
def canon (p : List Int) : Prop := ∀ i, i < 16 → 0 ≤ nth p i ∧ nth p i < 256
theorem canon_nil : canon [] := fun i _ => by simp [nth]
theorem canon_xorL (p q : List Int) : canon (xorL p q) := fun i h => by rw [nth_xorL h]; exact xor8_bd _ _
theorem canon_red {x r : Row} (h : canon x.2) : canon (red x r).2 := by
  unfold red; split
  · exact canon_xorL _ _
  · exact h
theorem canon_foldl : ∀ {l : List Row} {x : Row}, canon x.2 → canon (l.foldl red x).2
  | [], _, h => h
  | r :: l, x, h => canon_foldl (l := l) (canon_red h)

theorem ofInt8_inj {a b : Int} (ha : 0 ≤ a ∧ a < 256) (hb : 0 ≤ b ∧ b < 256) (h : BitVec.ofInt 8 a = BitVec.ofInt 8 b) : a = b := by
  have := congrArg BitVec.toNat h
  simp only [BitVec.toNat_ofInt] at this
  omega
theorem vec_inr {x y : Row} (h : vec x = vec y) {i : Nat} (hi : i < 16) : BitVec.ofInt 8 (nth x.2 i) = BitVec.ofInt 8 (nth y.2 i) := by
  apply BitVec.eq_of_getLsbD_eq
  intro j _
  have := congrFun h (.inr (i, j))
  simpa [vec, hi] using this
theorem b16_len (p : List Int) : (b16 p).length = 16 := by simp [b16]
theorem nth_b16 {p : List Int} {i : Nat} (h : i < 16) : nth (b16 p) i = nth p i := by
  simp [nth, b16, List.getElem?_range, h]
theorem list16 {p q : List Int} (hp : p.length = 16) (hq : q.length = 16) (h : ∀ i, i < 16 → nth p i = nth q i) : p = q := by
  apply List.ext_getElem (by omega)
  intro i h1 h2
  have := h i (by omega)
  simpa [nth, List.getElem?_eq_getElem h1, List.getElem?_eq_getElem h2] using this
theorem b16_ext {x y : Row} (hx : canon x.2) (hy : canon y.2) (h : vec x = vec y) : b16 x.2 = b16 y.2 :=
  list16 (b16_len _) (b16_len _) fun i hi => by rw [nth_b16 hi, nth_b16 hi]; exact ofInt8_inj (hx i hi) (hy i hi) (vec_inr h hi)
theorem vec_inl {x y : Row} (hx : 0 ≤ x.1) (hy : 0 ≤ y.1) (h : vec x = vec y) : x.1 = y.1 := by
  have : x.1.toNat = y.1.toNat := by
    apply Nat.eq_of_testBit_eq
    intro k
    have := congrFun h (.inl k)
    simpa [vec] using this
  omega
/-- equations with bytes: the same word, the same equation -/
theorem xorL_b16 (p q : List Int) : xorL (b16 p) (b16 q) = xorL p q :=
  list16 (by simp [xorL]) (by simp [xorL]) fun i hi => by rw [nth_xorL hi, nth_xorL hi, nth_b16 hi, nth_b16 hi]
theorem b16_xorL (p q : List Int) : b16 (xorL p q) = xorL p q :=
  list16 (b16_len _) (by simp [xorL]) fun i hi => nth_b16 hi

theorem validS_ok {l : List Row} (h : validS l = true) : ∀ r ∈ l, okMask r := by
  simp only [validS, Bool.and_eq_true] at h
  exact fun r hr => fine_ok (vA_ok h.1 r hr)

/-- the sum of two sums -/
theorem red_sum {l : List Row} (hl : ∀ r ∈ l, okMask r) {a c : Int} (ha : 0 ≤ a ∧ a < 65536) (hc : 0 ≤ c ∧ c < 65536) :
    (l.foldl red (xor64 a c, [])).1 = xor64 (l.foldl red (a, [])).1 (l.foldl red (c, [])).1 ∧ b16 (l.foldl red (xor64 a c, [])).2 = xorL (l.foldl red (a, [])).2 (l.foldl red (c, [])).2 := by
  have hx := xor64_bd ha.1 ha.2 hc.1 hc.2
  have b1 := foldl_red_bd (l := l) (x := (a, [])) ha hl
  have b2 := foldl_red_bd (l := l) (x := (c, [])) hc hl
  have b3 := foldl_red_bd (l := l) (x := (xor64 a c, [])) hx hl
  have e0 : vec (xor64 a c, []) = vx (vec (a, [])) (vec (c, [])) := by
    rw [← vec_xor ha.1 ha.2 hc.1 hc.2]
    funext i
    cases i with
    | inl k => rfl
    | inr ij =>
      obtain ⟨i, j⟩ := ij
      simp only [vec]
      by_cases h : i < 16
      · rw [nth_xorL h]; simp [nth, xor8_nat]
      · simp [h]
  have e : vec (l.foldl red (xor64 a c, [])) = vec (xor64 (l.foldl red (a, [])).1 (l.foldl red (c, [])).1, xorL (l.foldl red (a, [])).2 (l.foldl red (c, [])).2) := by
    rw [vec_foldl hx hl, e0, foldV_vx, ← vec_foldl ha hl, ← vec_foldl hc hl, vec_xor b1.1 b1.2 b2.1 b2.2]
  have b4 := xor64_bd b1.1 b1.2 b2.1 b2.2
  refine ⟨vec_inl b3.1 b4.1 e, ?_⟩
  have := b16_ext (canon_foldl canon_nil) (canon_xorL _ _) e
  rw [this, b16_xorL]

theorem xor64_zero {a b : Int} (ha : 0 ≤ a ∧ a < 65536) (hb : 0 ≤ b ∧ b < 65536) : xor64 a b = 0 ↔ a = b := by
  rw [xor64_eq ha.1 ha.2 hb.1 hb.2]
  constructor
  · intro h
    have : a.toNat ^^^ b.toNat = 0 := by omega
    have : a.toNat = b.toNat := by
      apply Nat.eq_of_testBit_eq
      intro k
      have h2 := congrArg (fun z => z.testBit k) this
      simpa using h2
    omega
  · rintro rfl; simp

end Go.Proofs.Ytgdeoaiakdkhcaa.Am
