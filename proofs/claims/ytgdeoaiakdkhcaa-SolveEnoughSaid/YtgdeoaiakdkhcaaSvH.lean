import Derived.Test.YtgdeoaiakdkhcaaSvG
namespace Go.Proofs.Ytgdeoaiakdkhcaa.Am
set_option linter.unusedVariables false
open Go Go.RowKit Go.Proofs

/-! ### words on masks -/
theorem ofInt_toNat {a : Int} (h0 : 0 ≤ a) (h1 : a < 18446744073709551616) : (BitVec.ofInt 64 a).toNat = a.toNat := by
  simp [BitVec.toNat_ofInt]; omega
theorem xor64_eq {a b : Int} (h0 : 0 ≤ a) (h1 : a < 65536) (h2 : 0 ≤ b) (h3 : b < 65536) : xor64 a b = ((a.toNat ^^^ b.toNat : Nat) : Int) := by
  unfold xor64
  rw [BitVec.toNat_xor, ofInt_toNat h0 (by omega), ofInt_toNat h2 (by omega)]
  have : a.toNat ^^^ b.toNat < 2 ^ 16 := Nat.xor_lt_two_pow (by omega) (by omega)
  rw [wrap_i64 (by omega) (by omega)]
theorem and64_eq {a b : Int} (h0 : 0 ≤ a) (h1 : a < 65536) (h2 : 0 ≤ b) (h3 : b < 65536) : and64 a b = ((a.toNat &&& b.toNat : Nat) : Int) := by
  unfold and64
  rw [BitVec.toNat_and, ofInt_toNat h0 (by omega), ofInt_toNat h2 (by omega)]
  have : a.toNat &&& b.toNat < 2 ^ 16 := Nat.and_lt_two_pow _ (by omega)
  rw [wrap_i64 (by omega) (by omega)]
theorem or64_eq {a b : Int} (h0 : 0 ≤ a) (h1 : a < 65536) (h2 : 0 ≤ b) (h3 : b < 65536) : or64 a b = ((a.toNat ||| b.toNat : Nat) : Int) := by
  unfold or64
  rw [BitVec.toNat_or, ofInt_toNat h0 (by omega), ofInt_toNat h2 (by omega)]
  have : a.toNat ||| b.toNat < 2 ^ 16 := Nat.or_lt_two_pow (by omega) (by omega)
  rw [wrap_i64 (by omega) (by omega)]
theorem xor64_bd {a b : Int} (h0 : 0 ≤ a) (h1 : a < 65536) (h2 : 0 ≤ b) (h3 : b < 65536) : 0 ≤ xor64 a b ∧ xor64 a b < 65536 := by
  rw [xor64_eq h0 h1 h2 h3]
  have : a.toNat ^^^ b.toNat < 2 ^ 16 := Nat.xor_lt_two_pow (by omega) (by omega)
  omega

theorem red_bd {x r : Row} (hx : 0 ≤ x.1 ∧ x.1 < 65536) (hr : okMask r) : 0 ≤ (red x r).1 ∧ (red x r).1 < 65536 := by
  unfold red
  split
  · exact xor64_bd hx.1 hx.2 (by have := hr.1; omega) hr.2
  · exact hx
theorem foldl_red_bd : ∀ {l : List Row} {x : Row}, 0 ≤ x.1 ∧ x.1 < 65536 → (∀ r ∈ l, okMask r) → 0 ≤ (l.foldl red x).1 ∧ (l.foldl red x).1 < 65536
  | [], x, hx, _ => hx
  | r :: l, x, hx, h => foldl_red_bd (l := l) (x := red x r) (red_bd hx (h r (List.mem_cons_self ..))) fun r' h' => h r' (List.mem_cons_of_mem _ h')

theorem stepB_len (e : Row) : ∀ (l : List Row) (s : List Row × Bool), (l.foldl (stepB e) s).1.length ≤ s.1.length + 2 * l.length
  | [], s => by simp
  | r :: l, s => by
    have h1 := stepB_len e l (stepB e s r)
    have h2 : (stepB e s r).1.length ≤ s.1.length + 2 := by
      simp only [stepB]; split <;> simp
    simp only [List.foldl_cons, List.length_cons]; omega

/-! ### Add -/
def zero16 (p : List Int) : Bool := (List.range 16).all fun i => nth p i == 0
def addR (x : List Row × Bool × Int) : AV := .tup [.d (.sl 2 (rowsR x.1)), .d (bo x.2.1), .d (i64 x.2.2)]
def addS (l : List Row) (m : Int) (b : List Int) : List Row × Bool × Int :=
  if !validS l || !fine m b then ([], false, 1) else
  let x := l.foldl red (m, pad b)
  if x.1 == 0 && zero16 x.2 then (l.map keepR, false, 0) else if x.1 == 0 then ([], false, 12) else
  let s := l.foldl (stepB x) ([], false)
  (if !s.2 then s.1 ++ [(x.1, b16 x.2)] else s.1, true, 0)

theorem nilTup (a b : AV) : LeT (.tup [.d (.s (.slice none 0 0)), a, b]) (.tup [.d (.sl 2 (rowsR [])), a, b]) := .tup (.cons (LeA.nilSl rfl) (LeL.refl _))

theorem pc12 (l : List Row) (m : Int) (b : List Int) (hl : 2 * l.length ≤ 1000000) : PCall Try.prog 12 [.d (.sl 2 (rowsR l)), rowA m b] (addR (addS l m b)) := by
  refine PCall.ofFnL (n := 100) (u := false) (fun _ => wl12) mixed TS_ok SCallsOk.nil (fun Ev => wl12_ok) Try.func12 (by rfl) (by rfl) fun Ev bb => ?_
  rw [f12_nf]
  refine ⟨m, b, rfl, l, rfl, by omega, BIf.of (fun h1 => ?_) fun h1 => BIf.of (fun h2 => ?_) fun h2 => ?_⟩
  · rw [show addS l m b = ([], false, 1) by simp only [addS, h1, Bool.true_or, if_true]]; exact nilTup _ _
  · rw [show addS l m b = ([], false, 1) by simp only [addS, h2, Bool.or_true, if_true]]; exact nilTup _ _
  · have hv : validS l = true := by simpa using h1
    have hok : ∀ r ∈ l, okMask r := by
      simp only [validS, Bool.and_eq_true] at hv
      exact fun r hr => fine_ok (vA_ok hv.1 r hr)
    have hf : fine m b = true := by simpa using h2
    have hm : 0 ≤ m ∧ m < 65536 := by
      have := fine_ok (r := (m, b)) hf
      exact ⟨by have := this.1; omega, this.2⟩
    have hx := foldl_red_bd (l := l) (x := (m, pad b)) hm hok
    refine ⟨l, m, pad b, _, rfl, ⟨hok, by omega⟩, rfl, ?_⟩
    show BIf ((l.foldl red (m, pad b)).1 == 0 && (zero16 (l.foldl red (m, pad b)).2 && true)) _ _
    have e0 : addS l m b = (let x := l.foldl red (m, pad b)
        if x.1 == 0 && zero16 x.2 then (l.map keepR, false, 0) else if x.1 == 0 then ([], false, 12) else
        let s := l.foldl (stepB x) ([], false)
        (if !s.2 then s.1 ++ [(x.1, b16 x.2)] else s.1, true, 0)) := by
      simp only [addS, h1, h2, Bool.or_false, Bool.false_eq_true, if_false]
    rw [e0]
    generalize l.foldl red (m, pad b) = x at hx
    refine BIf.of (fun h3 => ?_) fun h3 => BIf.of (fun h4 => ?_) fun h4 => ?_
    · rw [Bool.and_true] at h3
      refine ⟨_, rfl, l, _, _, x, rfl, rfl, rfl, by omega, ?_⟩
      simp only [h3, if_true]
      exact .rfl
    · rw [Bool.and_true] at h3
      show LeT _ (addR (if (x.1 == 0 && zero16 x.2) = true then _ else _))
      rw [h3, if_neg (by simp), if_pos h4]
      exact nilTup _ _
    · rw [Bool.and_true] at h3
      have hne : x.1 ≠ 0 := by simpa using h4
      have hxo : okMask x := ⟨by omega, hx.2⟩
      refine ⟨_, rfl, l, _, _, x, _, rfl, rfl, rfl, ⟨hxo, hok, hl⟩, rfl, ?_⟩
      have hlen := stepB_len x l ([], false)
      simp only [h3, h4, Bool.false_eq_true, if_false]
      generalize l.foldl (stepB x) ([], false) = s at hlen
      simp only [List.length_nil] at hlen
      refine BIf.of (fun h5 => ?_) fun h5 => ?_
      · refine ⟨_, _, _, rfl, rfl, BIf.t (tt32 (by rw [rowsR_len]; omega)) ?_⟩
        rw [rowsR_snoc]
        simp only [h5, if_true]
        exact .rfl
      · simp only [h5, Bool.false_eq_true, if_false]
        exact .rfl
def c12 (args : List AV) (K : AV → Prop) : Prop := ∃ (l : List Row) (m : Int) (b : List Int) (x : List Row × Bool × Int), args = [.d (.sl 2 (rowsR l)), rowA m b] ∧ 2 * l.length ≤ 1000000 ∧ x = addS l m b ∧ K (addR x)
theorem c12_ok : ∀ args K, c12 args K → ∃ x, PCall Try.prog 12 args x ∧ K x := by
  rintro _ K ⟨l, m, b, _, rfl, h1, rfl, h⟩; exact ⟨_, pc12 l m b h1, h⟩

end Go.Proofs.Ytgdeoaiakdkhcaa.Am
