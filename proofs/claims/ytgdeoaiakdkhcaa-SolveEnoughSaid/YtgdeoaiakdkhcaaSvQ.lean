import Derived.Test.YtgdeoaiakdkhcaaSvO
namespace Go.Proofs.Ytgdeoaiakdkhcaa.Am
set_option linter.unusedVariables false
open Go Go.RowKit Go.Proofs

/-! ### the two words on validity are one -/
theorem fine_formed (m : Int) (p : List Int) : fine m p = formedS m p := by
  unfold fine formedS
  congr 2
  rw [Bool.eq_iff_iff]; simp; omega
theorem lead_eq (m : Int) : lead m = ((2 ^ top m : Nat) : Int) := rfl
theorem lead_lt {a b : Int} : lead a < lead b ↔ top a < top b := by
  rw [lead_eq, lead_eq]
  constructor
  · intro h
    rcases Nat.lt_or_ge (top a) (top b) with h' | h'
    · exact h'
    · have := Nat.pow_le_pow_right (n := 2) (by omega) h'; omega
  · intro h
    have := Nat.pow_lt_pow_right (a := 2) (by omega) h; omega
theorem top_bit {m : Int} (h : 1 ≤ m) : m.toNat.testBit (top m) = true := by
  have hn : m.toNat ≠ 0 := by omega
  obtain ⟨h1, h2⟩ := log2_bounds hn
  unfold top
  rw [Nat.testBit_eq_decide_div_mod_eq]
  rw [Nat.pow_succ] at h2
  have h3 : m.toNat / 2 ^ m.toNat.log2 = 1 := by
    apply Nat.div_eq_of_lt_le <;> omega
  rw [h3]; rfl
theorem top_lt {m : Int} (h0 : 1 ≤ m) (h1 : m < 65536) : top m < 16 := (Nat.log2_lt (by omega)).2 (by omega)

theorem vPrev_vA : ∀ (l : List Row) (q : Row) (L : Int), vPrev (some q) l = (vA l (L, lead q.1)).2
  | [], _, _ => rfl
  | r :: l, q, L => by
    simp only [vPrev, vA, prevOk, fine_formed]
    cases hc : (formedS r.1 r.2 && decide (lead r.1 < lead q.1)) with
    | false => simp
    | true => simp; exact vPrev_vA l r _
theorem vPrev_vA0 (l : List Row) : vPrev none l = (vA l (0, 65536)).2 := by
  cases l with
  | nil => rfl
  | cons r l =>
    simp only [vPrev, vA, prevOk, fine_formed]
    cases hf : formedS r.1 r.2 with
    | false => simp
    | true =>
      simp only [formedS, Bool.and_eq_true, decide_eq_true_eq] at hf
      have := (lead_bd hf.1 hf.2.1).2
      simp [this]; exact vPrev_vA l r _

/-- the leads fall -/
theorem vA_falls : ∀ {l : List Row} {s : Int × Int}, (vA l s).2 = true → (∀ r ∈ l, lead r.1 < s.2) ∧ l.Pairwise fun a b => lead b.1 < lead a.1
  | [], _, _ => ⟨fun r h => (by cases h), .nil⟩
  | r :: l, s, h => by
    simp only [vA] at h
    split at h
    · rename_i hc
      simp only [Bool.and_eq_true, decide_eq_true_eq] at hc
      obtain ⟨h1, h2⟩ := vA_falls h
      refine ⟨fun r' hr => ?_, .cons (fun r' hr => h1 r' hr) h2⟩
      rcases List.mem_cons.1 hr with rfl | hr
      · exact hc.2
      · have := h1 r' hr; simp only at this; omega
    · cases h
theorem or64_bd {a b : Int} (h0 : 0 ≤ a) (h1 : a < 65536) (h2 : 0 ≤ b) (h3 : b < 65536) : 0 ≤ or64 a b ∧ or64 a b < 65536 := by
  rw [or64_eq h0 h1 h2 h3]
  have : a.toNat ||| b.toNat < 2 ^ 16 := Nat.or_lt_two_pow (by omega) (by omega)
  omega
/-- the leads, gathered -/
theorem vA_L : ∀ {l : List Row} {s : Int × Int}, (vA l s).2 = true → 0 ≤ s.1 ∧ s.1 < 65536 → (0 ≤ (vA l s).1.1 ∧ (vA l s).1.1 < 65536) ∧ ∀ k, (vA l s).1.1.toNat.testBit k = (s.1.toNat.testBit k || l.any fun r => top r.1 == k)
  | [], s, _, hs => ⟨hs, fun k => by simp [vA]⟩
  | r :: l, s, h, hs => by
    simp only [vA] at h ⊢
    split at h
    · rename_i hc
      rw [if_pos hc]
      simp only [Bool.and_eq_true, decide_eq_true_eq] at hc
      obtain ⟨m1, m2⟩ := fine_ok hc.1
      have hl := lead_bd m1 m2
      obtain ⟨h1, h2⟩ := vA_L h (or64_bd hs.1 hs.2 hl.1 hl.2)
      refine ⟨h1, fun k => ?_⟩
      rw [h2 k]
      simp only [or64_eq hs.1 hs.2 hl.1 hl.2, Int.toNat_natCast, Nat.testBit_or, lead_nat, Nat.testBit_two_pow, List.any_cons]
      rw [Bool.or_assoc]
      rfl
    · cases h

theorem vInner_iff (i : Nat) (x : Row) : ∀ (l : List Row) (k : Nat), vInner i x k l = true ↔ ∀ (j : Nat) (r : Row), l[j]? = some r → i = k + j ∨ and64 r.1 (lead x.1) = 0
  | [], k => by simp [vInner]
  | r :: l, k => by
    simp only [vInner, Bool.and_eq_true, Bool.or_eq_true, decide_eq_true_eq, beq_iff_eq, vInner_iff i x l (k + 1)]
    constructor
    · rintro ⟨h1, h2⟩ j r' hj
      cases j with
      | zero => simp at hj; subst hj; simpa using h1
      | succ j => have := h2 j r' (by simpa using hj); rcases this with h | h
                  · left; omega
                  · right; exact h
    · intro h
      refine ⟨by simpa using h 0 r rfl, fun j r' hj => ?_⟩
      rcases h (j + 1) r' (by simpa using hj) with h | h
      · left; omega
      · right; exact h
theorem vOuter_iff (all : List Row) : ∀ (l : List Row) (i : Nat), vOuter all i l = true ↔ ∀ (j : Nat) (x : Row), l[j]? = some x → ∀ (k : Nat) (r : Row), all[k]? = some r → i + j = k ∨ and64 r.1 (lead x.1) = 0
  | [], i => by simp [vOuter]
  | x :: l, i => by
    simp only [vOuter, Bool.and_eq_true, vInner_iff, vOuter_iff all l (i + 1)]
    constructor
    · rintro ⟨h1, h2⟩ j y hj k r hk
      cases j with
      | zero => simp at hj; subst hj; simpa using h1 k r hk
      | succ j => rcases h2 j y (by simpa using hj) k r hk with h | h
                  · left; omega
                  · right; exact h
    · intro h
      refine ⟨fun k r hk => by simpa using h 0 x rfl k r hk, fun j y hj k r hk => ?_⟩
      rcases h (j + 1) y (by simpa using hj) k r hk with h | h
      · left; omega
      · right; exact h

/-- what a valid list is -/
structure Good (l : List Row) : Prop where
  ok : ∀ r ∈ l, fine r.1 r.2 = true
  falls : l.Pairwise fun a b => top b.1 < top a.1
  clear : l.Pairwise fun a b => a.1.toNat.testBit (top b.1) = false ∧ b.1.toNat.testBit (top a.1) = false

theorem pairwise_at {α : Type} {R : α → α → Prop} {l : List α} (h : l.Pairwise R) {i k : Nat} {a b : α} (ha : l[i]? = some a) (hb : l[k]? = some b) (hik : i < k) : R a b := by
  obtain ⟨h1, rfl⟩ := List.getElem?_eq_some_iff.1 ha
  obtain ⟨h2, rfl⟩ := List.getElem?_eq_some_iff.1 hb
  exact List.pairwise_iff_getElem.1 h i k h1 h2 hik
theorem pairwise_of {α : Type} {R : α → α → Prop} {l : List α} (h : ∀ (i k : Nat) (a b : α), l[i]? = some a → l[k]? = some b → i < k → R a b) : l.Pairwise R :=
  List.pairwise_iff_getElem.2 fun i k h1 h2 hik => h i k _ _ (List.getElem?_eq_getElem h1) (List.getElem?_eq_getElem h2) hik

theorem and_zero {x m : Int} (hx : okMask (x, [])) (hm : okMask (m, [])) : and64 x (lead m) = 0 ↔ x.toNat.testBit (top m) = false := by
  have := and_lead (x := x) (m := m) ⟨by have := hx.1; simp at this; omega, hx.2⟩ hm.1 hm.2
  cases hb : x.toNat.testBit (top m) <;> rw [hb] at this <;> simpa [bne] using this

theorem validR_good (l : List Row) : validR l = true ↔ Good l := by
  unfold validR
  rw [Bool.and_eq_true, vPrev_vA0, vOuter_iff]
  constructor
  · rintro ⟨h1, h2⟩
    have hf := vA_ok h1
    have hm : ∀ r ∈ l, okMask r := fun r hr => fine_ok (hf r hr)
    obtain ⟨_, h3⟩ := vA_falls h1
    refine ⟨hf, h3.imp fun h => lead_lt.1 h, pairwise_of fun i k a b ha hb hik => ?_⟩
    have ma := hm a (List.mem_of_getElem? ha)
    have mb := hm b (List.mem_of_getElem? hb)
    constructor
    · rcases h2 k b hb i a ha with h | h
      · omega
      · exact (and_zero ma mb).1 h
    · rcases h2 i a ha k b hb with h | h
      · omega
      · exact (and_zero mb ma).1 h
  · rintro ⟨hf, h3, h4⟩
    have hm : ∀ r ∈ l, okMask r := fun r hr => fine_ok (hf r hr)
    refine ⟨?_, fun i x hx k r hk => ?_⟩
    · have key : ∀ (l : List Row) (s : Int × Int), (∀ r ∈ l, fine r.1 r.2 = true) → (l.Pairwise fun a b => top b.1 < top a.1) → (∀ r ∈ l, lead r.1 < s.2) → (vA l s).2 = true := by
        intro l
        induction l with
        | nil => intro s _ _ _; rfl
        | cons r l ih =>
          intro s hf h3 hs
          simp only [vA]
          rw [if_pos (by rw [hf r (List.mem_cons_self ..), decide_eq_true (hs r (List.mem_cons_self ..))]; rfl)]
          have h3' := List.pairwise_cons.1 h3
          exact ih _ (fun r' hr => hf r' (List.mem_cons_of_mem _ hr)) h3'.2 fun r' hr => lead_lt.2 (h3'.1 r' hr)
      exact key l _ hf h3 fun r hr => (lead_bd (hm r hr).1 (hm r hr).2).2
    · have mx := hm x (List.mem_of_getElem? hx)
      have mr := hm r (List.mem_of_getElem? hk)
      rcases Nat.lt_trichotomy i k with h | h | h
      · exact .inr ((and_zero mr mx).2 (pairwise_at h4 hx hk h).2)
      · left; omega
      · exact .inr ((and_zero mr mx).2 (pairwise_at h4 hk hx h).1)

theorem validS_good (l : List Row) : validS l = true ↔ Good l := by
  unfold validS
  rw [Bool.and_eq_true]
  have hall : ∀ L : Int, vB L l = true ↔ ∀ r ∈ l, and64 r.1 L = lead r.1 := by
    intro L; unfold vB; rw [List.all_eq_true]; simp
  have key : (vA l (0, 65536)).2 = true → (l.Pairwise fun a b => top b.1 < top a.1) → (vB (vA l (0, 65536)).1.1 l = true ↔ l.Pairwise fun a b => a.1.toNat.testBit (top b.1) = false ∧ b.1.toNat.testBit (top a.1) = false) := by
    intro h1 h3
    have hm : ∀ r ∈ l, okMask r := fun r hr => fine_ok (vA_ok h1 r hr)
    obtain ⟨hL, hb⟩ := vA_L h1 (by decide)
    rw [hall]
    generalize (vA l (0, 65536)).1.1 = L at hL hb
    have hand : ∀ r ∈ l, (and64 r.1 L = lead r.1 ↔ ∀ k, (r.1.toNat.testBit k && l.any fun s => top s.1 == k) = decide (top r.1 = k)) := by
      intro r hr
      rw [and64_eq (by have := (hm r hr).1; omega) (hm r hr).2 hL.1 hL.2, lead_eq]
      constructor
      · intro h k
        have h' : r.1.toNat &&& L.toNat = 2 ^ top r.1 := by omega
        have := congrArg (fun n => n.testBit k) h'
        simp only [Nat.testBit_and, hb k, Nat.testBit_two_pow] at this
        simpa using this
      · intro h
        congr 1
        apply Nat.eq_of_testBit_eq
        intro k
        simp only [Nat.testBit_and, hb k, Nat.testBit_two_pow]
        simpa using h k
    constructor
    · intro h
      refine pairwise_of fun i k a b ha hb' hik => ?_
      have hab := pairwise_at h3 ha hb' hik
      have ma := List.mem_of_getElem? ha
      have mb := List.mem_of_getElem? hb'
      have e1 := (hand a ma).1 (h a ma) (top b.1)
      have e2 := (hand b mb).1 (h b mb) (top a.1)
      have f1 : (l.any fun s => top s.1 == top b.1) = true := List.any_eq_true.2 ⟨b, mb, by simp⟩
      have f2 : (l.any fun s => top s.1 == top a.1) = true := List.any_eq_true.2 ⟨a, ma, by simp⟩
      rw [f1, Bool.and_true] at e1
      rw [f2, Bool.and_true] at e2
      exact ⟨by rw [e1]; simp; omega, by rw [e2]; simp; omega⟩
    · intro h r hr
      rw [hand r hr]
      intro k
      by_cases hk : top r.1 = k
      · subst hk
        rw [top_bit (hm r hr).1, decide_eq_true rfl, Bool.true_and]
        exact List.any_eq_true.2 ⟨r, hr, by simp⟩
      · rw [decide_eq_false hk]
        cases hx : (l.any fun s => top s.1 == k) with
        | false => simp
        | true =>
          obtain ⟨s, hs, hsk⟩ := List.any_eq_true.1 hx
          have hsk : top s.1 = k := by simpa using hsk
          obtain ⟨i, hi⟩ := List.mem_iff_getElem?.1 hr
          obtain ⟨j, hj⟩ := List.mem_iff_getElem?.1 hs
          rw [Bool.and_true, ← hsk]
          rcases Nat.lt_trichotomy i j with h' | h' | h'
          · exact (pairwise_at h hi hj h').1
          · subst h'; rw [hi] at hj; cases hj; exact absurd hsk hk
          · exact (pairwise_at h hj hi h').2
  constructor
  · rintro ⟨h1, h2⟩
    obtain ⟨_, h3⟩ := vA_falls h1
    have h3' : l.Pairwise fun a b => top b.1 < top a.1 := h3.imp fun h => lead_lt.1 h
    exact ⟨vA_ok h1, h3', (key h1 h3').1 h2⟩
  · intro h
    have h1 : (vA l (0, 65536)).2 = true := by
      have := (validR_good l).2 h
      unfold validR at this
      rw [Bool.and_eq_true, vPrev_vA0] at this
      exact this.1
    exact ⟨h1, (key h1 h.falls).2 h.clear⟩
theorem validR_eq (l : List Row) : validR l = validS l := by
  rw [Bool.eq_iff_iff, validR_good, validS_good]
end Go.Proofs.Ytgdeoaiakdkhcaa.Am
