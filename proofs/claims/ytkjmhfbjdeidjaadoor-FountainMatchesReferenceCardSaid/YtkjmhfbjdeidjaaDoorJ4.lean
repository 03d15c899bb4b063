import Derived.Test.YtkjmhfbjdeidjaaDoorJ3
set_option linter.unusedSimpArgs false
namespace Go.Proofs.YtkjmhfbjdeidjaaDoor.Am
set_option linter.unusedVariables false
open Go Go.RowKit Go.Proofs

/-! ### the two words on validity are one -/
theorem fine_formed (m : Int) (p : List Int) : fine m p = formedS m p := by
  unfold fine formedS
  congr 2
  rw [Bool.eq_iff_iff]; simp; omega
theorem lead_eq (m : Int) : lead m = ((2 ^ top m : Nat) : Int) := rfl
theorem lead_lt {a b : Int} : lead a < lead b ↔ top a < top b := by
  rw [lead_eq, lead_eq]
  constructor
  · intro h
    rcases Nat.lt_or_ge (top a) (top b) with h' | h'
    · exact h'
    · have := Nat.pow_le_pow_right (n := 2) (by omega) h'; omega
  · intro h
    have := Nat.pow_lt_pow_right (a := 2) (by omega) h; omega
theorem top_bit {m : Int} (h : 1 ≤ m) : m.toNat.testBit (top m) = true := by
  have hn : m.toNat ≠ 0 := by omega
  obtain ⟨h1, h2⟩ := log2_bounds hn
  unfold top
  rw [Nat.testBit_eq_decide_div_mod_eq]
  rw [Nat.pow_succ] at h2
  have h3 : m.toNat / 2 ^ m.toNat.log2 = 1 := by
    apply Nat.div_eq_of_lt_le <;> omega
  rw [h3]; rfl
theorem top_lt {m : Int} (h0 : 1 ≤ m) (h1 : m < 65536) : top m < 16 := (Nat.log2_lt (by omega)).2 (by omega)

theorem vPrev_vA : ∀ (l : List Row) (q : Row) (L : Int), vPrev (some q) l = (vA l (L, lead q.1)).2
  | [], _, _ => rfl
  | r :: l, q, L => by
    simp only [vPrev, vA, prevOk, fine_formed]
    cases hc : (formedS r.1 r.2 && decide (lead r.1 < lead q.1)) with
    | false => simp
    | true => simp; exact vPrev_vA l r _
theorem vPrev_vA0 (l : List Row) : vPrev none l = (vA l (0, 65536)).2 := by
  cases l with
  | nil => rfl
  | cons r l =>
    simp only [vPrev, vA, prevOk, fine_formed]
    cases hf : formedS r.1 r.2 with
    | false => simp
    | true =>
      simp only [formedS, Bool.and_eq_true, decide_eq_true_eq] at hf
      have := (lead_bd hf.1 hf.2.1).2
      simp [this]; exact vPrev_vA l r _

/-- the leads fall -/
theorem vA_falls : ∀ {l : List Row} {s : Int × Int}, (vA l s).2 = true → (∀ r ∈ l, lead r.1 < s.2) ∧ l.Pairwise fun a b => lead b.1 < lead a.1
  | [], _, _ => ⟨fun r h => (by cases h), .nil⟩
  | r :: l, s, h => by
    simp only [vA] at h
    split at h
    · rename_i hc
      simp only [Bool.and_eq_true, decide_eq_true_eq] at hc
      obtain ⟨h1, h2⟩ := vA_falls h
      refine ⟨fun r' hr => ?_, .cons (fun r' hr => h1 r' hr) h2⟩
      rcases List.mem_cons.1 hr with rfl | hr
      · exact hc.2
      · have := h1 r' hr; simp only at this; omega
    · cases h
theorem or64_bd {a b : Int} (h0 : 0 ≤ a) (h1 : a < 65536) (h2 : 0 ≤ b) (h3 : b < 65536) : 0 ≤ or64 a b ∧ or64 a b < 65536 := by
  rw [or64_eq h0 h1 h2 h3]
  have : a.toNat ||| b.toNat < 2 ^ 16 := Nat.or_lt_two_pow (by omega) (by omega)
  omega
/-- the leads, gathered -/
theorem vA_L : ∀ {l : List Row} {s : Int × Int}, (vA l s).2 = true → 0 ≤ s.1 ∧ s.1 < 65536 → (0 ≤ (vA l s).1.1 ∧ (vA l s).1.1 < 65536) ∧ ∀ k, (vA l s).1.1.toNat.testBit k = (s.1.toNat.testBit k || l.any fun r => top r.1 == k)
  | [], s, _, hs => ⟨hs, fun k => by simp [vA]⟩
  | r :: l, s, h, hs => by
    simp only [vA] at h ⊢
    split at h
    · rename_i hc
      rw [if_pos hc]
      simp only [Bool.and_eq_true, decide_eq_true_eq] at hc
      obtain ⟨m1, m2⟩ := fine_ok hc.1
      have hl := lead_bd m1 m2
      obtain ⟨h1, h2⟩ := vA_L h (or64_bd hs.1 hs.2 hl.1 hl.2)
      refine ⟨h1, fun k => ?_⟩
      rw [h2 k]
      simp only [or64_eq hs.1 hs.2 hl.1 hl.2, Int.toNat_natCast, Nat.testBit_or, lead_nat, Nat.testBit_two_pow, List.any_cons]
      rw [Bool.or_assoc]
      rfl
    · cases h

theorem vInner_iff (i : Nat) (x : Row) : ∀ (l : List Row) (k : Nat), vInner i x k l = true ↔ ∀ (j : Nat) (r : Row), l[j]? = some r → i = k + j ∨ and64 r.1 (lead x.1) = 0
  | [], k => by simp [vInner]
  | r :: l, k => by
    simp only [vInner, Bool.and_eq_true, Bool.or_eq_true, decide_eq_true_eq, beq_iff_eq, vInner_iff i x l (k + 1)]
    constructor
    · rintro ⟨h1, h2⟩ j r' hj
      cases j with
      | zero => simp at hj; subst hj; simpa using h1
      | succ j => have := h2 j r' (by simpa using hj); rcases this with h | h
                  · left; omega
                  · right; exact h
    · intro h
      refine ⟨by simpa using h 0 r rfl, fun j r' hj => ?_⟩
      rcases h (j + 1) r' (by simpa using hj) with h | h
      · left; omega
      · right; exact h
theorem vOuter_iff (all : List Row) : ∀ (l : List Row) (i : Nat), vOuter all i l = true ↔ ∀ (j : Nat) (x : Row), l[j]? = some x → ∀ (k : Nat) (r : Row), all[k]? = some r → i + j = k ∨ and64 r.1 (lead x.1) = 0
  | [], i => by simp [vOuter]
  | x :: l, i => by
    simp only [vOuter, Bool.and_eq_true, vInner_iff, vOuter_iff all l (i + 1)]
    constructor
    · rintro ⟨h1, h2⟩ j y hj k r hk
      cases j with
      | zero => simp at hj; subst hj; simpa using h1 k r hk
      | succ j => rcases h2 j y (by simpa using hj) k r hk with h | h
                  · left; omega
                  · right; exact h
    · intro h
      refine ⟨fun k r hk => by simpa using h 0 x rfl k r hk, fun j y hj k r hk => ?_⟩
      rcases h (j + 1) y (by simpa using hj) k r hk with h | h
      · left; omega
      · right; exact h

/-- what a valid list is -/
structure Good (l : List Row) : Prop where
  ok : ∀ r ∈ l, fine r.1 r.2 = true
  falls : l.Pairwise fun a b => top b.1 < top a.1
  clear : l.Pairwise fun a b => a.1.toNat.testBit (top b.1) = false ∧ b.1.toNat.testBit (top a.1) = false

theorem pairwise_at {α : Type} {R : α → α → Prop} {l : List α} (h : l.Pairwise R) {i k : Nat} {a b : α} (ha : l[i]? = some a) (hb : l[k]? = some b) (hik : i < k) : R a b := by
  obtain ⟨h1, rfl⟩ := List.getElem?_eq_some_iff.1 ha
  obtain ⟨h2, rfl⟩ := List.getElem?_eq_some_iff.1 hb
  exact List.pairwise_iff_getElem.1 h i k h1 h2 hik
theorem pairwise_of {α : Type} {R : α → α → Prop} {l : List α} (h : ∀ (i k : Nat) (a b : α), l[i]? = some a → l[k]? = some b → i < k → R a b) : l.Pairwise R :=
  List.pairwise_iff_getElem.2 fun i k h1 h2 hik => h i k _ _ (List.getElem?_eq_getElem h1) (List.getElem?_eq_getElem h2) hik

theorem and_zero {x m : Int} (hx : okMask (x, [])) (hm : okMask (m, [])) : and64 x (lead m) = 0 ↔ x.toNat.testBit (top m) = false := by
  have := and_lead (x := x) (m := m) ⟨by have := hx.1; simp at this; omega, hx.2⟩ hm.1 hm.2
  cases hb : x.toNat.testBit (top m) <;> rw [hb] at this <;> simpa [bne] using this

theorem validR_good (l : List Row) : validR l = true ↔ Good l := by
  unfold validR
  rw [Bool.and_eq_true, vPrev_vA0, vOuter_iff]
  constructor
  · rintro ⟨h1, h2⟩
    have hf := vA_ok h1
    have hm : ∀ r ∈ l, okMask r := fun r hr => fine_ok (hf r hr)
    obtain ⟨_, h3⟩ := vA_falls h1
    refine ⟨hf, h3.imp fun h => lead_lt.1 h, pairwise_of fun i k a b ha hb hik => ?_⟩
    have ma := hm a (List.mem_of_getElem? ha)
    have mb := hm b (List.mem_of_getElem? hb)
    constructor
    · rcases h2 k b hb i a ha with h | h
      · omega
      · exact (and_zero ma mb).1 h
    · rcases h2 i a ha k b hb with h | h
      · omega
      · exact (and_zero mb ma).1 h
  · rintro ⟨hf, h3, h4⟩
    have hm : ∀ r ∈ l, okMask r := fun r hr => fine_ok (hf r hr)
    refine ⟨?_, fun i x hx k r hk => ?_⟩
    · have key : ∀ (l : List Row) (s : Int × Int), (∀ r ∈ l, fine r.1 r.2 = true) → (l.Pairwise fun a b => top b.1 < top a.1) → (∀ r ∈ l, lead r.1 < s.2) → (vA l s).2 = true := by
        intro l
        induction l with
        | nil => intro s _ _ _; rfl
        | cons r l ih =>
          intro s hf h3 hs
          simp only [vA]
          rw [if_pos (by rw [hf r (List.mem_cons_self ..), decide_eq_true (hs r (List.mem_cons_self ..))]; rfl)]
          have h3' := List.pairwise_cons.1 h3
          exact ih _ (fun r' hr => hf r' (List.mem_cons_of_mem _ hr)) h3'.2 fun r' hr => lead_lt.2 (h3'.1 r' hr)
      exact key l _ hf h3 fun r hr => (lead_bd (hm r hr).1 (hm r hr).2).2
    · have mx := hm x (List.mem_of_getElem? hx)
      have mr := hm r (List.mem_of_getElem? hk)
      rcases Nat.lt_trichotomy i k with h | h | h
      · exact .inr ((and_zero mr mx).2 (pairwise_at h4 hx hk h).2)
      · left; omega
      · exact .inr ((and_zero mr mx).2 (pairwise_at h4 hk hx h).1)

theorem validS_good (l : List Row) : validS l = true ↔ Good l := by
  unfold validS
  rw [Bool.and_eq_true]
  have hall : ∀ L : Int, vB L l = true ↔ ∀ r ∈ l, and64 r.1 L = lead r.1 := by
    intro L; unfold vB; rw [List.all_eq_true]; simp
  have key : (vA l (0, 65536)).2 = true → (l.Pairwise fun a b => top b.1 < top a.1) → (vB (vA l (0, 65536)).1.1 l = true ↔ l.Pairwise fun a b => a.1.toNat.testBit (top b.1) = false ∧ b.1.toNat.testBit (top a.1) = false) := by
    intro h1 h3
    have hm : ∀ r ∈ l, okMask r := fun r hr => fine_ok (vA_ok h1 r hr)
    obtain ⟨hL, hb⟩ := vA_L h1 (by decide)
    rw [hall]
    generalize (vA l (0, 65536)).1.1 = L at hL hb
    have hand : ∀ r ∈ l, (and64 r.1 L = lead r.1 ↔ ∀ k, (r.1.toNat.testBit k && l.any fun s => top s.1 == k) = decide (top r.1 = k)) := by
      intro r hr
      rw [and64_eq (by have := (hm r hr).1; omega) (hm r hr).2 hL.1 hL.2, lead_eq]
      constructor
      · intro h k
        have h' : r.1.toNat &&& L.toNat = 2 ^ top r.1 := by omega
        have := congrArg (fun n => n.testBit k) h'
        simp only [Nat.testBit_and, hb k, Nat.testBit_two_pow] at this
        simpa using this
      · intro h
        congr 1
        apply Nat.eq_of_testBit_eq
        intro k
        simp only [Nat.testBit_and, hb k, Nat.testBit_two_pow]
        simpa using h k
    constructor
    · intro h
      refine pairwise_of fun i k a b ha hb' hik => ?_
      have hab := pairwise_at h3 ha hb' hik
      have ma := List.mem_of_getElem? ha
      have mb := List.mem_of_getElem? hb'
      have e1 := (hand a ma).1 (h a ma) (top b.1)
      have e2 := (hand b mb).1 (h b mb) (top a.1)
      have f1 : (l.any fun s => top s.1 == top b.1) = true := List.any_eq_true.2 ⟨b, mb, by simp⟩
      have f2 : (l.any fun s => top s.1 == top a.1) = true := List.any_eq_true.2 ⟨a, ma, by simp⟩
      rw [f1, Bool.and_true] at e1
      rw [f2, Bool.and_true] at e2
      exact ⟨by rw [e1]; simp; omega, by rw [e2]; simp; omega⟩
    · intro h r hr
      rw [hand r hr]
      intro k
      by_cases hk : top r.1 = k
      · subst hk
        rw [top_bit (hm r hr).1, decide_eq_true rfl, Bool.true_and]
        exact List.any_eq_true.2 ⟨r, hr, by simp⟩
      · rw [decide_eq_false hk]
        cases hx : (l.any fun s => top s.1 == k) with
        | false => simp
        | true =>
          obtain ⟨s, hs, hsk⟩ := List.any_eq_true.1 hx
          have hsk : top s.1 = k := by simpa using hsk
          obtain ⟨i, hi⟩ := List.mem_iff_getElem?.1 hr
          obtain ⟨j, hj⟩ := List.mem_iff_getElem?.1 hs
          rw [Bool.and_true, ← hsk]
          rcases Nat.lt_trichotomy i j with h' | h' | h'
          · exact (pairwise_at h hi hj h').1
          · subst h'; rw [hi] at hj; cases hj; exact absurd hsk hk
          · exact (pairwise_at h hj hi h').2
  constructor
  · rintro ⟨h1, h2⟩
    obtain ⟨_, h3⟩ := vA_falls h1
    have h3' : l.Pairwise fun a b => top b.1 < top a.1 := h3.imp fun h => lead_lt.1 h
    exact ⟨vA_ok h1, h3', (key h1 h3').1 h2⟩
  · intro h
    have h1 : (vA l (0, 65536)).2 = true := by
      have := (validR_good l).2 h
      unfold validR at this
      rw [Bool.and_eq_true, vPrev_vA0] at this
      exact this.1
    exact ⟨h1, (key h1 h.falls).2 h.clear⟩
theorem validR_eq (l : List Row) : validR l = validS l := by
  rw [Bool.eq_iff_iff, validR_good, validS_good]
end Go.Proofs.YtkjmhfbjdeidjaaDoor.Am

namespace Go.Proofs.YtkjmhfbjdeidjaaDoor.Am
set_option linter.unusedVariables false
open Go Go.RowKit Go.Proofs

/-! ### single blocks -/
theorem Good.mask {l : List Row} (h : Good l) : ∀ r ∈ l, okMask r := fun r hr => fine_ok (h.ok r hr)
theorem Good.tail {r : Row} {l : List Row} (h : Good (r :: l)) : Good l :=
  ⟨fun s hs => h.ok s (List.mem_cons_of_mem _ hs), (List.pairwise_cons.1 h.falls).2, (List.pairwise_cons.1 h.clear).2⟩
theorem Good.uniq : ∀ {l : List Row}, Good l → ∀ {r s : Row}, r ∈ l → s ∈ l → top r.1 = top s.1 → r = s
  | x :: l, h, r, s, hr, hs, e => by
    have hf := (List.pairwise_cons.1 h.falls).1
    rcases List.mem_cons.1 hr with h1 | h1 <;> rcases List.mem_cons.1 hs with h2 | h2
    · rw [h1, h2]
    · have := hf s h2; rw [h1] at e; omega
    · have := hf r h1; rw [h2] at e; omega
    · exact Good.uniq h.tail h1 h2 e

theorem fold_skip {ι : Type} : ∀ (l : List (ι × (ι → Bool))) (v : ι → Bool), (∀ r ∈ l, v r.1 = false) → l.foldl redV v = v
  | [], v, _ => rfl
  | r :: l, v, h => by
    rw [List.foldl_cons]
    have : redV v r = v := by unfold redV; rw [h r (List.mem_cons_self ..)]; rfl
    rw [this]
    exact fold_skip l v fun s hs => h s (List.mem_cons_of_mem _ hs)
theorem fold_one : ∀ {l : List Row}, Good l → ∀ {r : Row} (v : Ix → Bool), r ∈ l → v (.inl (top r.1)) = true → (∀ s ∈ l, top s.1 ≠ top r.1 → v (.inl (top s.1)) = false) →
    (l.map rowV).foldl redV v = vx v (rowV r).2
  | x :: l, h, r, v, hr, hv, hz => by
    rw [List.map_cons, List.foldl_cons]
    have hf := (List.pairwise_cons.1 h.falls).1
    have hc := (List.pairwise_cons.1 h.clear).1
    rcases List.mem_cons.1 hr with rfl | hr
    · have : redV v (rowV r) = vx v (rowV r).2 := by
        unfold redV
        have : v (rowV r).1 = true := hv
        rw [this]; rfl
      rw [this]
      refine fold_skip _ _ fun t ht => ?_
      obtain ⟨s, hs, rfl⟩ := List.mem_map.1 ht
      show (v (.inl (top s.1)) ^^ (vec (r.1, pad r.2)) (.inl (top s.1))) = false
      have h1 := hf s hs
      rw [hz s (List.mem_cons_of_mem _ hs) (by omega)]
      have h2 := (hc s hs).1
      simpa [vec] using h2
    · have h1 := hf r hr
      have : redV v (rowV x) = v := by
        unfold redV
        have : v (rowV x).1 = false := hz x (List.mem_cons_self ..) (by omega)
        rw [this]; rfl
      rw [this]
      exact fold_one h.tail v hr hv fun s hs => hz s (List.mem_cons_of_mem _ hs)

def two (i : Nat) : Int := ((2 ^ i : Nat) : Int)
theorem two_bd {i : Nat} (h : i < 16) : 1 ≤ two i ∧ two i < 65536 := by
  have h1 := Nat.two_pow_pos i
  have h2 := Nat.pow_lt_pow_right (a := 2) (by omega) h
  unfold two; omega
theorem two_testBit (i k : Nat) : (two i).toNat.testBit k = decide (i = k) := by
  show (2 ^ i).testBit k = _
  rw [Nat.testBit_two_pow]
theorem top_two (i : Nat) : top (two i) = i := by
  show (2 ^ i).log2 = i
  exact Nat.log2_two_pow
theorem bit_two {i : Nat} (h : i < 16) : bit (i : Int) = two i := by
  have := two_bd h
  unfold bit
  have e : min (Int.toNat (i : Int)) 64 = i := by rw [Int.toNat_natCast]; omega
  rw [e, Int.one_mul]
  have e2 : (2 : Int) ^ i = two i := by simp [two]
  rw [e2, wrap_i64 (by omega) (by omega)]

theorem canon_pad {p : List Int} (h : ∀ x ∈ p, 0 ≤ x ∧ x < 256) : canon (pad p) := by
  intro i hi
  unfold nth
  rw [List.getD_eq_getElem?_getD]
  cases he : (pad p)[i]? with
  | none => simp
  | some x =>
    have := List.mem_of_getElem? he
    unfold pad at this
    have := List.mem_of_mem_take this
    rcases List.mem_append.1 this with h' | h'
    · exact h x h'
    · simp at h'; subst h'; simp

theorem find_uniq {l : List Row} (h : Good l) {r : Row} (hr : r ∈ l) {i : Nat} (hi : i < 16) (he : r.1 = two i) : findS l (i : Int) = some r := by
  unfold findS
  rw [bit_two hi]
  cases hf : l.find? fun r => r.1 == two i with
  | none =>
    have := List.find?_eq_none.1 hf r hr
    simp [he] at this
  | some s =>
    have h1 := List.find?_some hf
    have h2 := List.mem_of_find?_eq_some hf
    have h1 : s.1 = two i := by simpa using h1
    rw [h.uniq h2 hr (by rw [h1, he])]
theorem find_none {l : List Row} {i : Nat} (hi : i < 16) (h : ∀ r ∈ l, r.1 ≠ two i) : findS l (i : Int) = none := by
  unfold findS
  rw [bit_two hi]
  exact List.find?_eq_none.2 fun r hr => by simpa using h r hr

theorem solved_sum {l : List Row} (hg : Good l) (hb : ∀ r ∈ l, ∀ x ∈ r.2, 0 ≤ x ∧ x < 256) {i : Nat} (hi : i < 16) : solvedS l (i : Int) = sumS l (two i) := by
  have hv := (validS_good l).2 hg
  obtain ⟨t1, t2⟩ := two_bd hi
  rw [sumS_def (by omega) t2 hv]
  have e0 : solvedS l (i : Int) = if (findS l (i : Int)).isSome then (foundS l (i : Int), true) else ([], false) := by
    unfold solvedS
    rw [decide_eq_false (by omega), decide_eq_false (by omega), hv]; rfl
  rw [e0]
  have hx : 0 ≤ (two i, ([] : List Int)).1 ∧ (two i, ([] : List Int)).1 < 65536 := ⟨by simp only; omega, t2⟩
  have hF := vec_foldl hx hg.mask
  have hbd := foldl_red_bd hx hg.mask
  have hcan : canon (l.foldl red (two i, [])).2 := canon_foldl canon_nil
  by_cases hr : ∃ r ∈ l, top r.1 = i
  · obtain ⟨r, hr, hti⟩ := hr
    have hm := hg.mask r hr
    have e1 : (l.map rowV).foldl redV (vec (two i, [])) = vx (vec (two i, [])) (vec (r.1, pad r.2)) := by
      refine fold_one hg _ hr ?_ fun s _ hs => ?_
      · show (two i).toNat.testBit _ = true
        rw [two_testBit, hti]; simp
      · show (two i).toNat.testBit _ = false
        rw [two_testBit]; simp; omega
    rw [e1, ← vec_xor (by omega) t2 (by have := hm.1; omega) hm.2] at hF
    have b4 := xor64_bd (a := two i) (b := r.1) (by omega) t2 (by have := hm.1; omega) hm.2
    have h1 := vec_inl hbd.1 b4.1 hF
    have hz := xor64_zero (a := two i) (b := r.1) ⟨by omega, t2⟩ ⟨by have := hm.1; omega, hm.2⟩
    have h1' : (l.foldl red (two i, [])).1 = xor64 (two i) r.1 := h1
    by_cases he : r.1 = two i
    · have h2 : (l.foldl red (two i, [])).1 = 0 := by rw [h1']; exact hz.2 he.symm
      rw [find_uniq hg hr hi he, if_pos (by rfl), if_neg (by simp [h2])]
      have e2 : foundS l (i : Int) = b16 (pad r.2) := by unfold foundS; rw [find_uniq hg hr hi he]
      rw [e2]
      congr 1
      refine list16 (b16_len _) (b16_len _) fun j hj => ?_
      rw [nth_b16 hj, nth_b16 hj]
      refine ofInt8_inj (canon_pad (hb r hr) j hj) (hcan j hj) ?_
      have := vec_inr hF hj
      rw [this]
      show _ = BitVec.ofInt 8 (nth (xorL [] (pad r.2)) j)
      rw [nth_xorL hj, ofInt_xor8]; simp [nth]
    · have h2 : ¬ (l.foldl red (two i, [])).1 = 0 := by rw [h1']; exact fun h => he (hz.1 h).symm
      rw [find_none hi fun s hs h => he (by rw [hg.uniq hr hs (by rw [hti, h, top_two])]; exact h), if_neg (by simp), if_pos (by simpa using h2)]
  · have e1 : (l.map rowV).foldl redV (vec (two i, [])) = vec (two i, []) := by
      refine fold_skip _ _ fun t ht => ?_
      obtain ⟨s, hs, rfl⟩ := List.mem_map.1 ht
      show (two i).toNat.testBit _ = false
      rw [two_testBit]
      have : top s.1 ≠ i := fun h => hr ⟨s, hs, h⟩
      simp; omega
    rw [e1] at hF
    have h1 : (l.foldl red (two i, [])).1 = two i := vec_inl hbd.1 (by simp only; omega) hF
    rw [find_none hi fun s hs h => hr ⟨s, hs, by rw [h, top_two]⟩, if_neg (by simp), if_pos (by rw [h1]; simp; omega)]

/-! ### sixteen rows -/
theorem falls_len : ∀ {l : List Row} {n : Nat}, (l.Pairwise fun a b => top b.1 < top a.1) → (∀ r ∈ l, top r.1 < n) → l.length ≤ n ∧ (l.length = n → ∀ i, i < n → ∃ r ∈ l, top r.1 = i)
  | [], n, _, _ => ⟨by simp, fun h i hi => by simp at h; omega⟩
  | r :: l, n, hp, hn => by
    obtain ⟨h1, h2⟩ := List.pairwise_cons.1 hp
    obtain ⟨h3, h4⟩ := falls_len (l := l) (n := top r.1) h2 fun s hs => h1 s hs
    have h5 := hn r (List.mem_cons_self ..)
    refine ⟨by simp; omega, fun h i hi => ?_⟩
    simp at h
    by_cases hi' : i = top r.1
    · exact ⟨r, List.mem_cons_self .., hi'.symm⟩
    · obtain ⟨s, hs, e⟩ := h4 (by omega) i (by omega)
      exact ⟨s, List.mem_cons_of_mem _ hs, e⟩
theorem Good.len {l : List Row} (h : Good l) : l.length ≤ 16 := (falls_len h.falls fun r hr => top_lt (h.mask r hr).1 (h.mask r hr).2).1
theorem Good.full {l : List Row} (h : Good l) (hl : l.length = 16) {i : Nat} (hi : i < 16) : ∃ r ∈ l, r.1 = two i := by
  have hall := (falls_len h.falls fun r hr => top_lt (h.mask r hr).1 (h.mask r hr).2).2 hl
  obtain ⟨r, hr, e⟩ := hall i hi
  refine ⟨r, hr, ?_⟩
  have hm := h.mask r hr
  have : r.1.toNat = (two i).toNat := by
    apply Nat.eq_of_testBit_eq
    intro k
    rw [two_testBit]
    by_cases hk : i = k
    · subst hk; rw [← e, top_bit hm.1]; simp
    · rw [decide_eq_false hk]
      by_cases h16 : k < 16
      · obtain ⟨s, hs, e2⟩ := hall k h16
        obtain ⟨a, ha⟩ := List.mem_iff_getElem?.1 hr
        obtain ⟨b, hb⟩ := List.mem_iff_getElem?.1 hs
        rw [← e2]
        rcases Nat.lt_trichotomy a b with h' | h' | h'
        · exact (pairwise_at h.clear ha hb h').1
        · subst h'; rw [ha] at hb; cases hb; omega
        · exact (pairwise_at h.clear hb ha h').2
      · apply Nat.testBit_lt_two_pow
        have : 2 ^ 16 ≤ 2 ^ k := Nat.pow_le_pow_right (by omega) (by omega)
        have := hm.2
        omega
  have := (two_bd hi).1
  have := hm.1
  omega
end Go.Proofs.YtkjmhfbjdeidjaaDoor.Am

namespace Go.Proofs.YtkjmhfbjdeidjaaDoor.Am
set_option linter.unusedVariables false
open Go Go.RowKit Go.Proofs

/-! ### a row is put in -/
theorem vx_self {ι : Type} (u : ι → Bool) : vx u u = fun _ => false := by funext i; simp [vx]
theorem vx_assoc {ι : Type} (u v w : ι → Bool) : vx (vx u v) w = vx u (vx v w) := by funext i; simp [vx]
theorem vx_zero {ι : Type} (u : ι → Bool) : vx u (fun _ => false) = u := by funext i; simp [vx]
theorem zero_vx {ι : Type} (u : ι → Bool) : vx (fun _ => false) u = u := by funext i; simp [vx]

/-- a fold that kills the rows of another one does not see it -/
theorem fold_kill {ι : Type} (g : List (ι × (ι → Bool))) : ∀ (l : List (ι × (ι → Bool))) (v : ι → Bool), (∀ r ∈ l, g.foldl redV r.2 = fun _ => false) → g.foldl redV (l.foldl redV v) = g.foldl redV v
  | [], v, _ => rfl
  | r :: l, v, h => by
    rw [List.foldl_cons, fold_kill g l _ fun s hs => h s (List.mem_cons_of_mem _ hs)]
    have e : redV v r = if v r.1 then vx v r.2 else v := rfl
    rw [e]
    split
    · rw [foldV_vx, h r (List.mem_cons_self ..), vx_zero]
    · rfl

/-- a fold clears the places of its rows -/
theorem fold_clear : ∀ {l : List Row}, Good l → ∀ (v : Ix → Bool), ∀ r ∈ l, ((l.map rowV).foldl redV v) (.inl (top r.1)) = false
  | x :: l, h, v, r, hr => by
    rw [List.map_cons, List.foldl_cons]
    have hc := (List.pairwise_cons.1 h.clear).1
    rcases List.mem_cons.1 hr with rfl | hr
    · -- its own place stays clear
      have h0 : (redV v (rowV r)) (.inl (top r.1)) = false := by
        unfold redV
        show (if v (.inl (top r.1)) = true then vx v (vec (r.1, pad r.2)) else v) (.inl (top r.1)) = false
        cases hv : v (.inl (top r.1)) with
        | false => simpa using hv
        | true =>
          show (v (.inl (top r.1)) ^^ vec (r.1, pad r.2) (.inl (top r.1))) = false
          have : vec (r.1, pad r.2) (.inl (top r.1)) = true := top_bit (h.mask r (List.mem_cons_self ..)).1
          rw [hv, this]; rfl
      have keep : ∀ (t : List Row), (∀ s ∈ t, s.1.toNat.testBit (top r.1) = false) → ∀ v : Ix → Bool, v (.inl (top r.1)) = false → ((t.map rowV).foldl redV v) (.inl (top r.1)) = false := by
        intro t
        induction t with
        | nil => intro _ v hv; exact hv
        | cons s t ih =>
          intro ht v hv
          rw [List.map_cons, List.foldl_cons]
          refine ih (fun s' hs => ht s' (List.mem_cons_of_mem _ hs)) _ ?_
          unfold redV
          split
          · show (v (.inl (top r.1)) ^^ vec (s.1, pad s.2) (.inl (top r.1))) = false
            have : vec (s.1, pad s.2) (.inl (top r.1)) = false := ht s (List.mem_cons_self ..)
            rw [hv, this]; rfl
          · exact hv
      exact keep l (fun s hs => (hc s hs).2) _ h0
    · exact fold_clear h.tail _ r hr
theorem fold_self {l : List Row} (h : Good l) {r : Row} (hr : r ∈ l) : (l.map rowV).foldl redV (rowV r).2 = fun _ => false := by
  rw [fold_one h (rowV r).2 hr (top_bit (h.mask r hr).1) fun s hs hne => ?_, vx_self]
  show r.1.toNat.testBit (top s.1) = false
  obtain ⟨a, ha⟩ := List.mem_iff_getElem?.1 hr
  obtain ⟨b, hb⟩ := List.mem_iff_getElem?.1 hs
  rcases Nat.lt_trichotomy a b with h' | h' | h'
  · exact (pairwise_at h.clear ha hb h').1
  · subst h'; rw [ha] at hb; cases hb; exact absurd rfl hne
  · exact (pairwise_at h.clear hb ha h').2
end Go.Proofs.YtkjmhfbjdeidjaaDoor.Am

namespace Go.Proofs.YtkjmhfbjdeidjaaDoor.Am
set_option linter.unusedVariables false
open Go Go.RowKit Go.Proofs

/-! ### the insertion -/
def upd (x r : Row) : Row := if and64 r.1 (lead x.1) != 0 then (xor64 r.1 x.1, b16 (xorL (pad r.2) x.2)) else (r.1, b16 (pad r.2))
def fin (x : Row) : Row := (x.1, b16 x.2)
def insS (x : Row) : List Row → List Row
  | [] => [fin x]
  | r :: t => if lead r.1 < lead x.1 then fin x :: (r :: t).map (upd x) else upd x r :: insS x t
theorem stepB_t (x : Row) : ∀ (l acc : List Row), l.foldl (stepB x) (acc, true) = (acc ++ l.map (upd x), true)
  | [], acc => by simp
  | r :: l, acc => by
    rw [List.foldl_cons]
    have : stepB x (acc, true) r = (acc ++ [upd x r], true) := by simp [stepB, upd]
    rw [this, stepB_t x l]; simp
theorem stepB_f (x : Row) : ∀ (l acc : List Row), (let s := l.foldl (stepB x) (acc, false); if !s.2 then s.1 ++ [fin x] else s.1) = acc ++ insS x l
  | [], acc => by simp [insS]
  | r :: l, acc => by
    rw [List.foldl_cons]
    by_cases h : lead r.1 < lead x.1
    · have : stepB x (acc, false) r = (acc ++ [fin x] ++ [upd x r], true) := by simp [stepB, upd, fin, h]
      rw [this, stepB_t x l]; simp [insS, h]
    · have : stepB x (acc, false) r = (acc ++ [upd x r], false) := by simp [stepB, upd, h]
      rw [this]
      have := stepB_f x l (acc ++ [upd x r])
      rw [this]; simp [insS, h]
theorem ins_mem {x r : Row} : ∀ {l : List Row}, r ∈ insS x l ↔ r = fin x ∨ ∃ s ∈ l, r = upd x s
  | [] => by simp [insS]
  | s :: t => by
    unfold insS
    split
    · simp [eq_comm]
    · rw [List.mem_cons, ins_mem (l := t)]
      simp only [List.mem_cons, exists_eq_or_imp]
      constructor
      · rintro (h | h | h)
        · exact .inr (.inl h)
        · exact .inl h
        · exact .inr (.inr h)
      · rintro (h | h | h)
        · exact .inr (.inl h)
        · exact .inl h
        · exact .inr (.inr h)
theorem ins_len (x : Row) : ∀ l : List Row, (insS x l).length = l.length + 1
  | [] => rfl
  | r :: t => by unfold insS; split <;> simp [ins_len x t]

theorem top_of {m : Int} {k : Nat} (h1 : m.toNat.testBit k = true) (h2 : ∀ j, k < j → m.toNat.testBit j = false) : top m = k := by
  refine log2_eq (Nat.ge_two_pow_of_testBit h1) (Nat.lt_pow_two_of_testBit _ fun j hj => h2 j (by omega))
theorem high_bit {m : Int} (h0 : 1 ≤ m) {j : Nat} (h : top m < j) : m.toNat.testBit j = false := by
  have h2 := (log2_bounds (n := m.toNat) (by omega)).2
  exact Nat.testBit_lt_two_pow (Nat.lt_of_lt_of_le h2 (Nat.pow_le_pow_right (by omega) h))

theorem upd_bit {x r : Row} (hx : okMask x) (hr : okMask r) (k : Nat) : (upd x r).1.toNat.testBit k = (r.1.toNat.testBit k ^^ (r.1.toNat.testBit (top x.1) && x.1.toNat.testBit k)) := by
  unfold upd
  rw [and_lead ⟨by have := hr.1; omega, hr.2⟩ hx.1 hx.2]
  cases hb : r.1.toNat.testBit (top x.1) with
  | false => simp
  | true =>
    simp only [if_true]
    rw [xor64_eq (by have := hr.1; omega) hr.2 (by have := hx.1; omega) hx.2, Int.toNat_natCast, Nat.testBit_xor]; simp
theorem upd_top {x r : Row} (hx : okMask x) (hr : okMask r) (hc : x.1.toNat.testBit (top r.1) = false) : top (upd x r).1 = top r.1 := by
  have hne : top x.1 ≠ top r.1 := fun h => by rw [← h, top_bit hx.1] at hc; cases hc
  refine top_of ?_ fun j hj => ?_
  · rw [upd_bit hx hr, top_bit hr.1, hc]; simp
  · rw [upd_bit hx hr, high_bit hr.1 hj]
    cases hb : r.1.toNat.testBit (top x.1) with
    | false => simp
    | true =>
      have : top x.1 ≤ top r.1 := by
        rcases Nat.lt_or_ge (top r.1) (top x.1) with h | h
        · rw [high_bit hr.1 h] at hb; cases hb
        · exact h
      rw [high_bit hx.1 (by omega)]; simp
theorem upd_bd {x r : Row} (hx : okMask x) (hr : okMask r) (hc : x.1.toNat.testBit (top r.1) = false) : okMask (upd x r) := by
  have hb : 0 ≤ (upd x r).1 ∧ (upd x r).1 < 65536 := by
    unfold upd; split
    · exact xor64_bd (by have := hr.1; omega) hr.2 (by have := hx.1; omega) hx.2
    · exact ⟨by have := hr.1; simp only; omega, hr.2⟩
  have : (upd x r).1.toNat ≠ 0 := by
    intro h
    have h1 := upd_bit hx hr (top r.1)
    rw [h, top_bit hr.1, hc] at h1
    simp at h1
  exact ⟨by omega, hb.2⟩
theorem upd_len (x r : Row) : (upd x r).2.length = 16 := by
  unfold upd; split <;> exact b16_len _
theorem pad16 {p : List Int} (h : p.length = 16) : pad p = p := by
  unfold pad
  rw [List.take_append_of_le_length (by omega), List.take_of_length_le (by omega)]
theorem vec_b16 (m : Int) (p : List Int) : vec (m, b16 p) = vec (m, p) := by
  funext i
  cases i with
  | inl k => rfl
  | inr ij =>
    obtain ⟨i, j⟩ := ij
    simp only [vec]
    by_cases h : i < 16
    · rw [nth_b16 h]
    · simp [h]
theorem upd_vec {x r : Row} (hx : okMask x) (hr : okMask r) : (rowV (upd x r)).2 = if r.1.toNat.testBit (top x.1) then vx (rowV r).2 (vec x) else (rowV r).2 := by
  unfold rowV
  rw [pad16 (upd_len x r)]
  unfold upd
  rw [and_lead ⟨by have := hr.1; omega, hr.2⟩ hx.1 hx.2]
  split
  · simp only
    rw [vec_b16, vec_xor (by have := hr.1; omega) hr.2 (by have := hx.1; omega) hx.2]
  · simp only
    rw [vec_b16]
end Go.Proofs.YtkjmhfbjdeidjaaDoor.Am

namespace Go.Proofs.YtkjmhfbjdeidjaaDoor.Am
set_option linter.unusedVariables false
open Go Go.RowKit Go.Proofs

theorem fine_of {r : Row} (h : okMask r) (hl : r.2.length = 16) : fine r.1 r.2 = true := by
  unfold fine
  rw [decide_eq_true h.1, decide_eq_true h.2, hl]; rfl
def Apart (a b : Row) : Prop := a.1.toNat.testBit (top b.1) = false ∧ b.1.toNat.testBit (top a.1) = false

section
variable {x : Row} {l : List Row}
theorem upd_apart {r s : Row} (hx : okMask x) (hr : okMask r) (hs : okMask s) (cr : x.1.toNat.testBit (top r.1) = false) (cs : x.1.toNat.testBit (top s.1) = false) (h : Apart r s) : Apart (upd x r) (upd x s) := by
  unfold Apart
  rw [upd_top hx hr cr, upd_top hx hs cs, upd_bit hx hr, upd_bit hx hs, h.1, h.2, cr, cs]; simp
theorem fin_apart {s : Row} (hx : okMask x) (hs : okMask s) (cs : x.1.toNat.testBit (top s.1) = false) : Apart (fin x) (upd x s) := by
  unfold Apart
  rw [upd_top hx hs cs, upd_bit hx hs]
  refine ⟨cs, ?_⟩
  show (_ ^^ (_ && x.1.toNat.testBit (top x.1))) = false
  rw [top_bit hx.1]
  show (s.1.toNat.testBit (top x.1) ^^ (s.1.toNat.testBit (top x.1) && true)) = false
  simp
theorem Apart.symm {a b : Row} (h : Apart a b) : Apart b a := ⟨h.2, h.1⟩

theorem upd_map (hx : okMask x) (hg : Good l) (hc : ∀ r ∈ l, x.1.toNat.testBit (top r.1) = false) : (l.map (upd x)).Pairwise fun a b => top b.1 < top a.1 ∧ Apart a b := by
  rw [List.pairwise_map]
  refine (List.Pairwise.and hg.falls hg.clear).imp_of_mem fun {a b} ha hb h => ?_
  rw [upd_top hx (hg.mask a ha) (hc a ha), upd_top hx (hg.mask b hb) (hc b hb)]
  exact ⟨h.1, upd_apart hx (hg.mask a ha) (hg.mask b hb) (hc a ha) (hc b hb) h.2⟩

theorem ins_pair (hx : okMask x) : ∀ {l : List Row}, Good l → (∀ r ∈ l, x.1.toNat.testBit (top r.1) = false) → (insS x l).Pairwise fun a b => top b.1 < top a.1 ∧ Apart a b
  | [], _, _ => by simp [insS]
  | r :: t, hg, hc => by
    have hr := hg.mask r (List.mem_cons_self ..)
    have cr := hc r (List.mem_cons_self ..)
    have hf := (List.pairwise_cons.1 hg.falls).1
    unfold insS
    split
    · rename_i h
      refine List.pairwise_cons.2 ⟨fun b hb => ?_, upd_map hx hg hc⟩
      obtain ⟨s, hs, rfl⟩ := List.mem_map.1 hb
      have hs' := hg.mask s hs
      rw [upd_top hx hs' (hc s hs)]
      refine ⟨?_, fin_apart hx hs' (hc s hs)⟩
      have h1 := lead_lt.1 h
      show top s.1 < top x.1
      rcases List.mem_cons.1 hs with rfl | hs
      · exact h1
      · have := hf s hs; omega
    · rename_i h
      refine List.pairwise_cons.2 ⟨fun b hb => ?_, ins_pair hx hg.tail fun s hs => hc s (List.mem_cons_of_mem _ hs)⟩
      rw [upd_top hx hr cr]
      rcases ins_mem.1 hb with rfl | ⟨s, hs, rfl⟩
      · refine ⟨?_, (fin_apart hx hr cr).symm⟩
        show top x.1 < top r.1
        have h1 : ¬ top r.1 < top x.1 := fun h' => h (lead_lt.2 h')
        have h2 : top x.1 ≠ top r.1 := fun h' => by rw [← h', top_bit hx.1] at cr; cases cr
        omega
      · have hs' := hg.mask s (List.mem_cons_of_mem _ hs)
        have cs := hc s (List.mem_cons_of_mem _ hs)
        rw [upd_top hx hs' cs]
        exact ⟨hf s hs, upd_apart hx hr hs' cr cs ((List.pairwise_cons.1 hg.clear).1 s hs)⟩

theorem ins_good (hx : okMask x) (hg : Good l) (hc : ∀ r ∈ l, x.1.toNat.testBit (top r.1) = false) : Good (insS x l) := by
  have hp := ins_pair hx hg hc
  refine ⟨fun r hr => ?_, hp.imp fun h => h.1, hp.imp fun h => h.2⟩
  rcases ins_mem.1 hr with rfl | ⟨s, hs, rfl⟩
  · exact fine_of hx (b16_len _)
  · exact fine_of (upd_bd hx (hg.mask s hs) (hc s hs)) (upd_len x s)

/-- the new rows kill the old ones -/
theorem ins_kill (hx : okMask x) (hg : Good l) (hc : ∀ r ∈ l, x.1.toNat.testBit (top r.1) = false) :
    (((insS x l).map rowV).foldl redV (vec x) = fun _ => false) ∧ ∀ r ∈ l, ((insS x l).map rowV).foldl redV (rowV r).2 = fun _ => false := by
  have hG := ins_good hx hg hc
  have h1 : ((insS x l).map rowV).foldl redV (vec x) = fun _ => false := by
    have := fold_self hG (r := fin x) (ins_mem.2 (.inl rfl))
    have e : (rowV (fin x)).2 = vec x := by
      show vec (x.1, pad (b16 x.2)) = _
      rw [pad16 (b16_len _), vec_b16]
    rwa [e] at this
  refine ⟨h1, fun r hr => ?_⟩
  have h2 := fold_self hG (r := upd x r) (ins_mem.2 (.inr ⟨r, hr, rfl⟩))
  rw [upd_vec hx (hg.mask r hr)] at h2
  split at h2
  · rw [foldV_vx, h1, vx_zero] at h2; exact h2
  · exact h2
end
end Go.Proofs.YtkjmhfbjdeidjaaDoor.Am

namespace Go.Proofs.YtkjmhfbjdeidjaaDoor.Am
set_option linter.unusedVariables false
open Go Go.RowKit Go.Proofs

theorem b16_id {p : List Int} (h : p.length = 16) : b16 p = p := list16 (b16_len _) h fun i hi => nth_b16 hi
theorem keep_id {l : List Row} (hg : Good l) : l.map keepR = l := by
  have : ∀ r ∈ l, keepR r = r := by
    intro r hr
    have := hg.ok r hr
    rw [fine_formed] at this
    simp only [formedS, Bool.and_eq_true, decide_eq_true_eq] at this
    unfold keepR
    rw [pad16 this.2.2, b16_id this.2.2]
  exact (List.map_congr_left this).trans (List.map_id _)

theorem vec_split (m : Int) (b : List Int) : vec (m, b) = vx (vec (m, [])) (vec (0, b)) := by
  funext i
  cases i with
  | inl k => simp [vec, vx]
  | inr ij => obtain ⟨i, j⟩ := ij; simp [vec, vx, nth]
theorem fold_bytes {l : List Row} (b : List Int) : (l.map rowV).foldl redV (vec (0, b)) = vec (0, b) := by
  refine fold_skip _ _ fun t ht => ?_
  obtain ⟨s, _, rfl⟩ := List.mem_map.1 ht
  show (0 : Int).toNat.testBit _ = false
  simp

/-- what Add comes to, beside Sum -/
theorem add_law {l : List Row} (hg : Good l) {m : Int} {b : List Int} (hm : 1 ≤ m ∧ m < 65536) (hl : b.length = 16) (hb : ∀ x ∈ b, 0 ≤ x ∧ x < 256) :
    ((sumS l m).2 = true ∧ (sumS l m).1 ≠ b ∧ addS l m b = ([], false, 12)) ∨
    ((sumS l m) = (b, true) ∧ addS l m b = (l, false, 0)) ∨
    ((sumS l m).2 = false ∧ ∃ x : Row, okMask x ∧ addS l m b = (insS x l, true, 0) ∧ Good (insS x l) ∧ sumS (insS x l) m = (b, true) ∧ vec x = (l.map rowV).foldl redV (vec (m, b)) ∧ (∀ r ∈ l, x.1.toNat.testBit (top r.1) = false) ∧ canon x.2) := by
  have hv := (validS_good l).2 hg
  have hp : pad b = b := pad16 hl
  have hcb : canon b := hp ▸ canon_pad hb
  have hfine : fine m b = true := fine_of (r := (m, b)) hm hl
  have hx0 : 0 ≤ (m, b).1 ∧ (m, b).1 < 65536 := ⟨by simp only; omega, hm.2⟩
  have hu0 : 0 ≤ (m, ([] : List Int)).1 ∧ (m, ([] : List Int)).1 < 65536 := ⟨by simp only; omega, hm.2⟩
  have ea : addS l m b = (if (l.foldl red (m, b)).1 == 0 && zero16 (l.foldl red (m, b)).2 then (l.map keepR, false, 0) else if (l.foldl red (m, b)).1 == 0 then ([], false, 12) else (insS (l.foldl red (m, b)) l, true, 0)) := by
    unfold addS
    rw [hv, hfine, hp]
    have := stepB_f (l.foldl red (m, b)) l []
    simp only [List.nil_append] at this
    simp only [Bool.not_true, Bool.or_self, Bool.false_eq_true, if_false]
    rw [← this]; rfl
  rw [ea, sumS_def (by omega) hm.2 hv]
  have vX := vec_foldl hx0 hg.mask
  have vU := vec_foldl hu0 hg.mask
  have vXU : vec (l.foldl red (m, b)) = vx (vec (l.foldl red (m, []))) (vec (0, b)) := by
    rw [vX, vU, vec_split m b, foldV_vx, fold_bytes]
  have bX := foldl_red_bd hx0 hg.mask
  have bU := foldl_red_bd hu0 hg.mask
  have cX : canon (l.foldl red (m, b)).2 := canon_foldl hcb
  have cU : canon (l.foldl red (m, [])).2 := canon_foldl canon_nil
  have hclear : ∀ r ∈ l, (l.foldl red (m, b)).1.toNat.testBit (top r.1) = false := by
    intro r hr
    have := fold_clear hg (vec (m, b)) r hr
    rw [← vX] at this; exact this
  generalize hX : l.foldl red (m, b) = x at *
  generalize hU : l.foldl red (m, []) = u at *
  have e1 : x.1 = u.1 := by
    have : x.1.toNat = u.1.toNat := by
      apply Nat.eq_of_testBit_eq
      intro k
      have := congrFun vXU (.inl k)
      simpa [vec, vx] using this
    omega
  have e2 : ∀ i, i < 16 → BitVec.ofInt 8 (nth x.2 i) = BitVec.ofInt 8 (nth u.2 i) ^^^ BitVec.ofInt 8 (nth b i) := by
    intro i hi
    apply BitVec.eq_of_getLsbD_eq
    intro j _
    have := congrFun vXU (.inr (i, j))
    simpa [vec, vx, hi] using this
  have hz : zero16 x.2 = true ↔ b16 u.2 = b := by
    unfold zero16
    rw [List.all_eq_true]
    constructor
    · intro h
      refine list16 (b16_len _) hl fun i hi => ?_
      rw [nth_b16 hi]
      have h1 : nth x.2 i = 0 := by simpa using h i (by simpa using hi)
      have h2 := e2 i hi
      rw [h1] at h2
      have h3 : BitVec.ofInt 8 (nth u.2 i) = BitVec.ofInt 8 (nth b i) := by
        have : BitVec.ofInt 8 (nth u.2 i) ^^^ BitVec.ofInt 8 (nth b i) = 0#8 := h2.symm
        exact BitVec.xor_eq_zero_iff.1 this
      exact ofInt8_inj (cU i hi) (hcb i hi) h3
    · intro h i hi
      have hi : i < 16 := by simpa using hi
      have h1 : nth u.2 i = nth b i := by rw [← nth_b16 hi, h]
      have h2 := e2 i hi
      rw [h1, BitVec.xor_self] at h2
      have := ofInt8_inj (cX i hi) ⟨by omega, by omega⟩ (h2.trans (by rfl : 0#8 = BitVec.ofInt 8 0))
      simpa using this
  by_cases h0 : u.1 = 0
  · have h0x : x.1 = 0 := by omega
    by_cases hs : b16 u.2 = b
    · right; left
      rw [if_neg (by simp [h0]), hs, if_pos (by simp [h0x, hz.2 hs]), keep_id hg]
      exact ⟨rfl, rfl⟩
    · left
      have hz' : zero16 x.2 = false := by
        cases h : zero16 x.2 with
        | false => rfl
        | true => exact absurd (hz.1 h) hs
      rw [if_neg (by simp [h0]), if_neg (by simp [hz']), if_pos (by simp [h0x])]
      exact ⟨rfl, hs, rfl⟩
  · right; right
    have h0x : ¬ x.1 = 0 := by omega
    have hx : okMask x := ⟨by omega, bX.2⟩
    rw [if_pos (by simpa using h0), if_neg (by simp [h0x]), if_neg (by simpa using h0x)]
    have hG := ins_good hx hg hclear
    refine ⟨rfl, x, hx, rfl, hG, ?_, vX, hclear, cX⟩
    obtain ⟨k1, k2⟩ := ins_kill hx hg hclear
    have k3 : ((insS x l).map rowV).foldl redV (vec (m, b)) = fun _ => false := by
      rw [← fold_kill _ (l.map rowV) (vec (m, b)) fun r hr => by
        obtain ⟨s, hs, rfl⟩ := List.mem_map.1 hr
        exact k2 s hs, ← vX]
      exact k1
    rw [vec_split, foldV_vx, fold_bytes] at k3
    have k4 : ((insS x l).map rowV).foldl redV (vec (m, [])) = vec (0, b) := by
      funext i
      have := congrFun k3 i
      simp only [vx] at this
      revert this
      cases (List.foldl redV (vec (m, [])) (List.map rowV (insS x l))) i <;> cases vec (0, b) i <;> simp
    have hv' := (validS_good _).2 hG
    rw [sumS_def (by omega) hm.2 hv']
    have vW := vec_foldl hu0 hG.mask
    have bW := foldl_red_bd hu0 hG.mask
    have cW : canon ((insS x l).foldl red (m, [])).2 := canon_foldl canon_nil
    rw [k4] at vW
    have w1 : ((insS x l).foldl red (m, [])).1 = 0 := vec_inl (y := (0, b)) bW.1 (by simp) vW
    rw [if_neg (by simp [w1])]
    congr 1
    rw [b16_ext (y := (0, b)) cW hcb vW, b16_id hl]
end Go.Proofs.YtkjmhfbjdeidjaaDoor.Am

namespace Go.Proofs.YtkjmhfbjdeidjaaDoor.Am
set_option linter.unusedVariables false
open Go Go.RowKit Go.Proofs

/-! ### SolveFollows -/
theorem ins_small {x : Row} {l : List Row} (h : Good (insS x l)) : (insS x l).length ≤ 16 := h.len
theorem fewS_len {l : List Row} (h : fewS l = true) : l.length ≤ 40 := by
  unfold fewS at h
  simp only [Bool.and_eq_true, decide_eq_true_eq] at h
  exact h.2

theorem sumS_len' (l : List Row) (m : Int) : (sumS l m).1.length ≤ 16 := by
  unfold sumS
  split
  · simp
  · dsimp only
    split
    · simp
    · rw [b16_len]; exact Nat.le_refl _
end Go.Proofs.YtkjmhfbjdeidjaaDoor.Am

namespace Go.Proofs.YtkjmhfbjdeidjaaDoor.Am
set_option linter.unusedVariables false
open Go Go.RowKit Go.Proofs Go.ChangeShapes Go.WideShapes Go.ChangeAt

/-! ### SolveValid -/
theorem add_bad {l : List Row} (hg : Good l) {m : Int} {b : List Int} (h : fine m b = false) : addS l m b = ([], false, 1) := by
  unfold addS
  rw [h]
  simp
end Go.Proofs.YtkjmhfbjdeidjaaDoor.Am

namespace Go.Proofs.YtkjmhfbjdeidjaaDoor.Am
set_option linter.unusedVariables false
open Go Go.RowKit Go.Proofs

/-! ### sum -/
def cells256 (p : List Int) : List AV := (List.range 256).map fun i => .d (u8 (nth p i))
def bk (cs : List AV) : Blk := ⟨cs, false, false, 0⟩
def bitT (m : Int) (i : Nat) : Bool := IntKind.wrap .i64 ((BitVec.ofInt 64 (Int.fdiv m ((2 ^ i : Nat) : Int)) &&& BitVec.ofInt 64 1).toNat : Nat) == 1
def rowN (B : List Int) (i : Nat) : List Int := (List.range 16).map fun k => nth B (16 * i + k)
def stepM (B : List Int) (m : Int) (o : List Int) (i : Nat) : List Int := if bitT m i then xorL o (rowN B i) else o
def sumB (B : List Int) (m : Int) : List Int := (List.range 16).foldl (stepM B m) (List.replicate 16 0)
section
variable {β : Type} (wl : WLT β) (y : YieldT β) (b : β) (R : AV → β → Prop) (K : Exit → List AV → List Blk → β → Prop)
set_option maxRecDepth 100000
end
theorem xorL_len (p q : List Int) : (xorL p q).length = 16 := by simp [xorL]
theorem sumB_len (B : List Int) (m : Int) : (sumB B m).length = 16 := by
  unfold sumB
  have : ∀ (l : List Nat) (o : List Int), o.length = 16 → (l.foldl (stepM B m) o).length = 16 := by
    intro l
    induction l with
    | nil => intro o h; exact h
    | cons i l ih =>
      intro o h
      rw [List.foldl_cons]
      refine ih _ ?_
      unfold stepM
      split
      · exact xorL_len _ _
      · exact h
  exact this _ _ (by simp)
end Go.Proofs.YtkjmhfbjdeidjaaDoor.Am

namespace Go.Proofs.YtkjmhfbjdeidjaaDoor.Am
set_option linter.unusedVariables false
open Go Go.RowKit Go.Proofs

/-! ### all -/
def wordsR (p : List Int) : List (List Dv) := p.map fun x => [u16 x]
section
variable {β : Type} (wl : WLT β) (y : YieldT β) (b : β) (R : AV → β → Prop) (K : Exit → List AV → List Blk → β → Prop)
set_option maxRecDepth 100000
end

/-- the equations that are true of blocks, for some masks -/
def allS (B : List Int) : List Int → List Row → List Row × Bool
  | [], l => (l, true)
  | m :: ms, l => if m == 0 then allS B ms l else
    let x := addS l m (sumB B m)
    if x.2.2 != 0 then ([], false) else allS B ms x.1
theorem stepB_len1 (x : Row) : ∀ (l : List Row) (s : List Row × Bool), (l.foldl (stepB x) s).1.length ≤ s.1.length + l.length + 1 ∧ (s.2 = true ∨ (l.foldl (stepB x) s).2 = false → (l.foldl (stepB x) s).1.length = s.1.length + l.length)
  | [], s => ⟨by simp, fun _ => by simp⟩
  | r :: l, (acc, d) => by
    cases d with
    | true => rw [stepB_t]; exact ⟨by simp only [List.length_append, List.length_map, List.length_cons]; omega, fun _ => by simp only [List.length_append, List.length_map]⟩
    | false =>
      rw [List.foldl_cons]
      by_cases h : lead r.1 < lead x.1
      · have : stepB x (acc, false) r = (acc ++ [fin x] ++ [upd x r], true) := by simp [stepB, upd, fin, h]
        rw [this, stepB_t]
        exact ⟨by simp; omega, fun hh => by simp at hh⟩
      · have : stepB x (acc, false) r = (acc ++ [upd x r], false) := by simp [stepB, upd, h]
        rw [this]
        have ih := stepB_len1 x l (acc ++ [upd x r], false)
        simp only [List.length_append, List.length_cons, List.length_nil] at ih ⊢
        refine ⟨by omega, fun hh => ?_⟩
        have := ih.2 (by simpa using hh)
        omega
theorem add_len (l : List Row) (m : Int) (b : List Int) : (addS l m b).1.length ≤ l.length + 1 := by
  unfold addS
  split
  · simp
  · dsimp only
    split
    · simp
    · split
      · simp
      · have := stepB_len1 (l.foldl red (m, pad b)) l ([], false)
        simp only [List.length_nil] at this
        split
        · rename_i h
          have h := this.2 (by simpa using h)
          simp only [List.length_append, List.length_cons, List.length_nil]; omega
        · simp only; omega
theorem LeL.at {x y : AV} (pre post : List AV) (h : LeA x y) : LeL (pre ++ x :: post) (pre ++ y :: post) := by
  induction pre with
  | nil => exact .cons h (LeL.refl _)
  | cons a pre ih => exact .cons .rfl ih
def allR (x : List Row × Bool) : AV := .tup [.d (.sl 2 (rowsR x.1)), .d (bo x.2)]
theorem all_nil (B : List Int) : ∀ (ms : List Int) (l : List Row), (allS B ms l).2 = false → (allS B ms l).1 = []
  | [], l, h => by simp [allS] at h
  | m :: ms, l, h => by
    unfold allS at h ⊢
    split
    · rename_i hm; rw [if_pos hm] at h; exact all_nil B ms l h
    · rename_i hm
      rw [if_neg hm] at h
      dsimp only at h ⊢
      split
      · rfl
      · rename_i h2; rw [if_neg h2] at h; exact all_nil B ms _ h
end Go.Proofs.YtkjmhfbjdeidjaaDoor.Am

namespace Go.Proofs.YtkjmhfbjdeidjaaDoor.Am
set_option linter.unusedVariables false
open Go Go.RowKit Go.Proofs

/-! ### equations that are true of blocks -/
def xorF (f : Nat → Bool) (l : List Nat) : Bool := l.foldr (fun k a => f k ^^ a) false
theorem xorF_xor (f g : Nat → Bool) : ∀ l : List Nat, xorF (fun k => f k ^^ g k) l = (xorF f l ^^ xorF g l)
  | [] => rfl
  | k :: l => by
    have ih := xorF_xor f g l
    simp only [xorF, List.foldr_cons] at ih ⊢
    rw [ih]
    cases f k <;> cases g k <;> cases (List.foldr (fun k a => f k ^^ a) false l) <;> cases (List.foldr (fun k a => g k ^^ a) false l) <;> rfl
theorem xorF_false (l : List Nat) {f : Nat → Bool} (h : ∀ k ∈ l, f k = false) : xorF f l = false := by
  induction l with
  | nil => rfl
  | cons k l ih =>
    simp only [xorF, List.foldr_cons] at ih ⊢
    rw [h k (List.mem_cons_self ..), ih fun j hj => h j (List.mem_cons_of_mem _ hj)]; rfl
def cB (B : List Int) (i j k : Nat) : Bool := (BitVec.ofInt 8 (nth B (16 * k + i))).getLsbD j
def EV (B : List Int) (v : Ix → Bool) (i j : Nat) : Bool := xorF (fun k => v (.inl k) && cB B i j k) (List.range 16)
def TV (B : List Int) (v : Ix → Bool) : Prop := ∀ i, i < 16 → ∀ j, v (.inr (i, j)) = EV B v i j
theorem TV.vx {B : List Int} {u v : Ix → Bool} (h : TV B u) (k : TV B v) : TV B (vx u v) := by
  intro i hi j
  show (u (.inr (i, j)) ^^ v (.inr (i, j))) = _
  rw [h i hi j, k i hi j]
  unfold EV
  rw [← xorF_xor]
  congr 1
  funext k
  simp only [Am.vx]
  cases u (.inl k) <;> cases v (.inl k) <;> cases cB B i j k <;> rfl
theorem TV.fold {B : List Int} : ∀ {l : List (Ix × (Ix → Bool))} {v : Ix → Bool}, TV B v → (∀ r ∈ l, TV B r.2) → TV B (l.foldl redV v)
  | [], v, h, _ => h
  | r :: l, v, h, hl => by
    rw [List.foldl_cons]
    refine TV.fold ?_ fun s hs => hl s (List.mem_cons_of_mem _ hs)
    unfold redV
    split
    · exact h.vx (hl r (List.mem_cons_self ..))
    · exact h
theorem TV.zero {B : List Int} {v : Ix → Bool} (h : TV B v) (h0 : ∀ k, k < 16 → v (.inl k) = false) : ∀ i, i < 16 → ∀ j, v (.inr (i, j)) = false := by
  intro i hi j
  rw [h i hi j]
  exact xorF_false _ fun k hk => by rw [h0 k (by simpa using hk)]; rfl

theorem bitT_testBit {m : Int} (h0 : 0 ≤ m) (h1 : m < 65536) (k : Nat) : bitT m k = m.toNat.testBit k := by
  obtain ⟨n, rfl⟩ := Int.eq_ofNat_of_zero_le h0
  unfold bitT
  have e1 : Int.fdiv (n : Int) ((2 ^ k : Nat) : Int) = ((n / 2 ^ k : Nat) : Int) := by
    rw [Int.fdiv_eq_ediv_of_nonneg _ (Int.natCast_nonneg _)]; rfl
  have hle : n / 2 ^ k ≤ n := Nat.div_le_self _ _
  rw [e1]
  have e2 : (BitVec.ofInt 64 ((n / 2 ^ k : Nat) : Int) &&& BitVec.ofInt 64 1).toNat = n / 2 ^ k % 2 := by
    rw [BitVec.toNat_and, BitVec.toNat_ofInt, BitVec.toNat_ofInt]
    have : ((((n / 2 ^ k : Nat) : Int) % ((2 ^ 64 : Nat) : Int)).toNat) = n / 2 ^ k := by
      generalize n / 2 ^ k = q at hle
      have : n < 65536 := by omega
      omega
    rw [this]
    exact Nat.and_one_is_mod _
  rw [e2]
  have h2 : n / 2 ^ k % 2 < 2 := Nat.mod_lt _ (by omega)
  rw [wrap_i64 (by omega) (by omega), Int.toNat_natCast, Nat.testBit_eq_decide_div_mod_eq, Bool.eq_iff_iff]
  generalize n / 2 ^ k % 2 = q
  simp; omega
theorem nth_rowN {B : List Int} {i k : Nat} (h : i < 16) : nth (rowN B k) i = nth B (16 * k + i) := by
  simp [rowN, nth, h]
theorem sumB_bits {B : List Int} {m : Int} (h0 : 0 ≤ m) (h1 : m < 65536) {i j : Nat} (hi : i < 16) : ∀ (l : List Nat) (o : List Int),
    (BitVec.ofInt 8 (nth (l.foldl (stepM B m) o) i)).getLsbD j = ((BitVec.ofInt 8 (nth o i)).getLsbD j ^^ xorF (fun k => m.toNat.testBit k && cB B i j k) l)
  | [], o => by simp [xorF]
  | k :: l, o => by
    rw [List.foldl_cons, sumB_bits h0 h1 hi l]
    simp only [xorF, List.foldr_cons]
    unfold stepM
    rw [bitT_testBit h0 h1]
    cases m.toNat.testBit k with
    | false => simp
    | true =>
      simp only [if_true, Bool.true_and]
      rw [nth_xorL hi, ofInt_xor8, BitVec.getLsbD_xor, nth_rowN hi, Bool.xor_assoc]; rfl
theorem sumB_TV {B : List Int} {m : Int} (h0 : 0 ≤ m) (h1 : m < 65536) : TV B (vec (m, sumB B m)) := by
  intro i hi j
  have := sumB_bits (B := B) h0 h1 (j := j) hi (List.range 16) (List.replicate 16 0)
  simp only [vec, hi, decide_true, Bool.true_and, EV]
  unfold sumB
  rw [this]
  have e : nth (List.replicate 16 0) i = 0 := by unfold nth; rw [List.getD_eq_getElem?_getD, List.getElem?_replicate]; split <;> rfl
  rw [e]
  simp
theorem sumB_canon (B : List Int) (m : Int) : ∀ x ∈ sumB B m, 0 ≤ x ∧ x < 256 := by
  unfold sumB
  have : ∀ (l : List Nat) (o : List Int), (∀ x ∈ o, 0 ≤ x ∧ x < 256) → ∀ x ∈ l.foldl (stepM B m) o, 0 ≤ x ∧ x < 256 := by
    intro l
    induction l with
    | nil => intro o h; exact h
    | cons i l ih =>
      intro o h
      rw [List.foldl_cons]
      refine ih _ ?_
      unfold stepM
      split
      · intro x hx
        simp only [xorL, List.mem_map] at hx
        obtain ⟨k, _, rfl⟩ := hx
        exact xor8_bd _ _
      · exact h
  exact this _ _ (by simp)

def TR (B : List Int) (l : List Row) : Prop := ∀ r ∈ l, TV B (rowV r).2
theorem TR.all {B : List Int} {l : List Row} (h : TR B l) : ∀ r ∈ l.map rowV, TV B r.2 := by
  intro r hr
  obtain ⟨s, hs, rfl⟩ := List.mem_map.1 hr
  exact h s hs

/-- every sum that follows is that of the blocks -/
theorem truth_sum {B : List Int} {l : List Row} (hg : Good l) (ht : TR B l) {m : Int} (h0 : 0 ≤ m) (h1 : m < 65536) (hs : (sumS l m).2 = true) : sumS l m = (sumB B m, true) := by
  have hv := (validS_good l).2 hg
  rw [sumS_def h0 h1 hv] at hs ⊢
  have vU := vec_foldl (x := (m, [])) ⟨h0, h1⟩ hg.mask
  have bU := foldl_red_bd (x := (m, [])) ⟨h0, h1⟩ hg.mask
  have cU : canon (l.foldl red (m, [])).2 := canon_foldl canon_nil
  generalize l.foldl red (m, []) = u at *
  have hu : u.1 = 0 := by
    split at hs
    · cases hs
    · rename_i h; simpa using h
  rw [if_neg (by simp [hu])]
  congr 1
  have hT := TV.fold (sumB_TV (B := B) h0 h1) ht.all
  rw [vec_split, foldV_vx, fold_bytes, ← vU] at hT
  have hz := hT.zero fun k hk => by simp [vx, vec, hu]
  have hcb : canon (sumB B m) := by
    intro i hi
    refine sumB_canon B m _ ?_
    have : nth (sumB B m) i = (sumB B m)[i]'(by rw [sumB_len]; exact hi) := by simp [nth, List.getD, sumB_len, hi]
    rw [this]; exact List.getElem_mem _
  refine list16 (b16_len _) (sumB_len _ _) fun i hi => ?_
  rw [nth_b16 hi]
  refine ofInt8_inj (cU i hi) (hcb i hi) ?_
  apply BitVec.eq_of_getLsbD_eq
  intro j _
  have := hz i hi j
  simp only [vx, vec, hi, decide_true, Bool.true_and] at this
  revert this
  cases (BitVec.ofInt 8 (nth u.2 i)).getLsbD j <;> cases (BitVec.ofInt 8 (nth (sumB B m) i)).getLsbD j <;> simp

theorem TR.ins {B : List Int} {l : List Row} (hg : Good l) (ht : TR B l) {x : Row} (hx : okMask x) (hT : TV B (vec x)) : TR B (insS x l) := by
  intro r hr
  rcases ins_mem.1 hr with rfl | ⟨s, hs, rfl⟩
  · have e : (rowV (fin x)).2 = vec x := by
      show vec (x.1, pad (b16 x.2)) = _
      rw [pad16 (b16_len _), vec_b16]
    rw [e]; exact hT
  · rw [upd_vec hx (hg.mask s hs)]
    split
    · exact (ht s hs).vx hT
    · exact ht s hs

/-- bytes are bytes -/
def CR (l : List Row) : Prop := ∀ r ∈ l, canon r.2
theorem CR.ins {l : List Row} (h : CR l) {x : Row} (hx : canon x.2) : CR (insS x l) := by
  intro r hr
  rcases ins_mem.1 hr with rfl | ⟨s, hs, rfl⟩
  · intro i hi
    show 0 ≤ nth (b16 x.2) i ∧ nth (b16 x.2) i < 256
    rw [nth_b16 hi]; exact hx i hi
  · unfold upd
    split
    · intro i hi
      simp only
      rw [nth_b16 hi]; exact canon_xorL _ _ i hi
    · intro i hi
      simp only
      rw [nth_b16 hi]
      have : nth (pad s.2) i = nth s.2 i := by
        unfold pad nth
        rw [List.getD_eq_getElem?_getD, List.getElem?_take, if_pos hi, List.getD_eq_getElem?_getD, List.getElem?_append]
        split
        · rfl
        · rename_i hh
          rw [List.getElem?_replicate]
          have : s.2[i]? = none := List.getElem?_eq_none (by omega)
          rw [this]; split <;> rfl
      rw [this]; exact h s hs i hi
theorem Good.len16 {l : List Row} (h : Good l) : ∀ r ∈ l, r.2.length = 16 := by
  intro r hr
  have := h.ok r hr
  rw [fine_formed] at this
  simp only [formedS, Bool.and_eq_true, decide_eq_true_eq] at this
  exact this.2.2
theorem canon_all {p : List Int} (hl : p.length = 16) (h : canon p) : ∀ x ∈ p, 0 ≤ x ∧ x < 256 := by
  intro x hx
  obtain ⟨i, hi, rfl⟩ := List.mem_iff_getElem.1 hx
  have := h i (by omega)
  simpa [nth, List.getD, hi] using this
theorem sumB_canon' (B : List Int) (m : Int) : canon (sumB B m) := by
  intro i hi
  refine sumB_canon B m _ ?_
  have : nth (sumB B m) i = (sumB B m)[i]'(by rw [sumB_len]; exact hi) := by simp [nth, List.getD, sumB_len, hi]
  rw [this]; exact List.getElem_mem _
/-- rows that are true of blocks -/
structure Tru (B : List Int) (l : List Row) : Prop where
  good : Good l
  tr : TR B l
  cr : CR l
theorem Tru.bytes {B : List Int} {l : List Row} (h : Tru B l) : ∀ r ∈ l, ∀ x ∈ r.2, 0 ≤ x ∧ x < 256 := fun r hr => canon_all (h.good.len16 r hr) (h.cr r hr)
theorem Tru.nil (B : List Int) : Tru B [] := ⟨⟨fun r h => (by cases h), .nil, .nil⟩, fun r h => (by cases h), fun r h => (by cases h)⟩

/-- no true equation is refused -/
theorem truth_add {B : List Int} {l : List Row} (h : Tru B l) {m : Int} (h0 : 1 ≤ m) (h1 : m < 65536) :
    (addS l m (sumB B m)).2.2 = 0 ∧ Tru B (addS l m (sumB B m)).1 := by
  rcases add_law h.good ⟨h0, h1⟩ (sumB_len B m) (sumB_canon B m) with ⟨h2, h3, _⟩ | ⟨_, h3⟩ | ⟨_, x, hx, h3, hG, _, hv, _, hc⟩
  · exact absurd (congrArg Prod.fst (truth_sum h.good h.tr (by omega) h1 h2)) h3
  · rw [h3]; exact ⟨rfl, h⟩
  · rw [h3]
    refine ⟨rfl, hG, TR.ins h.good h.tr hx ?_, h.cr.ins hc⟩
    rw [hv]
    exact TV.fold (sumB_TV (by omega) h1) h.tr.all
theorem truth_all {B : List Int} : ∀ {ms : List Int} {l : List Row}, Tru B l → (∀ x ∈ ms, 0 ≤ x ∧ x < 65536) → (allS B ms l).2 = true ∧ Tru B (allS B ms l).1
  | [], l, ht, _ => ⟨rfl, ht⟩
  | m :: ms, l, ht, hb => by
    have hb' := fun x hx => hb x (List.mem_cons_of_mem _ hx)
    have hm := hb m (List.mem_cons_self ..)
    unfold allS
    split
    · exact truth_all ht hb'
    · rename_i h
      have h : m ≠ 0 := by simpa using h
      obtain ⟨h1, h2⟩ := truth_add ht (m := m) (by omega) hm.2
      dsimp only
      rw [h1]
      exact truth_all h2 hb'
end Go.Proofs.YtkjmhfbjdeidjaaDoor.Am

namespace Go.Proofs.YtkjmhfbjdeidjaaDoor.Am
set_option linter.unusedVariables false
open Go Go.RowKit Go.Proofs

/-! ### what follows from rows -/
abbrev Vc := Ix → Bool
def z0 : Vc := fun _ => false
def InV (l : List Row) (v : Vc) : Prop := (l.map rowV).foldl redV v = z0
theorem fold_zero (l : List (Ix × Vc)) : l.foldl redV z0 = z0 := fold_skip _ _ fun _ _ => rfl
def Sp : List Vc → Vc → Prop
  | [], v => v = z0
  | e :: es, v => Sp es v ∨ Sp es (vx v e)
theorem vx_comm (u v : Vc) : vx u v = vx v u := by funext i; simp only [vx]; cases u i <;> cases v i <;> rfl
theorem vx_can (u v : Vc) : vx (vx u v) v = u := by rw [vx_assoc, vx_self, vx_zero]
theorem Sp.add : ∀ {es : List Vc} {u v : Vc}, Sp es u → Sp es v → Sp es (vx u v)
  | [], u, v, hu, hv => by
    simp only [Sp] at hu hv ⊢
    subst hu; subst hv; exact vx_self _
  | e :: es, u, v, hu, hv => by
    rcases hu with hu | hu <;> rcases hv with hv | hv
    · exact .inl (Sp.add hu hv)
    · right; have := Sp.add hu hv; rwa [← vx_assoc] at this
    · right; have := Sp.add hu hv
      have e1 : vx (vx u e) v = vx (vx u v) e := by rw [vx_assoc, vx_assoc, vx_comm e v]
      rwa [e1] at this
    · left; have := Sp.add hu hv
      have e1 : vx (vx u e) (vx v e) = vx u v := by rw [vx_assoc, vx_comm v e, ← vx_assoc e e v, vx_self, zero_vx]
      rwa [e1] at this
theorem Sp.zero : ∀ es : List Vc, Sp es z0
  | [] => rfl
  | _ :: es => .inl (Sp.zero es)
theorem Sp.mem : ∀ {es : List Vc} {e : Vc}, e ∈ es → Sp es e
  | f :: es, e, h => by
    rcases List.mem_cons.1 h with rfl | h
    · right; rw [vx_self]; exact Sp.zero es
    · exact .inl (Sp.mem h)
theorem Sp.sub : ∀ {es fs : List Vc} {v : Vc}, (∀ e ∈ es, Sp fs e) → Sp es v → Sp fs v
  | [], fs, v, _, h => by simp only [Sp] at h; subst h; exact Sp.zero fs
  | e :: es, fs, v, hs, h => by
    rcases h with h | h
    · exact Sp.sub (fun e he => hs e (List.mem_cons_of_mem _ he)) h
    · have := Sp.add (Sp.sub (fun e he => hs e (List.mem_cons_of_mem _ he)) h) (hs e (List.mem_cons_self ..))
      rwa [vx_can] at this

theorem fold_back {P : Vc → Prop} (hP : ∀ u v, P u → P v → P (vx u v)) : ∀ (g : List (Ix × Vc)) (v : Vc), (∀ r ∈ g, P r.2) → P (g.foldl redV v) → P v
  | [], v, _, h => h
  | r :: g, v, hr, h => by
    rw [List.foldl_cons] at h
    have h1 := fold_back hP g _ (fun s hs => hr s (List.mem_cons_of_mem _ hs)) h
    have e : redV v r = if v r.1 then vx v r.2 else v := rfl
    rw [e] at h1
    split at h1
    · have := hP _ _ h1 (hr r (List.mem_cons_self ..))
      rwa [vx_can] at this
    · exact h1

theorem in_ins {l : List Row} (hg : Good l) {e : Vc} {x : Row} (hx : okMask x) (hv : vec x = (l.map rowV).foldl redV e) (hc : ∀ r ∈ l, x.1.toNat.testBit (top r.1) = false) (v : Vc) :
    InV (insS x l) v ↔ InV l v ∨ InV l (vx v e) := by
  obtain ⟨k1, k2⟩ := ins_kill hx hg hc
  have hk : ∀ v, ((insS x l).map rowV).foldl redV ((l.map rowV).foldl redV v) = ((insS x l).map rowV).foldl redV v := fun v => fold_kill _ (l.map rowV) v fun r hr => by
    obtain ⟨s, hs, rfl⟩ := List.mem_map.1 hr
    exact k2 s hs
  have hx0 : (l.map rowV).foldl redV (vec x) = vec x := fold_skip _ _ fun r hr => by
    obtain ⟨s, hs, rfl⟩ := List.mem_map.1 hr
    exact hc s hs
  constructor
  · intro h
    have key : (l.map rowV).foldl redV v = z0 ∨ (l.map rowV).foldl redV v = vec x := by
      refine fold_back (P := fun v => (l.map rowV).foldl redV v = z0 ∨ (l.map rowV).foldl redV v = vec x) (fun u v hu hv => ?_) ((insS x l).map rowV) v (fun r hr => ?_) ?_
      · rw [foldV_vx]
        rcases hu with hu | hu <;> rcases hv with hv | hv <;> rw [hu, hv]
        · exact .inl (vx_self _)
        · exact .inr (zero_vx _)
        · exact .inr (vx_zero _)
        · exact .inl (vx_self _)
      · obtain ⟨s, hs, rfl⟩ := List.mem_map.1 hr
        rcases ins_mem.1 hs with rfl | ⟨s', hs', rfl⟩
        · have e : (rowV (fin x)).2 = vec x := by
            show vec (x.1, pad (b16 x.2)) = _
            rw [pad16 (b16_len _), vec_b16]
          rw [e, hx0]; exact .inr rfl
        · rw [upd_vec hx (hg.mask s' hs')]
          split
          · rw [foldV_vx, hx0, fold_self hg hs']; exact .inr (zero_vx _)
          · rw [fold_self hg hs']; exact .inl rfl
      · have h : ((insS x l).map rowV).foldl redV v = z0 := h
        simp only [h]
        exact .inl (fold_zero _)
    rcases key with h1 | h1
    · exact .inl h1
    · right; unfold InV; rw [foldV_vx, h1, ← hv, vx_self]; rfl
  · rintro (h | h)
    · unfold InV at h ⊢; rw [← hk v, h]; exact fold_zero _
    · unfold InV at h ⊢
      rw [foldV_vx, ← hv] at h
      have : (l.map rowV).foldl redV v = vec x := by
        have := congrArg (fun w => vx w (vec x)) h
        simp only [vx_can] at this
        rw [this]; exact zero_vx _
      rw [← hk v, this]; exact k1

theorem sum_in {l : List Row} (hg : Good l) {m : Int} {b : List Int} (h0 : 0 ≤ m) (h1 : m < 65536) (hs : sumS l m = (b, true)) : InV l (vec (m, b)) := by
  have hv := (validS_good l).2 hg
  rw [sumS_def h0 h1 hv] at hs
  have vU := vec_foldl (x := (m, [])) ⟨h0, h1⟩ hg.mask
  unfold InV
  rw [vec_split, foldV_vx, fold_bytes, ← vU]
  generalize l.foldl red (m, []) = u at *
  split at hs
  · cases hs
  · rename_i hu
    have hu : u.1 = 0 := by simpa using hu
    have hb : b16 u.2 = b := congrArg Prod.fst hs
    have : vec u = vec (0, b) := by
      funext i
      cases i with
      | inl k => simp [vec, hu]
      | inr ij =>
        obtain ⟨i, j⟩ := ij
        simp only [vec]
        by_cases h : i < 16
        · rw [← hb, nth_b16 h]
        · simp [h]
    rw [this]; exact vx_self _

/-- what an equation adds -/
theorem in_add {B : List Int} {l : List Row} (h : Tru B l) {m : Int} (h0 : 1 ≤ m) (h1 : m < 65536) (v : Vc) :
    InV (addS l m (sumB B m)).1 v ↔ InV l v ∨ InV l (vx v (vec (m, sumB B m))) := by
  rcases add_law h.good ⟨h0, h1⟩ (sumB_len B m) (sumB_canon B m) with ⟨h2, h3, _⟩ | ⟨h2, h3⟩ | ⟨_, x, hx, h3, hG, _, hv, hc, _⟩
  · exact absurd (congrArg Prod.fst (truth_sum h.good h.tr (by omega) h1 h2)) h3
  · rw [h3]
    have hi := sum_in h.good (by omega) h1 h2
    refine ⟨.inl, fun hh => ?_⟩
    rcases hh with hh | hh
    · exact hh
    · unfold InV at hh hi ⊢
      rw [foldV_vx, hi] at hh
      rw [← hh]; exact (vx_zero _).symm
  · rw [h3]
    exact in_ins h.good hx hv hc v
def eqsB (B : List Int) (ms : List Int) : List Vc := (ms.filter fun m => m != 0).map fun m => vec (m, sumB B m)
theorem in_all {B : List Int} : ∀ {ms : List Int} {l : List Row} {es : List Vc}, Tru B l → (∀ x ∈ ms, 0 ≤ x ∧ x < 65536) → (∀ v, InV l v ↔ Sp es v) → ∀ v, InV (allS B ms l).1 v ↔ Sp ((eqsB B ms).reverse ++ es) v
  | [], l, es, _, _, h, v => by simpa [allS, eqsB] using h v
  | m :: ms, l, es, ht, hb, h, v => by
    have hb' := fun x hx => hb x (List.mem_cons_of_mem _ hx)
    have hm := hb m (List.mem_cons_self ..)
    unfold allS
    by_cases h0 : m = 0
    · subst h0
      simp only [beq_self_eq_true, if_true]
      have e : eqsB B (0 :: ms) = eqsB B ms := by simp [eqsB]
      rw [e]; exact in_all ht hb' h v
    · have e : eqsB B (m :: ms) = vec (m, sumB B m) :: eqsB B ms := by simp [eqsB, h0]
      obtain ⟨h1, h2⟩ := truth_add ht (m := m) (by omega) hm.2
      have e2 : (m == 0) = false := by simpa using h0
      dsimp only
      rw [e2, h1, e, List.reverse_cons, List.append_assoc]
      exact in_all h2 hb' (fun v => by rw [in_add ht (by omega) hm.2 v, h v, h (vx v _)]; rfl) v

/-! ### rows are told by what follows from them -/
theorem fold_top : ∀ {g : List Row}, Good g → ∀ {t : Nat} {v : Vc}, (∀ s ∈ g, t < top s.1 → v (.inl (top s.1)) = false) → (∀ s ∈ g, top s.1 ≠ t) → ((g.map rowV).foldl redV v) (.inl t) = v (.inl t)
  | [], _, t, v, _, _ => rfl
  | r :: g, hg, t, v, h1, h2 => by
    rw [List.map_cons, List.foldl_cons]
    have e : redV v (rowV r) = if v (.inl (top r.1)) then vx v (rowV r).2 else v := rfl
    have hm := hg.mask r (List.mem_cons_self ..)
    rw [e]
    split
    · rename_i hv
      have hlt : ¬ t < top r.1 := fun h => by rw [h1 r (List.mem_cons_self ..) h] at hv; cases hv
      have hne := h2 r (List.mem_cons_self ..)
      rw [fold_top hg.tail (fun s hs hst => ?_) fun s hs => h2 s (List.mem_cons_of_mem _ hs)]
      · show (v (.inl t) ^^ r.1.toNat.testBit t) = _
        rw [high_bit hm.1 (by omega)]; simp
      · show (v (.inl (top s.1)) ^^ r.1.toNat.testBit (top s.1)) = false
        rw [h1 s (List.mem_cons_of_mem _ hs) hst, ((List.pairwise_cons.1 hg.clear).1 s hs).1]; rfl
    · exact fold_top hg.tail (fun s hs => h1 s (List.mem_cons_of_mem _ hs)) fun s hs => h2 s (List.mem_cons_of_mem _ hs)
theorem top_in {l g : List Row} (hl : Good l) (hg : Good g) (h : ∀ v, InV l v → InV g v) {r : Row} (hr : r ∈ l) : ∃ s ∈ g, top s.1 = top r.1 := by
  by_cases hh : ∃ s ∈ g, top s.1 = top r.1
  · exact hh
  · exfalso
    have hm := hl.mask r hr
    have h1 : InV g (rowV r).2 := h _ (fold_self hl hr)
    have h2 := fold_top hg (t := top r.1) (v := (rowV r).2) (fun s hs hst => high_bit hm.1 hst) fun s hs he => hh ⟨s, hs, he⟩
    unfold InV at h1
    rw [h1] at h2
    have h3 : (rowV r).2 (.inl (top r.1)) = true := top_bit hm.1
    rw [h3] at h2; cases h2
theorem Good.apart {l : List Row} (h : Good l) {r s : Row} (hr : r ∈ l) (hs : s ∈ l) (hne : top s.1 ≠ top r.1) : r.1.toNat.testBit (top s.1) = false := by
  obtain ⟨a, ha⟩ := List.mem_iff_getElem?.1 hr
  obtain ⟨b, hb⟩ := List.mem_iff_getElem?.1 hs
  rcases Nat.lt_trichotomy a b with h' | h' | h'
  · exact (pairwise_at h.clear ha hb h').1
  · subst h'; rw [ha] at hb; cases hb; exact absurd rfl hne
  · exact (pairwise_at h.clear hb ha h').2
theorem row_in {l g : List Row} (hl : Good l) (hg : Good g) (cl : CR l) (cg : CR g) (h : ∀ v, InV l v ↔ InV g v) {r : Row} (hr : r ∈ l) : r ∈ g := by
  obtain ⟨s, hs, hst⟩ := top_in hl hg (fun v => (h v).1) hr
  have h1 : InV g (vx (rowV r).2 (rowV s).2) := by
    have h2 : InV g (rowV r).2 := (h _).1 (fold_self hl hr)
    have h3 : InV g (rowV s).2 := fold_self hg hs
    unfold InV at h2 h3 ⊢
    rw [foldV_vx, h2, h3]; exact vx_self _
  have h2 : vx (rowV r).2 (rowV s).2 = z0 := by
    rw [← h1]
    refine (fold_skip _ _ fun t ht => ?_).symm
    obtain ⟨t, htg, rfl⟩ := List.mem_map.1 ht
    show (r.1.toNat.testBit (top t.1) ^^ s.1.toNat.testBit (top t.1)) = false
    by_cases he : top t.1 = top s.1
    · rw [he, top_bit (hg.mask s hs).1, hst, top_bit (hl.mask r hr).1]; rfl
    · obtain ⟨t', ht', het⟩ := top_in hg hl (fun v => (h v).2) htg
      rw [hg.apart hs htg he, ← het, hl.apart hr ht' (by omega)]; rfl
  have h3 : (rowV r).2 = (rowV s).2 := by
    have := congrArg (fun w => vx w (rowV s).2) h2
    simp only [vx_can] at this
    rw [this]; exact zero_vx _
  have h4 : vec (r.1, pad r.2) = vec (s.1, pad s.2) := h3
  rw [pad16 (hl.len16 r hr), pad16 (hg.len16 s hs)] at h4
  have e1 : r.1 = s.1 := vec_inl (x := r) (y := s) (by have := (hl.mask r hr).1; omega) (by have := (hg.mask s hs).1; omega) h4
  have e2 : r.2 = s.2 := by
    have := b16_ext (x := r) (y := s) (cl r hr) (cg s hs) h4
    rwa [b16_id (hl.len16 r hr), b16_id (hg.len16 s hs)] at this
  have : r = s := Prod.ext e1 e2
  rw [this]; exact hs
theorem falls_ext : ∀ {l g : List Row}, (l.Pairwise fun a b => top b.1 < top a.1) → (g.Pairwise fun a b => top b.1 < top a.1) → (∀ r, r ∈ l ↔ r ∈ g) → l = g
  | [], [], _, _, _ => rfl
  | [], b :: g, _, _, h => by have := (h b).2 (List.mem_cons_self ..); cases this
  | a :: l, [], _, _, h => by have := (h a).1 (List.mem_cons_self ..); cases this
  | a :: l, b :: g, hl, hg, h => by
    obtain ⟨la, ll⟩ := List.pairwise_cons.1 hl
    obtain ⟨ga, gg⟩ := List.pairwise_cons.1 hg
    have e : a = b := by
      rcases List.mem_cons.1 ((h a).1 (List.mem_cons_self ..)) with e | h1
      · exact e
      · rcases List.mem_cons.1 ((h b).2 (List.mem_cons_self ..)) with e | h2
        · exact e.symm
        · have := ga a h1; have := la b h2; omega
    subst e
    rw [falls_ext ll gg fun r => ⟨fun hr => ?_, fun hr => ?_⟩]
    · rcases List.mem_cons.1 ((h r).1 (List.mem_cons_of_mem _ hr)) with rfl | h1
      · have := la r hr; omega
      · exact h1
    · rcases List.mem_cons.1 ((h r).2 (List.mem_cons_of_mem _ hr)) with rfl | h1
      · have := ga r hr; omega
      · exact h1
theorem rows_unique {l g : List Row} (hl : Good l) (hg : Good g) (cl : CR l) (cg : CR g) (h : ∀ v, InV l v ↔ InV g v) : l = g :=
  falls_ext hl.falls hg.falls fun r => ⟨row_in hl hg cl cg h, row_in hg hl cg cl fun v => (h v).symm⟩

/-- the order of equations, and repetitions, do not matter -/
theorem order_law {B ms ks : List Int} (hms : ∀ x ∈ ms, 0 ≤ x ∧ x < 65536) (hk : ∀ x, x ∈ ks ↔ x ∈ ms) : allS B ks [] = allS B ms [] := by
  have hks : ∀ x ∈ ks, 0 ≤ x ∧ x < 65536 := fun x hx => hms x ((hk x).1 hx)
  obtain ⟨h1, h2⟩ := truth_all (Tru.nil B) hms
  obtain ⟨h3, h4⟩ := truth_all (Tru.nil B) hks
  have h0 : ∀ v, InV [] v ↔ Sp [] v := fun v => Iff.rfl
  have hsub : ∀ (p q : List Int), (∀ x, x ∈ p → x ∈ q) → ∀ v, Sp ((eqsB B p).reverse ++ []) v → Sp ((eqsB B q).reverse ++ []) v := by
    intro p q hpq v
    refine Sp.sub fun e he => Sp.mem ?_
    simp only [List.append_nil, List.mem_reverse, eqsB, List.mem_map, List.mem_filter] at he ⊢
    obtain ⟨m, ⟨hm, hm0⟩, rfl⟩ := he
    exact ⟨m, ⟨hpq m hm, hm0⟩, rfl⟩
  refine Prod.ext (rows_unique h4.good h2.good h4.cr h2.cr fun v => ?_) (h3.trans h1.symm)
  rw [in_all (Tru.nil B) hks h0 v, in_all (Tru.nil B) hms h0 v]
  exact ⟨hsub ks ms (fun x => (hk x).1) v, hsub ms ks (fun x => (hk x).2) v⟩
end Go.Proofs.YtkjmhfbjdeidjaaDoor.Am

namespace Go.Proofs.YtkjmhfbjdeidjaaDoor.Am
set_option linter.unusedVariables false
open Go Go.RowKit Go.Proofs

section
variable {β : Type} (wl : WLT β) (y : YieldT β) (b : β) (R : AV → β → Prop) (K : Exit → List AV → List Blk → β → Prop)
theorem v_round (ps ss : List (List Dv)) (i : Int) : wpc Tryd.prog ⟨TVa, [], wl, y, false⟩ 100 lpV (tmV ps ss i) [] b (maskK 0 [0, 1, 4, 5] K) = (
  BIf (decide (i < ss.length)) (BIf (decide (i < 200)) (BIf (true && decide (0 ≤ i)) (∃ x0 : Int, ss[Int.toNat i]? = some [i64 x0] ∧ ∃ x3 : Int, [AV.d (i64 x0)] = [.d (i64 x3)] ∧
    BIf (!seedS x3) (K .ret ((tmV ps ss i).set 4 (.d (bo false))) [] b) (K .normal (tmV ps ss (IntKind.wrap .i64 (i + 1))) [] b)) False) (K (.exit 0) (tmV ps ss i) [] b)) (K (.exit 0) (tmV ps ss i) [] b)) := by kernel_rfl
theorem x_round (xs : List (List Dv)) (i : Int) : wpc Tryd.prog ⟨[], [], wl, y, false⟩ 100 lpE (tmX (.own 5 1 xs) i) [] b (maskK 0 [1, 2] K) = (
  BIf (decide (i < 256)) (BIf (true && decide ((xs.length + 1) * 1 ≤ 140737488355328)) (K .normal (tmX (.own 5 1 (xs ++ [[u8 (IntKind.wrap .u8 (IntKind.wrap .i64 (Int.tdiv i 16)))]])) (IntKind.wrap .i64 (i + 1))) [] b) False) (K (.exit 0) (tmX (.own 5 1 xs) i) [] b)) := by kernel_rfl
def retR (ps ss l : List (List Dv)) (n i : Int) : List AV := [.d (.sl 1 ps), .d (.sl 1 ss), .bad, .bad, .d (.s (.slice none 0 0)), .d (i64 0), .d (bo false), .d (.sl 2 l), .d (i64 n), .d (i64 i)] ++ List.replicate 43 .bad
theorem r_round (ps ss l : List (List Dv)) (n i : Int) : wpc Tryd.prog ⟨TRe, [], wl, y, false⟩ 100 lpR (tmR ps ss (.d (.sl 2 l)) n i) [] b (maskK 0 [0, 1, 4, 5, 6, 7, 8, 9] K) = (
  BIf (decide (i < ss.length)) (BIf (decide (i < 200)) (BIf (true && decide (0 ≤ i)) (∃ x0 : Int, ss[Int.toNat i]? = some [i64 x0] ∧ ∃ (p3 : List Int) (n4 s5 : Int) (x6 : List Int × Int × Int × Int), [AV.d (.sl 1 ps), .d (i64 0), .d (i64 x0)] = [.d (.sl 1 (bytesR p3)), .d (i64 n4), .d (i64 s5)] ∧ x6 = encR p3 n4 s5 ∧
    ∃ (l7 : List Row) (n8 s9 : Int) (d10 : List Int) (pr11 : List (List Dv)) (x12 : List Row × Bool × Int), [AV.d (.sl 2 l), blkA x6.2.1 x6.2.2.1 x6.1] = [.d (.sl 2 (rowsR l7)), recA n8 s9 (bytesR d10) pr11] ∧ (2 * l7.length ≤ 1000000 ∧ x12 = recS l7 n8 s9 d10) ∧
      BIf (x6.2.2.2 != 0) (K .ret (retR ps ss l n i) [] b) (BIf (x12.2.2 != 0) (K .ret (retR ps ss l n i) [] b) (BIf x12.2.1 (K .normal (tmR ps ss (.d (.sl 2 (rowsR x12.1))) (IntKind.wrap .i64 (n + 1)) (IntKind.wrap .i64 (i + 1))) [] b)
        (K .normal (tmR ps ss (.d (.sl 2 (rowsR x12.1))) n (IntKind.wrap .i64 (i + 1))) [] b)))) False) (K (.exit 0) (tmR ps ss (.d (.sl 2 l)) n i) [] b)) (K (.exit 0) (tmR ps ss (.d (.sl 2 l)) n i) [] b)) := by kernel_rfl
end
theorem TVa_ok : CallsOk Tryd.prog TVa := CallsOk.cons cSeedR_ok CallsOk.nil
theorem intsR_len (p : List Int) : (intsR p).length = p.length := by simp [intsR]

/-! valid -/
def validB (p ss : List Int) : Bool := (ss.take 200).all seedS && (decide (p.length = 256) && decide (ss.length ≤ 100))
set_option maxRecDepth 10000 in
theorem wrV {Ev : Env Tryd.prog} {b : Ev.β} {Q : Exit → St Ev.β → Prop} (ps : List (List Dv)) (ss : List Int) (hl : ss.length ≤ 9223372036854775807) : ∀ (rest : List Int) (k : Nat), ss.drop k = rest → k ≤ ss.length → k ≤ 200 →
    ((rest.take (200 - k)).all seedS = true → ∀ i : Int, Q (.exit 0) ⟨tmV ps (intsR ss) i, [], b⟩) → ((rest.take (200 - k)).all seedS = false → ∀ i : Int, Q .ret ⟨(tmV ps (intsR ss) i).set 4 (.d (bo false)), [], b⟩) →
    WR Ev lpV (rest.length + 1) ⟨tmV ps (intsR ss) k, [], b⟩ Q
  | [], k, hd, hk, h2, h3, h4 => by
    refine WR.ofMask [0, 1, 4, 5] mixed (CX.Ok.of (u := false) TVa_ok SCallsOk.nil) (k := 100) ?_
    show wpc _ _ _ _ _ _ _ (maskK 0 _ _)
    rw [v_round, intsR_len]
    have := drop_nil hd
    exact BIf.f (by simp; omega) (h3 (by simp) _)
  | z :: rest, k, hd, hk, h2, h3, h4 => by
    refine WR.ofMask [0, 1, 4, 5] mixed (CX.Ok.of (u := false) TVa_ok SCallsOk.nil) (k := 100) ?_
    show wpc _ _ _ _ _ _ _ (maskK 0 _ _)
    rw [v_round, intsR_len]
    obtain ⟨hk', hr, hd'⟩ := drop_cons hd
    refine BIf.t (by simp; omega) (BIf.of (fun h5 => BIf.t (by simp) ⟨z, by simp [intsR, hr], z, rfl, BIf.of (fun hz => ?_) fun hz => ?_⟩) fun h5 => ?_)
    · have h6 : k < 200 := by simp at h5; omega
      refine h4 ?_ _
      rw [show 200 - k = (200 - (k + 1)) + 1 by omega, List.take_succ_cons, List.all_cons]
      simp at hz; simp [hz]
    · have h6 : k < 200 := by simp at h5; omega
      rw [wrap_succ hk' hl]
      have e : ((z :: rest).take (200 - k)).all seedS = (rest.take (200 - (k + 1))).all seedS := by
        rw [show 200 - k = (200 - (k + 1)) + 1 by omega, List.take_succ_cons, List.all_cons]
        simp at hz; simp [hz]
      rw [e] at h3 h4
      exact wrV ps ss hl rest (k + 1) hd' hk' h6 h3 h4
    · have h6 : k = 200 := by simp at h5; omega
      subst h6
      exact h3 (by simp) _
def wlV {β : Type} : WLT β := fun c tm hp b K => ∃ (ps : List (List Dv)) (ss : List Int) (z : Bool), c = .loop lpV ∧ maskTm [0, 1, 5] 0 tm = tmV ps (intsR ss) 0 ∧ hp = [] ∧ (ss.length ≤ 9223372036854775807 ∧ z = (ss.take 200).all seedS) ∧
  BIf z (∀ i : Int, K (.exit 0) (tmV ps (intsR ss) i) [] b) (∀ i : Int, K .ret ((tmV ps (intsR ss) i).set 4 (.d (bo false))) [] b)
theorem wlV_ok {Ev : Env Tryd.prog} (c : Code) (tm : List AV) (hp : List Blk) (b : Ev.β) (K : Exit → List AV → List Blk → Ev.β → Prop) (h : wlV c tm hp b K) : W Ev c ⟨tm, hp, b⟩ (fun e s => K e s.tm s.hp s.b) := by
  obtain ⟨ps, ss, z, rfl, htm, rfl, ⟨hl, hz⟩, hK⟩ := h
  refine W.cast (htm ▸ maskTm_le _ tm 0) (LeH.refl _) ?_
  exact W.rounds (wrV (Q := fun e s => K e s.tm s.hp s.b) ps ss hl ss 0 rfl (Nat.zero_le _) (Nat.zero_le _) (fun h => by rw [hz, h] at hK; exact hK) fun h => by rw [hz, h] at hK; exact hK)
section
variable {β : Type} (y : YieldT β) (b : β) (R : AV → β → Prop)
theorem valid_nf (ps ss : List (List Dv)) : wpFn Tryd.prog ⟨TVa, [], wlV, y, false⟩ 100 Tryd.f23 [.d (.sl 1 ps), .d (.sl 1 ss)] b R = (
  ∃ (ps1 : List (List Dv)) (ss1 : List Int) (z : Bool), Code.loop lpV = .loop lpV ∧ tmV ps ss 0 = tmV ps1 (intsR ss1) 0 ∧ ([] : List Blk) = [] ∧ (ss1.length ≤ 9223372036854775807 ∧ z = (ss1.take 200).all seedS) ∧
    BIf z (∀ i : Int, BIf ((ps1.length : Int) == 256) (R (.d (bo (decide (((intsR ss1).length : Int) ≤ 100)))) b) (R (.d (bo false)) b)) (∀ i : Int, R (.d (bo false)) b)) := by kernel_rfl
end
theorem pcValid (p ss : List Int) (hl : ss.length ≤ 9223372036854775807) : PCall Tryd.prog 23 [.d (.sl 1 (bytesR p)), .d (.sl 1 (intsR ss))] (.d (bo (validB p ss))) := by
  refine PCall.ofFnW (n := 100) (u := false) (fun _ => wlV) mixed TVa_ok SCallsOk.nil (fun Ev => wlV_ok) Tryd.func23 (by rfl) (by rfl) fun Ev bb => ?_
  rw [valid_nf]
  refine ⟨_, ss, _, rfl, rfl, rfl, ⟨hl, rfl⟩, BIf.of (fun h i => BIf.of (fun h1 => ?_) fun h1 => ?_) fun h i => ?_⟩
  · rw [bytesR_len] at h1
    simp at h1
    simp only [validB, h, Bool.true_and, intsR_len]
    rw [show decide (p.length = 256) = true by simp; omega, Bool.true_and]
    congr 3
    simp
    omega
  · rw [bytesR_len] at h1
    simp at h1
    simp only [validB, h, Bool.true_and]
    rw [show decide (p.length = 256) = false by simp; omega, Bool.false_and]
  · simp only [validB, h, Bool.false_and]
def cValid (args : List AV) (K : AV → Prop) : Prop := ∃ (p ss : List Int) (z : Bool), args = [.d (.sl 1 (bytesR p)), .d (.sl 1 (intsR ss))] ∧ (ss.length ≤ 9223372036854775807 ∧ z = validB p ss) ∧ K (.d (bo z))
theorem cValid_ok : ∀ args K, cValid args K → ∃ x, PCall Tryd.prog 23 args x ∧ K x := by
  rintro _ K ⟨p, ss, _, rfl, ⟨hl, rfl⟩, h⟩; exact ⟨_, pcValid p ss hl, h⟩

/-! received -/
def recvS (p : List Int) : List Int → List Row → Int → List Row × Int × Bool
  | [], l, n => (l, n, true)
  | s :: ss, l, n => let r := recS l 0 s (encS p s)
    if r.2.2 != 0 then ([], 0, false) else recvS p ss r.1 (if r.2.1 then n + 1 else n)
theorem rec_len (l : List Row) (n s : Int) (d : List Int) : (recS l n s d).1.length ≤ l.length + 1 := by
  unfold recS; split
  · exact add_len _ _ _
  · simp
theorem encOk_of {p : List Int} {s : Int} (hp : p.length = 256) (hs : seedS s = true) : encOk p 0 s = true := by simp [encOk, hp, hs, show pageS 0 = true from rfl]
set_option maxRecDepth 10000 in
theorem wrR {Ev : Env Tryd.prog} {b : Ev.β} {Q : Exit → St Ev.β → Prop} (p ss : List Int) (hp : p.length = 256) (hl : ss.length ≤ 200) (hs : ∀ s ∈ ss, seedS s = true) : ∀ (rest : List Int) (k : Nat) (l : List Row) (n : Nat), ss.drop k = rest → k ≤ ss.length → l.length ≤ k → n ≤ k →
    ((recvS p rest l n).2.2 = true → Q (.exit 0) ⟨tmR (bytesR p) (intsR ss) (.d (.sl 2 (rowsR (recvS p rest l n).1))) (recvS p rest l n).2.1 ss.length, [], b⟩) →
    ((recvS p rest l n).2.2 = false → ∀ l n i, Q .ret ⟨retR (bytesR p) (intsR ss) l n i, [], b⟩) →
    WR Ev lpR (rest.length + 1) ⟨tmR (bytesR p) (intsR ss) (.d (.sl 2 (rowsR l))) n k, [], b⟩ Q
  | [], k, l, n, hd, hk, h1, h2, h3, h4 => by
    refine WR.ofMask [0, 1, 4, 5, 6, 7, 8, 9] mixed (CX.Ok.of (u := false) TRe_ok SCallsOk.nil) (k := 100) ?_
    show wpc _ _ _ _ _ _ _ (maskK 0 _ _)
    rw [r_round, intsR_len]
    have := drop_nil hd
    obtain rfl : k = ss.length := by omega
    exact BIf.f (by simp) (h3 rfl)
  | z :: rest, k, l, n, hd, hk, h1, h2, h3, h4 => by
    refine WR.ofMask [0, 1, 4, 5, 6, 7, 8, 9] mixed (CX.Ok.of (u := false) TRe_ok SCallsOk.nil) (k := 100) ?_
    show wpc _ _ _ _ _ _ _ (maskK 0 _ _)
    rw [r_round, intsR_len]
    obtain ⟨hk', hr, hd'⟩ := drop_cons hd
    have hz : seedS z = true := hs z (List.mem_of_getElem? hr)
    have eE : encR p 0 z = (encS p z, 0, z, 0) := by rw [encR, if_pos (encOk_of hp hz)]
    refine BIf.t (by simp; omega) (BIf.t (by simp; omega) (BIf.t (by simp) ⟨z, by simp [intsR, hr], p, 0, z, _, rfl, eE.symm, l, 0, z, encS p z, [], _, rfl, ⟨by omega, rfl⟩, BIf.f rfl (BIf.of (fun h5 => ?_) fun h5 => ?_)⟩))
    · have e : recvS p (z :: rest) l n = ([], 0, false) := by rw [recvS, if_pos h5]
      rw [e] at h4
      exact h4 rfl _ _ _
    · have e : recvS p (z :: rest) l n = recvS p rest (recS l 0 z (encS p z)).1 (if (recS l 0 z (encS p z)).2.1 then n + 1 else n) := by rw [recvS, if_neg (by rw [h5]; simp)]
      rw [e] at h3 h4
      have hlen := rec_len l 0 z (encS p z)
      rw [wrap_succ hk' (by omega)]
      refine BIf.of (fun h6 => ?_) fun h6 => ?_
      · rw [h6, if_pos rfl] at h3 h4
        rw [wrap_succ (n := 201) (by omega) (by omega)]
        exact wrR p ss hp hl hs rest (k + 1) _ (n + 1) hd' hk' (by omega) (by omega) h3 h4
      · rw [h6, if_neg (by simp)] at h3 h4
        exact wrR p ss hp hl hs rest (k + 1) _ n hd' hk' (by omega) (by omega) h3 h4
def wlR {β : Type} : WLT β := fun c tm hp b K => ∃ (p ss : List Int) (x : List Row × Int × Bool), c = .loop lpR ∧ maskTm [0, 1, 7, 8, 9] 0 tm = tmR (bytesR p) (intsR ss) (.d (.s (.slice none 0 0))) 0 0 ∧ hp = [] ∧ (p.length = 256 ∧ ss.length ≤ 200 ∧ (∀ s ∈ ss, seedS s = true) ∧ x = recvS p ss [] 0) ∧
  BIf x.2.2 (K (.exit 0) (tmR (bytesR p) (intsR ss) (.d (.sl 2 (rowsR x.1))) x.2.1 ss.length) [] b) (∀ l n i, K .ret (retR (bytesR p) (intsR ss) l n i) [] b)
theorem wlR_ok {Ev : Env Tryd.prog} (c : Code) (tm : List AV) (hp : List Blk) (b : Ev.β) (K : Exit → List AV → List Blk → Ev.β → Prop) (h : wlR c tm hp b K) : W Ev c ⟨tm, hp, b⟩ (fun e s => K e s.tm s.hp s.b) := by
  obtain ⟨p, ss, x, rfl, htm, rfl, ⟨hp, hl, hs, rfl⟩, hK⟩ := h
  refine W.cast (htm ▸ maskTm_le _ tm 0) (LeH.refl _) ?_
  refine W.cast (tm' := tmR (bytesR p) (intsR ss) (.d (.sl 2 (rowsR []))) 0 0) (LeL.at [_, _, _, _, _, _, _] _ (LeA.nilSl rfl)) (LeH.refl _) ?_
  exact W.rounds (wrR (Q := fun e s => K e s.tm s.hp s.b) p ss hp hl hs ss 0 [] 0 rfl (Nat.zero_le _) (Nat.le_refl _) (Nat.le_refl _)
    (fun h => by rw [show (recvS p ss [] 0).2.2 = true from h] at hK; exact hK) fun h => by rw [show (recvS p ss [] 0).2.2 = false from h] at hK; exact hK)
def recvA (x : List Row × Int × Bool) : AV := .tup [.d (.sl 2 (rowsR x.1)), .d (i64 x.2.1), .d (bo x.2.2)]
theorem recvS_false (p : List Int) : ∀ (ss : List Int) (l : List Row) (n : Int), (recvS p ss l n).2.2 = false → recvS p ss l n = ([], 0, false)
  | [], l, n, h => by simp [recvS] at h
  | s :: ss, l, n, h => by
    rw [recvS] at h ⊢
    split
    · rfl
    · rename_i h2; rw [if_neg h2] at h; exact recvS_false p ss _ _ h
section
variable {β : Type} (y : YieldT β) (b : β) (R : AV → β → Prop)
theorem received_nf (ps ss : List (List Dv)) : wpFn Tryd.prog ⟨TRe, [], wlR, y, false⟩ 100 Tryd.f24 [.d (.sl 1 ps), .d (.sl 1 ss)] b R = (
  ∃ (p1 ss1 : List Int) (x : List Row × Int × Bool), Code.loop lpR = .loop lpR ∧ tmR ps ss (.d (.s (.slice none 0 0))) 0 0 = tmR (bytesR p1) (intsR ss1) (.d (.s (.slice none 0 0))) 0 0 ∧ ([] : List Blk) = [] ∧ (p1.length = 256 ∧ ss1.length ≤ 200 ∧ (∀ s ∈ ss1, seedS s = true) ∧ x = recvS p1 ss1 [] 0) ∧
    BIf x.2.2 (R (.tup [.d (.sl 2 (rowsR x.1)), .d (i64 x.2.1), .d (bo true)]) b) (∀ (l : List (List Dv)) (n i : Int), R (.tup [.d (.s (.slice none 0 0)), .d (i64 0), .d (bo false)]) b)) := by kernel_rfl
end
theorem pcReceived (p ss : List Int) (hp : p.length = 256) (hl : ss.length ≤ 200) (hs : ∀ s ∈ ss, seedS s = true) : PCall Tryd.prog 24 [.d (.sl 1 (bytesR p)), .d (.sl 1 (intsR ss))] (recvA (recvS p ss [] 0)) := by
  refine PCall.ofFnL (n := 100) (u := false) (fun _ => wlR) mixed TRe_ok SCallsOk.nil (fun Ev => wlR_ok) Tryd.func24 (by rfl) (by rfl) fun Ev bb => ?_
  rw [received_nf]
  refine ⟨p, ss, _, rfl, rfl, rfl, ⟨hp, hl, hs, rfl⟩, BIf.of (fun h => ?_) fun h l n i => ?_⟩
  · unfold recvA; rw [h]; exact .rfl
  · unfold recvA; rw [recvS_false p ss [] 0 h]; exact nilTup _ _
def cReceived (args : List AV) (K : AV → Prop) : Prop := ∃ (p ss : List Int) (x : List Row × Int × Bool), args = [.d (.sl 1 (bytesR p)), .d (.sl 1 (intsR ss))] ∧ (p.length = 256 ∧ ss.length ≤ 200 ∧ (∀ s ∈ ss, seedS s = true) ∧ x = recvS p ss [] 0) ∧ K (recvA x)
theorem cReceived_ok : ∀ args K, cReceived args K → ∃ x, PCall Tryd.prog 24 args x ∧ K x := by
  rintro _ K ⟨p, ss, _, rfl, ⟨h1, h2, h3, rfl⟩, h⟩; exact ⟨_, pcReceived p ss h1 h2 h3, h⟩

/-! example -/
def exPage (n : Nat) : List Int := (List.range n).map fun i => ((i / 16 : Nat) : Int)
theorem exPage_succ (n : Nat) : exPage (n + 1) = exPage n ++ [((n / 16 : Nat) : Int)] := by simp [exPage, List.range_succ]
set_option maxRecDepth 10000 in
theorem wrX {Ev : Env Tryd.prog} {b : Ev.β} {Q : Exit → St Ev.β → Prop} (h : Q (.exit 0) ⟨tmX (.own 5 1 (bytesR (exPage 256))) 256, [], b⟩) : ∀ (n k : Nat), k + n = 256 → WR Ev lpE (n + 1) ⟨tmX (.own 5 1 (bytesR (exPage k))) k, [], b⟩ Q
  | 0, k, hk => by
    refine WR.ofMask [1, 2] mixed (CX.Ok.of (u := false) CallsOk.nil SCallsOk.nil) (k := 100) ?_
    show wpc _ _ _ _ _ _ _ (maskK 0 _ _)
    rw [x_round]
    obtain rfl : k = 256 := by omega
    exact BIf.f (by simp) h
  | n + 1, k, hk => by
    refine WR.ofMask [1, 2] mixed (CX.Ok.of (u := false) CallsOk.nil SCallsOk.nil) (k := 100) ?_
    show wpc _ _ _ _ _ _ _ (maskK 0 _ _)
    rw [x_round, bytesR_len]
    refine BIf.t (by simp; omega) (BIf.t (by simp [exPage]; omega) ?_)
    rw [wrap_succ (n := 256) (by omega) (by omega)]
    have e1 : Int.tdiv (k : Int) 16 = ((k / 16 : Nat) : Int) := rfl
    rw [e1, wrap_i64 (by omega) (by omega), wrap_u8 (by omega) (by omega)]
    have e2 : bytesR (exPage k) ++ [[u8 ((k / 16 : Nat) : Int)]] = bytesR (exPage (k + 1)) := by rw [exPage_succ]; simp [bytesR]
    rw [e2]
    exact wrX h n (k + 1) (by omega)
def wlX {β : Type} : WLT β := fun c tm hp b K => ∃ (q : List Int), c = .loop lpE ∧ maskTm [1, 2] 0 tm = tmX (.d (.s (.slice none 0 0))) 0 ∧ hp = [] ∧ q = exPage 256 ∧ K (.exit 0) (tmX (.own 5 1 (bytesR q)) 256) [] b
theorem wlX_ok {Ev : Env Tryd.prog} (c : Code) (tm : List AV) (hp : List Blk) (b : Ev.β) (K : Exit → List AV → List Blk → Ev.β → Prop) (h : wlX c tm hp b K) : W Ev c ⟨tm, hp, b⟩ (fun e s => K e s.tm s.hp s.b) := by
  obtain ⟨q, rfl, htm, rfl, rfl, hK⟩ := h
  refine W.cast (htm ▸ maskTm_le _ tm 0) (LeH.refl _) ?_
  refine W.cast (tm' := tmX (.own 5 1 (bytesR (exPage 0))) 0) (LeL.at [_] _ (LeA.nilOwn rfl)) (LeH.refl _) ?_
  exact W.rounds (wrX (Q := fun e s => K e s.tm s.hp s.b) hK 256 0 rfl)
section
variable {β : Type} (y : YieldT β) (b : β) (R : AV → β → Prop)
theorem example_nf : wpFn Tryd.prog ⟨[], [], wlX, y, false⟩ 100 Tryd.f27 [] b R = (∃ (q : List Int), Code.loop lpE = .loop lpE ∧ tmX (.d (.s (.slice none 0 0))) 0 = tmX (.d (.s (.slice none 0 0))) 0 ∧ ([] : List Blk) = [] ∧ q = exPage 256 ∧ R (.d (.sl 1 (bytesR q))) b) := by kernel_rfl
end
theorem pcExample : PCall Tryd.prog 27 [] (.d (.sl 1 (bytesR (exPage 256)))) := by
  refine PCall.ofFnW (n := 100) (u := false) (fun _ => wlX) mixed CallsOk.nil SCallsOk.nil (fun Ev => wlX_ok) Tryd.func27 (by rfl) (by rfl) fun Ev bb => ?_
  rw [example_nf]
  exact ⟨_, rfl, rfl, rfl, rfl, rfl⟩
def cExample (args : List AV) (K : AV → Prop) : Prop := ∃ q, args = [] ∧ q = exPage 256 ∧ K (.d (.sl 1 (bytesR q)))
theorem cExample_ok : ∀ args K, cExample args K → ∃ x, PCall Tryd.prog 27 args x ∧ K x := by
  rintro _ K ⟨_, rfl, rfl, h⟩; exact ⟨_, pcExample, h⟩
end Go.Proofs.YtkjmhfbjdeidjaaDoor.Am

namespace Go.Proofs.YtkjmhfbjdeidjaaDoor.Am
set_option linter.unusedVariables false
open Go Go.RowKit Go.Proofs

/-! ### what is coded is the sum of the blocks in the set -/
theorem tz_at {v i : Nat} (hv : v < 65536) (hi : i < 16) (hlow : ∀ j, j < i → v.testBit j = false) : ((i : Int) == tzS (v : Int)) = v.testBit i ∧ (v.testBit i = true → ∃ m, v = 2 ^ (i + 1) * m + 2 ^ i) := by
  unfold tzS
  rw [Int.toNat_natCast]
  by_cases h0 : v = 0
  · subst h0
    rw [show Lib.ctz 64 0 = 64 from rfl]
    refine ⟨?_, fun h => by simp at h⟩
    simp; omega
  · have e : Lib.ctz 64 v = Lib.ctzFrom 64 v := by unfold Lib.ctz; rw [if_neg h0]
    obtain ⟨m, h1, h2⟩ := Lib.ctzFrom_spec 64 v (by omega) (by omega)
    rw [e]
    generalize Lib.ctzFrom 64 v = c at h1 h2
    have h3 : v = 2 ^ (c + 1) * m + 2 ^ c := by rw [h1, Nat.pow_succ, Nat.mul_add, Nat.mul_one, Nat.mul_assoc]
    have hp : 2 ^ c < 2 ^ (c + 1) := Nat.pow_lt_pow_right (by omega) (by omega)
    have hb : ∀ j, v.testBit j = if j < c + 1 then (2 ^ c).testBit j else m.testBit (j - (c + 1)) := fun j => by rw [h3, Nat.testBit_two_pow_mul_add m hp j]
    have hc : v.testBit c = true := by rw [hb, if_pos (by omega)]; simp
    have hl : ∀ j, j < c → v.testBit j = false := fun j hj => by rw [hb, if_pos (by omega), Nat.testBit_two_pow]; simp; omega
    have hci : (c = i) = (v.testBit i = true) := by
      refine propext ⟨fun h => h ▸ hc, fun h => ?_⟩
      rcases Nat.lt_trichotomy c i with h4 | h4 | h4
      · rw [hlow c h4] at hc; cases hc
      · exact h4
      · rw [hl i h4] at h; cases h
    refine ⟨?_, fun h => ?_⟩
    · rw [Bool.eq_iff_iff, beq_iff_eq, ← hci]; omega
    · have := hci.mpr h; subst this; exact ⟨m, h3⟩
theorem ofInt64_nat {v : Nat} : BitVec.ofInt 64 (v : Int) = BitVec.ofNat 64 v := BitVec.ofInt_natCast ..
theorem clear_nat {v : Nat} (h0 : 1 ≤ v) (h1 : v < 65536) : clearS (v : Int) = ((v &&& (v - 1) : Nat) : Int) := by
  unfold clearS andU
  have e : IntKind.wrap .u64 ((v : Int) - 1) = ((v - 1 : Nat) : Int) := by rw [wrap_u64 (by omega) (by omega)]; omega
  rw [e, ofInt64_nat, ofInt64_nat, ← BitVec.ofNat_and, BitVec.toNat_ofNat]
  have : v &&& (v - 1) < 65536 := Nat.lt_of_le_of_lt Nat.and_le_left h1
  rw [Nat.mod_eq_of_lt (by omega), wrap_u64 (by omega) (by omega)]
theorem clear_bits {v i m : Nat} (h : v = 2 ^ (i + 1) * m + 2 ^ i) (j : Nat) : (v &&& (v - 1)).testBit j = (decide (i < j) && v.testBit j) := by
  have hp : 2 ^ i < 2 ^ (i + 1) := Nat.pow_lt_pow_right (by omega) (by omega)
  have hp0 : 0 < 2 ^ i := Nat.two_pow_pos i
  have e : v - 1 = 2 ^ (i + 1) * m + (2 ^ i - 1) := by omega
  rw [Nat.testBit_and, e, Nat.testBit_two_pow_mul_add m (by omega) j, h, Nat.testBit_two_pow_mul_add m hp j]
  by_cases hj : j < i + 1
  · rw [if_pos hj, if_pos hj, Nat.testBit_two_pow, Nat.testBit_two_pow_sub_one]
    rw [show decide (i < j) = false by simp; omega, Bool.false_and]
    by_cases h2 : i = j
    · subst h2; simp
    · simp [h2]
  · rw [if_neg hj, if_neg hj, show decide (i < j) = true by simp; omega]; simp
theorem xorL_congr {p p' q q' : List Int} (h1 : ∀ i, i < 16 → nth p i = nth p' i) (h2 : ∀ i, i < 16 → nth q i = nth q' i) : xorL p q = xorL p' q' :=
  List.map_congr_left fun i hi => by rw [h1 i (List.mem_range.1 hi), h2 i (List.mem_range.1 hi)]
theorem nth_blkS (p : List Int) {i k : Nat} (h : k < 16) : nth (blkS p i) k = nth p (16 * i + k) := by
  simp [nth, blkS, List.getD, h, List.getElem?_drop]
theorem enc_fold (p : List Int) (S : Nat) (hS : S < 65536) : ∀ (n k : Nat) (acc acc' : List Int) (v : Nat), k + n = 16 → (∀ i, i < 16 → nth acc i = nth acc' i) → (∀ j, v.testBit j = (decide (k ≤ j) && S.testBit j)) →
    ∀ i, i < 16 → nth ((List.range' k n).foldl (encStep p) (acc, (v : Int))).1 i = nth ((List.range' k n).foldl (stepM p (S : Int)) acc') i
  | 0, k, acc, acc', v, hk, ha, hv => ha
  | n + 1, k, acc, acc', v, hk, ha, hv => by
    have hv16 : v < 65536 := by
      have : v < 2 ^ 16 := by
        refine Nat.lt_pow_two_of_testBit v fun j hj => ?_
        rw [hv]
        have : S.testBit j = false := Nat.testBit_lt_two_pow (Nat.lt_of_lt_of_le hS (by rw [show (65536 : Nat) = 2 ^ 16 from rfl]; exact Nat.pow_le_pow_right (by omega) hj))
        rw [this, Bool.and_false]
      exact this
    obtain ⟨h1, h2⟩ := tz_at hv16 (show k < 16 by omega) fun j hj => by rw [hv, show decide (k ≤ j) = false by simp; omega, Bool.false_and]
    have hk' : v.testBit k = S.testBit k := by rw [hv]; simp
    rw [List.range'_succ, List.foldl_cons, List.foldl_cons]
    have hb : bitT (S : Int) k = S.testBit k := by rw [bitT_testBit (by omega) (by omega)]; rfl
    unfold encStep stepM
    rw [h1, hk', hb]
    cases hs : S.testBit k with
    | true =>
      obtain ⟨m, hm⟩ := h2 (hk'.trans hs)
      have hv1 : 1 ≤ v := by have := Nat.two_pow_pos k; omega
      simp only [if_true]
      rw [clear_nat hv1 hv16]
      refine enc_fold p S hS n (k + 1) _ _ _ (by omega) (fun i hi => ?_) fun j => ?_
      · rw [xorL_congr ha fun i hi => (nth_blkS p hi).trans (nth_rowN hi).symm]
      · rw [clear_bits hm, hv]
        by_cases h3 : k < j
        · simp [h3, Nat.le_of_lt h3, Nat.succ_le_of_lt h3]
        · simp [h3, show ¬ k + 1 ≤ j by omega]
    | false =>
      simp only [Bool.false_eq_true, if_false]
      refine enc_fold p S hS n (k + 1) _ _ _ (by omega) ha fun j => ?_
      rw [hv]
      by_cases h3 : k = j
      · subst h3; simp [hs]
      · by_cases h4 : k ≤ j
        · simp [h4, show k + 1 ≤ j by omega]
        · simp [h4, show ¬ k + 1 ≤ j by omega]
theorem enc_sum {p : List Int} {s : Int} (hs : seedS s = true) : encS p s = sumB p (setS s) := by
  obtain ⟨h0, h1⟩ := setS_range hs
  obtain ⟨S, hS⟩ : ∃ S : Nat, setS s = S := ⟨(setS s).toNat, by omega⟩
  rw [hS] at h0 h1
  unfold encS sumB encFold
  rw [hS, List.range_eq_range']
  refine list16 (b16_len _) ?_ fun i hi => ?_
  · have := sumB_len p (S : Int); unfold sumB at this; rwa [List.range_eq_range'] at this
  · rw [nth_b16 hi]
    refine enc_fold p S (by omega) 16 0 [] (List.replicate 16 0) S rfl (fun i hi => ?_) (fun j => by simp) i hi
    show 0 = _
    unfold nth; rw [List.getD_eq_getElem?_getD, List.getElem?_replicate]; split <;> rfl

/-! ### what is received -/
theorem rec_sum {p : List Int} {s : Int} (hs : seedS s = true) (l : List Row) : recS l 0 s (encS p s) = addS l (setS s) (sumB p (setS s)) := by
  rw [enc_sum hs, recS, if_pos]
  simp [recOk, hs, sumB_len, show pageS 0 = true from rfl]
/-- how many rows there are behind -/
theorem add_count {B : List Int} {l : List Row} (h : Tru B l) {m : Int} (h0 : 1 ≤ m) (h1 : m < 65536) :
    (addS l m (sumB B m)).2.2 = 0 ∧ Tru B (addS l m (sumB B m)).1 ∧ ((addS l m (sumB B m)).2.1 = false → (addS l m (sumB B m)).1 = l) ∧ (addS l m (sumB B m)).1.length = l.length + (if (addS l m (sumB B m)).2.1 then 1 else 0) := by
  obtain ⟨g1, g2⟩ := truth_add h h0 h1
  refine ⟨g1, g2, ?_⟩
  rcases add_law h.good ⟨h0, h1⟩ (sumB_len B m) (sumB_canon B m) with ⟨h2, h3, h4⟩ | ⟨_, h3⟩ | ⟨_, x, hx, h3, hG, _, hv, _, hc⟩
  · rw [h4] at g1; cases g1
  · rw [h3]; exact ⟨fun _ => rfl, rfl⟩
  · rw [h3]; exact ⟨fun h => (by cases h), ins_len x l⟩
def masks (ss : List Int) : List Int := ss.map setS
theorem masks_bd {ss : List Int} (hs : ∀ s ∈ ss, seedS s = true) : ∀ x ∈ masks ss, 0 ≤ x ∧ x < 65536 := by
  intro x hx
  obtain ⟨s, h, rfl⟩ := List.mem_map.1 hx
  have := setS_range (hs s h); omega
theorem recv_all {p : List Int} : ∀ {ss : List Int} {l : List Row} {n : Int}, (∀ s ∈ ss, seedS s = true) → Tru p l →
    (recvS p ss l n).1 = (allS p (masks ss) l).1 ∧ (recvS p ss l n).2.2 = true ∧ Tru p (recvS p ss l n).1 ∧ (recvS p ss l n).2.1 - n = ((recvS p ss l n).1.length : Int) - l.length
  | [], l, n, hs, ht => ⟨rfl, rfl, ht, by simp [recvS]⟩
  | s :: ss, l, n, hs, ht => by
    have h1 := hs s (List.mem_cons_self ..)
    obtain ⟨b0, b1⟩ := setS_range h1
    obtain ⟨g1, g2, g3, g4⟩ := add_count ht b0 (show setS s < 65536 by omega)
    have e : recvS p (s :: ss) l n = recvS p ss (addS l (setS s) (sumB p (setS s))).1 (if (addS l (setS s) (sumB p (setS s))).2.1 then n + 1 else n) := by
      rw [recvS, rec_sum h1, if_neg (by rw [g1]; simp)]
    have e2 : allS p (masks (s :: ss)) l = allS p (masks ss) (addS l (setS s) (sumB p (setS s))).1 := by
      show allS p (setS s :: masks ss) l = _
      rw [allS, if_neg (by simp; omega)]
      dsimp only
      rw [if_neg (by rw [g1]; simp)]
    obtain ⟨i1, i2, i3, i4⟩ := recv_all (n := if (addS l (setS s) (sumB p (setS s))).2.1 then n + 1 else n) (fun x hx => hs x (List.mem_cons_of_mem _ hx)) g2
    rw [e, e2]
    refine ⟨i1, i2, i3, ?_⟩
    rw [g4] at i4
    split at i4 <;> rename_i h5 <;> simp only [h5] at i4 ⊢ <;> simp at i4 ⊢ <;> omega
end Go.Proofs.YtkjmhfbjdeidjaaDoor.Am

namespace Go.Proofs.YtkjmhfbjdeidjaaDoor.Am
set_option linter.unusedVariables false
open Go Go.RowKit Go.Proofs

/-! ### contracts that take literals too -/
def cReceivedF (args : List AV) (K : AV → Prop) : Prop := match args with
  | [_, .full _ _] => ∃ (p ss : List Int) (x : List Row × Int × Bool), args = [.d (.sl 1 (bytesR p)), .full 1 (intsR ss)] ∧ (p.length = 256 ∧ ss.length ≤ 200 ∧ (∀ s ∈ ss, seedS s = true) ∧ x = recvS p ss [] 0) ∧ K (recvA x)
  | _ => cReceived args K
theorem cReceivedF_ok : ∀ args K, cReceivedF args K → ∃ x, PCall Tryd.prog 24 args x ∧ K x := by
  intro args K h
  unfold cReceivedF at h
  split at h
  · obtain ⟨p, ss, _, e, ⟨h1, h2, h3, rfl⟩, h⟩ := h
    rw [e]
    exact ⟨_, PCall.leArgsV (.cons .rfl (.cons .full .nil)) (pcReceived p ss h1 h2 h3), h⟩
  · exact cReceived_ok _ _ h
def cBytesF (args : List AV) (K : AV → Prop) : Prop := match args with
  | [_, .full _ _] => ∃ (p q : List Int) (r : Bool), args = [.d (.sl 1 (bytesR p)), .full 1 (bytesR q)] ∧ p.length ≤ 9223372036854775807 ∧ r = (p == q) ∧ K (.d (bo r))
  | _ => c19 args K
theorem cBytesF_ok : ∀ args K, cBytesF args K → ∃ x, PCall Tryd.prog 22 args x ∧ K x := by
  intro args K h
  unfold cBytesF at h
  split at h
  · obtain ⟨p, q, _, e, h1, rfl, h⟩ := h
    rw [e]
    exact ⟨_, PCall.leArgsV (.cons .rfl (.cons .full .nil)) (pc19 p q h1), h⟩
  · exact c19_ok _ _ h
def cEncodeF (args : List AV) (K : AV → Prop) : Prop := match args with
  | [.d (.s _), _, _] => ∃ (n s : Int), args = [nilS, .d (i64 n), .d (i64 s)] ∧ K (codeB ([], 0, 0, 1))
  | _ => cEncodeB args K
theorem cEncodeF_ok : ∀ args K, cEncodeF args K → ∃ x, PCall Tryd.prog 12 args x ∧ K x := by
  intro args K h
  unfold cEncodeF at h
  split at h
  · obtain ⟨n, s, e, h⟩ := h
    rw [e]
    exact ⟨_, pcEncode0 n s, h⟩
  · exact cEncodeB_ok _ _ h
def TH : List (Nat × (List AV → (AV → Prop) → Prop)) := [(27, cExample), (12, cEncodeF), (24, cReceivedF), (16, cPage), (18, cSet), (22, cBytesF)]
theorem TH_ok : CallsOk Tryd.prog TH := CallsOk.cons cExample_ok (CallsOk.cons cEncodeF_ok (CallsOk.cons cReceivedF_ok (CallsOk.cons cPage_ok (CallsOk.cons cSet_ok (CallsOk.cons cBytesF_ok CallsOk.nil)))))

/-! ### head -/
section
variable {β : Type} (wl : WLT β) (y : YieldT β) (b : β) (R : AV → β → Prop)
theorem head_nf  : wpFn Tryd.prog ⟨TH, [], wl, y, false⟩ 200 Tryd.f10 [] b R = ( ∃ (q0 : List Int), ([] : List AV) = [] ∧ q0 = exPage 256 ∧ ∃ (p1 : List Int), ∃ (n2 : Int), ∃ (s3 : Int), ∃ (x4 : List Int × Int × Int × Int), [AV.d (Dv.sl 1 (bytesR q0)), AV.d (i64 2), AV.d (i64 3)] = [AV.d (Dv.sl 1 (bytesR p1)), AV.d (i64 n2), AV.d (i64 s3)] ∧ x4 = encR p1 n2 s3 ∧ ∃ (q5 : List Int), ([] : List AV) = [] ∧ q5 = exPage 256 ∧ ∃ (p6 : List Int), ∃ (ss7 : List Int), ∃ (x8 : List Row × Int × Bool), [AV.d (Dv.sl 1 (bytesR q5)), AV.full 1 [[i64 0], [i64 1], [i64 2], [i64 3], [i64 4], [i64 5], [i64 6], [i64 7], [i64 8], [i64 9], [i64 10], [i64 11], [i64 12], [i64 13], [i64 14]]] = [AV.d (Dv.sl 1 (bytesR p6)), AV.full 1 (intsR ss7)] ∧ (List.length p6 = 256 ∧ List.length ss7 ≤ 200 ∧ (∀ (s : Int), s ∈ ss7 → seedS s = true) ∧ x8 = recvS p6 ss7 [] 0) ∧ ∃ (l9 : List Row), ∃ (x10 : List Int × Bool), [AV.d (Dv.sl 2 (rowsR (Prod.fst x8)))] = [AV.d (Dv.sl 2 (rowsR l9))] ∧ (List.length l9 ≤ 9223372036854775807 ∧ x10 = pagesS l9) ∧ ∃ (q11 : List Int), ([] : List AV) = [] ∧ q11 = exPage 256 ∧ ∃ (p12 : List Int), ∃ (ss13 : List Int), ∃ (x14 : List Row × Int × Bool), [AV.d (Dv.sl 1 (bytesR q11)), AV.full 1 [[i64 15], [i64 14], [i64 13], [i64 12], [i64 11], [i64 10], [i64 9], [i64 8], [i64 7], [i64 6], [i64 5], [i64 4], [i64 3], [i64 2], [i64 1], [i64 0]]] = [AV.d (Dv.sl 1 (bytesR p12)), AV.full 1 (intsR ss13)] ∧ (List.length p12 = 256 ∧ List.length ss13 ≤ 200 ∧ (∀ (s : Int), s ∈ ss13 → seedS s = true) ∧ x14 = recvS p12 ss13 [] 0) ∧ ∃ (l15 : List Row), ∃ (x16 : List Int × Bool), [AV.d (Dv.sl 2 (rowsR (Prod.fst x14)))] = [AV.d (Dv.sl 2 (rowsR l15))] ∧ (List.length l15 ≤ 9223372036854775807 ∧ x16 = pagesS l15) ∧ ∃ (n17 : Int), ∃ (s18 : Int), [AV.d (Dv.s (Value.slice none 0 0)), AV.d (i64 0), AV.d (i64 0)] = [AV.d (Dv.s (Value.slice none 0 0)), AV.d (i64 n17), AV.d (i64 s18)] ∧ ∃ (x19 : Int), ∃ (z20 : Int), [AV.d (i64 0)] = [AV.d (i64 x19)] ∧ z20 = setS x19 ∧ BIf (z20 == 1) (∃ (x21 : Int), ∃ (z22 : Int), [AV.d (i64 3)] = [AV.d (i64 x21)] ∧ z22 = setS x21 ∧ BIf (z22 == 8) (∃ (x23 : Int), ∃ (z24 : Int), [AV.d (i64 15)] = [AV.d (i64 x23)] ∧ z24 = setS x23 ∧ BIf (z24 == 32768) (∃ (x25 : Int), ∃ (z26 : Int), [AV.d (i64 (-1 : Int))] = [AV.d (i64 x25)] ∧ z26 = setS x25 ∧ BIf (z26 == 0) (BIf (Prod.snd (Prod.snd (Prod.snd x4)) == 0) (BIf (Prod.fst (Prod.snd x4) == 2) (BIf (Prod.fst (Prod.snd (Prod.snd x4)) == 3) (∃ (p27 : List Int), ∃ (q28 : List Int), ∃ (r29 : Bool), [AV.d (Dv.sl 1 (bytesR (Prod.fst x4))), AV.full 1 [[u8 3], [u8 3], [u8 3], [u8 3], [u8 3], [u8 3], [u8 3], [u8 3], [u8 3], [u8 3], [u8 3], [u8 3], [u8 3], [u8 3], [u8 3], [u8 3]]] = [AV.d (Dv.sl 1 (bytesR p27)), AV.full 1 (bytesR q28)] ∧ List.length p27 ≤ 9223372036854775807 ∧ r29 = (p27 == q28) ∧ BIf r29 (BIf (Prod.snd (Prod.snd x8)) (BIf (Prod.fst (Prod.snd x8) == 15) (BIf (!Prod.snd x10) (BIf (Prod.snd (Prod.snd x14)) (BIf (Prod.fst (Prod.snd x14) == 16) (BIf (Prod.snd x16) (∃ (q30 : List Int), ([] : List AV) = [] ∧ q30 = exPage 256 ∧ ∃ (p31 : List Int), ∃ (q32 : List Int), ∃ (r33 : Bool), [AV.d (Dv.sl 1 (bytesR (Prod.fst x16))), AV.d (Dv.sl 1 (bytesR q30))] = [AV.d (Dv.sl 1 (bytesR p31)), AV.d (Dv.sl 1 (bytesR q32))] ∧ List.length p31 ≤ 9223372036854775807 ∧ r33 = (p31 == q32) ∧ R (AV.d (bo r33)) b) (R (AV.d (bo false)) b)) (R (AV.d (bo false)) b)) (R (AV.d (bo false)) b)) (R (AV.d (bo false)) b)) (R (AV.d (bo false)) b)) (R (AV.d (bo false)) b)) (R (AV.d (bo false)) b)) (R (AV.d (bo false)) b)) (R (AV.d (bo false)) b)) (R (AV.d (bo false)) b)) (R (AV.d (bo false)) b)) (R (AV.d (bo false)) b)) (R (AV.d (bo false)) b)) (R (AV.d (bo false)) b)) := by kernel_rfl
end
theorem set_facts : setS 0 = 1 ∧ setS 3 = 8 ∧ setS 15 = 32768 ∧ setS (-1) = 0 := by refine ⟨?_, ?_, ?_, ?_⟩ <;> decide +kernel
theorem head_enc : encR (exPage 256) 2 3 = (List.replicate 16 3, 2, 3, 0) := by decide +kernel
def ss15 : List Int := [0, 1, 2, 3, 4, 5, 6, 7, 8, 9, 10, 11, 12, 13, 14]
def ss16 : List Int := [15, 14, 13, 12, 11, 10, 9, 8, 7, 6, 5, 4, 3, 2, 1, 0]
theorem head_rec1 : (recvS (exPage 256) ss15 [] 0).2 = (15, true) := by decide +kernel
theorem head_page1 : (pagesS (recvS (exPage 256) ss15 [] 0).1).2 = false := by decide +kernel
theorem head_rec2 : (recvS (exPage 256) ss16 [] 0).2 = (16, true) := by decide +kernel
theorem head_page2 : pagesS (recvS (exPage 256) ss16 [] 0).1 = (exPage 256, true) := by decide +kernel
theorem recvS_len (p : List Int) : ∀ (ss : List Int) (l : List Row) (n : Int), (recvS p ss l n).1.length ≤ l.length + ss.length
  | [], l, n => by simp [recvS]
  | s :: ss, l, n => by
    rw [recvS]
    split
    · simp
    · have h1 := recvS_len p ss (recS l 0 s (encS p s)).1 (if (recS l 0 s (encS p s)).2.1 then n + 1 else n)
      have h2 := rec_len l 0 s (encS p s)
      simp only [List.length_cons]; omega
theorem exPage_len (n : Nat) : (exPage n).length = n := by simp [exPage]
set_option maxRecDepth 100000 in
theorem pcHead : PCall Tryd.prog 10 [] (.d (bo true)) := by
  refine PCall.ofFn (n := 200) (u := false) mixed TH_ok SCallsOk.nil Tryd.func10 (by rfl) (by rfl) fun Ev bb => ?_
  rw [head_nf]
  obtain ⟨s1, s2, s3, s4⟩ := set_facts
  have l1 : (recvS (exPage 256) ss15 [] 0).1.length ≤ 15 := recvS_len (exPage 256) ss15 [] 0
  have l2 : (recvS (exPage 256) ss16 [] 0).1.length ≤ 16 := recvS_len (exPage 256) ss16 [] 0
  have e1 := head_enc
  have e2 := head_rec1
  have e3 := head_page1
  have e4 := head_rec2
  have e5 := head_page2
  refine ⟨_, rfl, rfl, exPage 256, 2, 3, _, rfl, e1.symm, _, rfl, rfl, exPage 256, ss15, _, rfl, ⟨exPage_len _, by decide, by decide, rfl⟩, (recvS (exPage 256) ss15 [] 0).1, _, rfl, ⟨by omega, rfl⟩, _, rfl, rfl, exPage 256, ss16, _, rfl, ⟨exPage_len _, by decide, by decide, rfl⟩,
    (recvS (exPage 256) ss16 [] 0).1, _, rfl, ⟨by omega, rfl⟩, 0, 0, rfl, 0, _, rfl, rfl, BIf.t (by rw [s1]; rfl) ⟨3, _, rfl, rfl, BIf.t (by rw [s2]; rfl) ⟨15, _, rfl, rfl, BIf.t (by rw [s3]; rfl) ⟨-1, _, rfl, rfl, BIf.t (by rw [s4]; rfl) (BIf.t rfl (BIf.t rfl (BIf.t rfl
    ⟨List.replicate 16 3, List.replicate 16 3, _, rfl, by decide, rfl, BIf.t (by decide) (BIf.t (by rw [e2]) (BIf.t (by rw [e2]; rfl) (BIf.t (by rw [e3]; rfl) (BIf.t (by rw [e4]) (BIf.t (by rw [e4]; rfl) (BIf.t (by rw [e5]) ⟨exPage 256, rfl, rfl, exPage 256, exPage 256, _, ?_, ?_, rfl, ?_⟩))))))⟩)))⟩⟩⟩⟩
  · rw [e5]
  · rw [exPage_len]; omega
  · simp
def cHead (args : List AV) (K : AV → Prop) : Prop := args = [] ∧ K (.d (bo true))
theorem cHead_ok : ∀ args K, cHead args K → ∃ x, PCall Tryd.prog 10 args x ∧ K x := by
  rintro _ K ⟨rfl, h⟩; exact ⟨_, pcHead, h⟩
end Go.Proofs.YtkjmhfbjdeidjaaDoor.Am

namespace Go.Proofs.YtkjmhfbjdeidjaaDoor.Am
set_option linter.unusedVariables false
open Go Go.RowKit Go.Proofs
def TLw : List (Nat × (List AV → (AV → Prop) → Prop)) := [(10, cHead), (23, cValid), (24, cReceivedF), (16, cPage), (22, cBytesF), (12, cEncodeF), (14, cReceive), (25, cSeed), (18, cSet), (21, c18), (26, c25)]
theorem TLw_ok : CallsOk Tryd.prog TLw := CallsOk.cons cHead_ok (CallsOk.cons cValid_ok (CallsOk.cons cReceivedF_ok (CallsOk.cons cPage_ok (CallsOk.cons cBytesF_ok (CallsOk.cons cEncodeF_ok (CallsOk.cons cReceive_ok (CallsOk.cons cSeedR_ok (CallsOk.cons cSet_ok (CallsOk.cons c18_ok (CallsOk.cons c25_ok CallsOk.nil))))))))))
end Go.Proofs.YtkjmhfbjdeidjaaDoor.Am

namespace Go.Proofs.YtkjmhfbjdeidjaaDoor.Am
set_option linter.unusedVariables false
open Go Go.RowKit Go.Proofs

/-! ### SolveEnough -/
section
variable {β : Type} (wl : WLT β) (y : YieldT β) (b : β) (R : AV → β → Prop) (K : Exit → List AV → List Blk → β → Prop)
end

theorem sumS_len (l : List Row) (m : Int) : (sumS l m).1.length ≤ 16 := by
  unfold sumS
  split
  · simp
  · dsimp only
    split
    · simp
    · simp [b16_len]
theorem full_sum {l : List Row} (hg : Good l) (hb : ∀ r ∈ l, ∀ x ∈ r.2, 0 ≤ x ∧ x < 256) (hl : l.length = 16) {i : Nat} (hi : i < 16) : (sumS l (two i)).2 = true := by
  rw [← solved_sum hg hb hi]
  obtain ⟨r, hr, he⟩ := hg.full hl hi
  have hv := (validS_good l).2 hg
  unfold solvedS
  rw [decide_eq_false (by omega), decide_eq_false (by omega), hv, find_uniq hg hr hi he]; rfl

end Go.Proofs.YtkjmhfbjdeidjaaDoor.Am

namespace Go.Proofs.YtkjmhfbjdeidjaaDoor.Am
set_option linter.unusedVariables false
open Go Go.RowKit Go.Proofs

/-! ### plain laws of pages and rows -/
theorem sum_two {p : List Int} (hb : ∀ x ∈ p, 0 ≤ x ∧ x < 256) {i : Nat} (hi : i < 16) : sumB p (two i) = rowN p i := by
  obtain ⟨h0, h1⟩ := two_bd hi
  have hc : ∀ j, j < 16 → 0 ≤ nth (rowN p i) j ∧ nth (rowN p i) j < 256 := fun j hj => by
    rw [nth_rowN hj]
    unfold nth
    rw [List.getD_eq_getElem?_getD]
    cases h : p[16 * i + j]? with
    | none => simp
    | some x => exact hb x (List.mem_of_getElem? h)
  refine list16 (sumB_len _ _) (by simp [rowN]) fun j hj => ?_
  refine ofInt8_inj (sumB_canon' p (two i) j hj) (hc j hj) ?_
  refine BitVec.eq_of_getLsbD_eq fun k hk => ?_
  have := sumB_bits (B := p) (m := two i) (by omega) h1 (j := k) hj (List.range 16) (List.replicate 16 0)
  unfold sumB
  rw [this, nth_rowN hj]
  have e : nth (List.replicate 16 0) j = 0 := by unfold nth; rw [List.getD_eq_getElem?_getD, List.getElem?_replicate]; split <;> rfl
  rw [e]
  have key : ∀ (n : Nat), xorF (fun t => (two i).toNat.testBit t && cB p j k t) (List.range n) = (decide (i < n) && cB p j k i) := by
    have app : ∀ (f : Nat → Bool) (l l' : List Nat), xorF f (l ++ l') = (xorF f l ^^ xorF f l') := by
      intro f l l'
      induction l with
      | nil => simp [xorF]
      | cons a l ih => simp only [xorF, List.cons_append, List.foldr_cons] at ih ⊢; rw [ih, Bool.xor_assoc]
    intro n
    induction n with
    | zero => simp [xorF]
    | succ n ih =>
      rw [List.range_succ, app, ih]
      simp only [xorF, List.foldr_cons, List.foldr_nil, two_testBit, Bool.xor_false]
      by_cases h1 : i = n
      · subst h1; simp
      · by_cases h2 : i < n
        · simp [h1, h2, Nat.lt_succ_of_lt h2]
        · simp [h1, h2, show ¬ i < n + 1 by omega]
  rw [key, decide_eq_true hi]
  simp [cB]
section
variable {p : List Int} {l : List Row}
theorem solved_of (ht : Tru p l) {i : Nat} (hi : i < 16) (hb : ∀ x ∈ p, 0 ≤ x ∧ x < 256) (h : (solvedS l (i : Int)).2 = true) : solvedS l (i : Int) = (rowN p i, true) := by
  obtain ⟨h0, h1⟩ := two_bd hi
  rw [solved_sum ht.good ht.bytes hi] at h ⊢
  rw [truth_sum ht.good ht.tr (by omega) h1 h, sum_two hb hi]
theorem rows_join (hp : p.length = 256) : (List.range' 0 16).flatMap (rowN p) = p := by
  have key : ∀ n, n ≤ 16 → (List.range' 0 n).flatMap (rowN p) = p.take (16 * n) := by
    intro n
    induction n with
    | zero => intro _; simp
    | succ n ih =>
      intro hn
      rw [List.range'_concat, List.flatMap_append, ih (by omega)]
      simp only [Nat.zero_add, Nat.one_mul, List.flatMap_cons, List.flatMap_nil, List.append_nil]
      refine List.ext_getElem (by simp [rowN]; omega) fun i h1 h2 => ?_
      by_cases h3 : i < 16 * n
      · rw [List.getElem_append_left (by simp; omega)]; simp
      · rw [List.getElem_append_right (by simp; omega)]
        have h4 : i < p.length := by simp at h2; omega
        have e : 16 * n + (i - min (16 * n) p.length) = i := by simp [rowN] at h1; omega
        simp [rowN, nth, List.getD, e, h4]
  rw [key 16 (by omega), List.take_of_length_le (by omega)]
theorem falls_full : ∀ (n : Nat) {l : List Row}, (l.Pairwise fun a b => top b.1 < top a.1) → (∀ i, i < n → ∃ r ∈ l, top r.1 = i) → n ≤ l.length
  | 0, l, _, _ => Nat.zero_le _
  | n + 1, [], _, h => by obtain ⟨r, hr, _⟩ := h 0 (by omega); cases hr
  | n + 1, a :: l, hp, h => by
    obtain ⟨h1, h2⟩ := List.pairwise_cons.1 hp
    have := falls_full n h2 fun i hi => by
      obtain ⟨r, hr, hri⟩ := h i (by omega)
      rcases List.mem_cons.1 hr with rfl | hr
      · obtain ⟨s, hs, hsn⟩ := h n (by omega)
        rcases List.mem_cons.1 hs with rfl | hs
        · omega
        · have := h1 s hs; omega
      · exact ⟨r, hr, hri⟩
    simp only [List.length_cons]; omega
theorem solved_row (i : Nat) (hi : i < 16) (h : (solvedS l (i : Int)).2 = true) : ∃ r ∈ l, top r.1 = i := by
  unfold solvedS at h
  split at h
  · cases h
  · split at h
    · rename_i h2
      unfold findS at h2
      cases hf : l.find? fun r => r.1 == bit (i : Int) with
      | none => rw [hf] at h2; cases h2
      | some s =>
        have h3 := List.find?_some hf
        refine ⟨s, List.mem_of_find?_eq_some hf, ?_⟩
        have h3 : s.1 = two i := by rw [bit_two hi] at h3; simpa using h3
        rw [h3, top_two]
    · cases h
theorem pages_iff (ht : Tru p l) : (pagesS l).2 = decide (l.length = 16) := by
  rw [pagesS_eq]
  by_cases h : l.length = 16
  · rw [if_pos, decide_eq_true h]
    exact List.all_eq_true.2 fun i hi => by
      have hi : i < 16 := by simp [List.mem_range'_1] at hi; omega
      rw [solved_sum ht.good ht.bytes hi]
      exact full_sum ht.good ht.bytes h hi
  · rw [if_neg, decide_eq_false h]
    intro hh
    have h1 := falls_full 16 ht.good.falls fun i hi => solved_row i hi (List.all_eq_true.1 hh i (by simp [List.mem_range'_1]; omega))
    have h2 := ht.good.len
    omega
theorem pages_data (ht : Tru p l) (hp : p.length = 256) (hb : ∀ x ∈ p, 0 ≤ x ∧ x < 256) (h : (pagesS l).2 = true) : (pagesS l).1 = p := by
  rw [pagesS_eq] at h ⊢
  split
  · rename_i h2
    have e : (List.range' 0 16).flatMap (fun i : Nat => (solvedS l i).1) = (List.range' 0 16).flatMap (rowN p) := by
      rw [List.flatMap_def, List.flatMap_def]
      congr 1
      refine List.map_congr_left fun i hi => ?_
      have := solved_of ht (i := i) (by simp [List.mem_range'_1] at hi; omega) hb (List.all_eq_true.1 h2 i hi)
      rw [this]
    simp only [e, rows_join hp]
  · rename_i h2; rw [if_neg h2] at h; cases h
/-- what follows from the blocks themselves -/
theorem in_sum (hg : Good l) {m : Int} {b : List Int} (h0 : 0 ≤ m) (h1 : m < 65536) (h : InV l (vec (m, b))) : (sumS l m).2 = true := by
  have hv := (validS_good l).2 hg
  rw [sumS_def h0 h1 hv]
  have vU := vec_foldl (x := (m, [])) ⟨h0, h1⟩ hg.mask
  have bU := foldl_red_bd (l := l) (x := (m, [])) ⟨h0, h1⟩ hg.mask
  unfold InV at h
  rw [vec_split, foldV_vx, fold_bytes, ← vU] at h
  have : (l.foldl red (m, [])).1 = 0 := by
    refine vec_inl (x := (_, (l.foldl red (m, [])).2)) (y := (0, b)) bU.1 (Int.le_refl 0) ?_
    have h2 := congrArg (fun v => vx v (vec (0, b))) h
    simp only [vx_can] at h2
    rw [show z0 = fun _ => false from rfl, zero_vx] at h2
    exact h2
  simp [this]
end
theorem all_in {p ms : List Int} (hm : ∀ x ∈ ms, 0 ≤ x ∧ x < 65536) {m : Int} (h : m ∈ ms) (h0 : m ≠ 0) : InV (allS p ms []).1 (vec (m, sumB p m)) := by
  rw [in_all (Tru.nil p) hm (es := []) (fun v => Iff.rfl)]
  refine Sp.mem ?_
  simp only [List.append_nil, List.mem_reverse, eqsB, List.mem_map, List.mem_filter]
  exact ⟨m, ⟨h, by simpa using h0⟩, rfl⟩
theorem all_full {p ms : List Int} (hb : ∀ x ∈ p, 0 ≤ x ∧ x < 256) (hm : ∀ x ∈ ms, 0 ≤ x ∧ x < 65536) (h : ∀ i, i < 16 → two i ∈ ms) : (allS p ms []).1.length = 16 := by
  obtain ⟨_, ht⟩ := truth_all (Tru.nil p) hm
  have h1 := falls_full 16 ht.good.falls fun i hi => solved_row i hi (by
    obtain ⟨h0, h1⟩ := two_bd hi
    rw [solved_sum ht.good ht.bytes hi]
    exact in_sum ht.good (by omega) h1 (all_in hm (h i hi) (by omega)))
  have h2 := ht.good.len
  omega
theorem Sp.bits : ∀ {es : List Vc} {v : Vc} {i : Ix}, Sp es v → v i = true → ∃ e ∈ es, e i = true
  | [], v, i, h, hv => by rw [show v = z0 from h] at hv; cases hv
  | e :: es, v, i, h, hv => by
    rcases h with h | h
    · obtain ⟨f, hf, hi⟩ := Sp.bits h hv; exact ⟨f, List.mem_cons_of_mem _ hf, hi⟩
    · cases he : e i with
      | true => exact ⟨e, List.mem_cons_self .., he⟩
      | false =>
        obtain ⟨f, hf, hi⟩ := Sp.bits (i := i) h (by simp [vx, hv, he])
        exact ⟨f, List.mem_cons_of_mem _ hf, hi⟩
def thereS (ss : List Int) : Int := ss.foldl (fun a s => or64 a (setS s)) 0
theorem there_bits : ∀ (ss : List Int) (a : Int), (∀ s ∈ ss, seedS s = true) → 0 ≤ a → a < 65536 → (0 ≤ ss.foldl (fun a s => or64 a (setS s)) a ∧ ss.foldl (fun a s => or64 a (setS s)) a < 65536) ∧
    ∀ k, (ss.foldl (fun a s => or64 a (setS s)) a).toNat.testBit k = (a.toNat.testBit k || ss.any fun s => (setS s).toNat.testBit k)
  | [], a, _, h0, h1 => ⟨⟨h0, h1⟩, fun k => by simp⟩
  | s :: ss, a, hs, h0, h1 => by
    have hb := setS_range (hs s (List.mem_cons_self ..))
    have ho := or64_bd h0 h1 (b := setS s) (by omega) (by omega)
    obtain ⟨g1, g2⟩ := there_bits ss (or64 a (setS s)) (fun x hx => hs x (List.mem_cons_of_mem _ hx)) ho.1 ho.2
    refine ⟨g1, fun k => ?_⟩
    rw [List.foldl_cons, g2, or64_eq h0 h1 (by omega) (by omega), Int.toNat_natCast, Nat.testBit_or, List.any_cons, Bool.or_assoc]
theorem fresh_law {p ss : List Int} (hs : ∀ s ∈ ss, seedS s = true) {m : Int} (h0 : 1 ≤ m) (h1 : m < 65536) : or64 m (thereS ss) = thereS ss ∨ (addS (allS p (masks ss) []).1 m (sumB p m)).2.1 = true := by
  have hm := masks_bd hs
  obtain ⟨_, ht⟩ := truth_all (Tru.nil p) hm
  rcases add_law ht.good ⟨h0, h1⟩ (sumB_len p m) (sumB_canon p m) with ⟨h2, h3, _⟩ | ⟨h2, h3⟩ | ⟨_, x, hx, h3, _⟩
  · exact absurd (congrArg Prod.fst (truth_sum ht.good ht.tr (by omega) h1 h2)) h3
  · left
    have hi := sum_in ht.good (by omega) h1 h2
    rw [in_all (Tru.nil p) hm (es := []) (fun v => Iff.rfl)] at hi
    obtain ⟨hb, hk⟩ := there_bits ss 0 hs (Int.le_refl 0) (by omega)
    have hb : 0 ≤ thereS ss ∧ thereS ss < 65536 := hb
    rw [or64_eq (by omega) h1 hb.1 hb.2]
    have e : m.toNat ||| (thereS ss).toNat = (thereS ss).toNat := by
      refine Nat.eq_of_testBit_eq fun k => ?_
      rw [Nat.testBit_or]
      cases hmk : m.toNat.testBit k with
      | false => simp
      | true =>
        obtain ⟨e, he, hek⟩ := Sp.bits (i := .inl k) hi hmk
        simp only [List.append_nil, List.mem_reverse, eqsB, List.mem_map, List.mem_filter, masks] at he
        obtain ⟨m', ⟨⟨s, hs', rfl⟩, _⟩, rfl⟩ := he
        rw [show (thereS ss).toNat.testBit k = _ from hk k]
        have : (ss.any fun s => (setS s).toNat.testBit k) = true := List.any_eq_true.2 ⟨s, hs', hek⟩
        rw [this]; simp
    show (((m.toNat ||| (thereS ss).toNat : Nat)) : Int) = thereS ss
    rw [e]
    have := hb.1
    omega
  · right; rw [h3]
end Go.Proofs.YtkjmhfbjdeidjaaDoor.Am

namespace Go.Proofs.YtkjmhfbjdeidjaaDoor.Am
set_option linter.unusedVariables false
open Go Go.RowKit Go.Proofs

theorem validB_iff {p ss : List Int} (h : validB p ss = true) : p.length = 256 ∧ ss.length ≤ 100 ∧ ∀ s ∈ ss, seedS s = true := by
  simp only [validB, Bool.and_eq_true, decide_eq_true_eq, List.all_eq_true] at h
  exact ⟨h.2.1, h.2.2, fun s hs => h.1 s (by rw [List.take_of_length_le (by omega)]; exact hs)⟩
theorem recv_nil {p ss : List Int} (hs : ∀ s ∈ ss, seedS s = true) : (recvS p ss [] 0).1 = (allS p (masks ss) []).1 ∧ (recvS p ss [] 0).2.2 = true ∧ Tru p (recvS p ss [] 0).1 ∧ (recvS p ss [] 0).2.1 = ((recvS p ss [] 0).1.length : Int) := by
  obtain ⟨h1, h2, h3, h4⟩ := recv_all (n := 0) hs (Tru.nil p)
  exact ⟨h1, h2, h3, by simpa using h4⟩
theorem encR_of {p : List Int} {s : Int} (hp : p.length = 256) (hs : seedS s = true) : encR p 0 s = (encS p s, 0, s, 0) := by rw [encR, if_pos (encOk_of hp hs)]
theorem Tru.row_len {p : List Int} {l : List Row} (h : Tru p l) : ∀ r ∈ l, r.2.length ≤ 9223372036854775807 := fun r hr => by rw [h.good.len16 r hr]; omega

section
variable {β : Type} (wl : WLT β) (y : YieldT β) (b : β) (R : AV → β → Prop)
theorem f4_nf (ps ss : List (List Dv)) : wpFn Tryd.prog ⟨TLw, [], wl, y, false⟩ 200 Tryd.f4 [.d (.sl 1 ps), .d (.sl 1 ss)] b R = ( ([] : List AV) = [] ∧ ∃ (p0 : List Int), ∃ (ss1 : List Int), ∃ (z2 : Bool), [AV.d (Dv.sl 1 ps), AV.d (Dv.sl 1 ss)] = [AV.d (Dv.sl 1 (bytesR p0)), AV.d (Dv.sl 1 (intsR ss1))] ∧ (List.length ss1 ≤ 9223372036854775807 ∧ z2 = validB p0 ss1) ∧ BIf (!z2) (R (AV.d (bo true)) b) (∃ (p3 : List Int), ∃ (ss4 : List Int), ∃ (x5 : List Row × Int × Bool), [AV.d (Dv.sl 1 ps), AV.d (Dv.sl 1 ss)] = [AV.d (Dv.sl 1 (bytesR p3)), AV.d (Dv.sl 1 (intsR ss4))] ∧ (List.length p3 = 256 ∧ List.length ss4 ≤ 200 ∧ (∀ (s : Int), s ∈ ss4 → seedS s = true) ∧ x5 = recvS p3 ss4 [] (0 : Int)) ∧ ∃ (l6 : List Row), ∃ (x7 : List Int × Bool), [AV.d (Dv.sl 2 (rowsR (Prod.fst x5)))] = [AV.d (Dv.sl 2 (rowsR l6))] ∧ (List.length l6 ≤ 9223372036854775807 ∧ x7 = pagesS l6) ∧ BIf (Prod.snd (Prod.snd x5)) (BIf (!Prod.snd x7) (R (AV.d (bo true)) b) (∃ (p8 : List Int), ∃ (q9 : List Int), ∃ (r10 : Bool), [AV.d (Dv.sl 1 (bytesR (Prod.fst x7))), AV.d (Dv.sl 1 ps)] = [AV.d (Dv.sl 1 (bytesR p8)), AV.d (Dv.sl 1 (bytesR q9))] ∧ List.length p8 ≤ 9223372036854775807 ∧ r10 = (p8 == q9) ∧ R (AV.d (bo r10)) b)) (R (AV.d (bo false)) b))) := by kernel_rfl
theorem f5_nf (ps ss : List (List Dv)) (m : Int) : wpFn Tryd.prog ⟨TLw, [], wl, y, false⟩ 200 Tryd.f5 [.d (.sl 1 ps), .d (.sl 1 ss), .d (i64 m)] b R = ( ([] : List AV) = [] ∧ ∃ (p0 : List Int), ∃ (ss1 : List Int), ∃ (z2 : Bool), [AV.d (Dv.sl 1 ps), AV.d (Dv.sl 1 ss)] = [AV.d (Dv.sl 1 (bytesR p0)), AV.d (Dv.sl 1 (intsR ss1))] ∧ (List.length ss1 ≤ 9223372036854775807 ∧ z2 = validB p0 ss1) ∧ ∃ (x3 : Int), [AV.d (i64 m)] = [AV.d (i64 x3)] ∧ BIf (!z2) (R (AV.d (bo true)) b) (BIf (!seedS x3) (R (AV.d (bo true)) b) (∃ (p4 : List Int), ∃ (ss5 : List Int), ∃ (x6 : List Row × Int × Bool), [AV.d (Dv.sl 1 ps), AV.d (Dv.sl 1 ss)] = [AV.d (Dv.sl 1 (bytesR p4)), AV.d (Dv.sl 1 (intsR ss5))] ∧ (List.length p4 = 256 ∧ List.length ss5 ≤ 200 ∧ (∀ (s : Int), s ∈ ss5 → seedS s = true) ∧ x6 = recvS p4 ss5 [] (0 : Int)) ∧ ∃ (l7 : List Row), ∃ (x8 : List Int × Bool), [AV.d (Dv.sl 2 (rowsR (Prod.fst x6)))] = [AV.d (Dv.sl 2 (rowsR l7))] ∧ (List.length l7 ≤ 9223372036854775807 ∧ x8 = pagesS l7) ∧ BIf (!Prod.snd (Prod.snd x6)) (R (AV.d (bo false)) b) (BIf (decide (Prod.fst (Prod.snd x6) > (16 : Int))) (R (AV.d (bo false)) b) (BIf (!Prod.snd x8 == (Prod.fst (Prod.snd x6) == (16 : Int))) (R (AV.d (bo false)) b) (BIf (↑(List.length (rowsR (Prod.fst x6))) != Prod.fst (Prod.snd x6)) (R (AV.d (bo false)) b) (∃ (p9 : List Int), ∃ (n10 : Int), ∃ (s11 : Int), ∃ (x12 : List Int × Int × Int × Int), [AV.d (Dv.sl 1 ps), AV.d (i64 (0 : Int)), AV.d (i64 m)] = [AV.d (Dv.sl 1 (bytesR p9)), AV.d (i64 n10), AV.d (i64 s11)] ∧ x12 = encR p9 n10 s11 ∧ ∃ (l13 : List Row), ∃ (n14 : Int), ∃ (s15 : Int), ∃ (d16 : List Int), ∃ (pr17 : List (List Dv)), ∃ (x18 : List Row × Bool × Int), [AV.d (Dv.sl 2 (rowsR (Prod.fst x6))), AV.agg [AV.d (i64 (Prod.fst (Prod.snd x12))), AV.d (i64 (Prod.fst (Prod.snd (Prod.snd x12)))), AV.d (Dv.sl 1 (bytesR (Prod.fst x12))), AV.d (Dv.sl 1 [])]] = [AV.d (Dv.sl 2 (rowsR l13)), AV.agg [AV.d (i64 n14), AV.d (i64 s15), AV.d (Dv.sl 1 (bytesR d16)), AV.d (Dv.sl 1 pr17)]] ∧ (2 * List.length l13 ≤ 1000000 ∧ x18 = recS l13 n14 s15 d16) ∧ BIf (Prod.snd (Prod.snd (Prod.snd x12)) == (0 : Int)) (BIf (Prod.snd (Prod.snd x18) == (0 : Int)) (BIf (!Prod.snd x8) (R (AV.d (bo true)) b) (BIf (!Prod.fst (Prod.snd x18)) (∃ (p19 : List Row), ∃ (q20 : List Row), ∃ (r21 : Bool), [AV.d (Dv.sl 2 (rowsR (Prod.fst x6))), AV.d (Dv.sl 2 (rowsR (Prod.fst x18)))] = [AV.d (Dv.sl 2 (rowsR p19)), AV.d (Dv.sl 2 (rowsR q20))] ∧ (List.length p19 ≤ 9223372036854775807 ∧ ∀ (r : Row), r ∈ p19 → List.length (Prod.snd r) ≤ 9223372036854775807) ∧ r21 = (p19 == q20) ∧ R (AV.d (bo r21)) b) (R (AV.d (bo false)) b))) (R (AV.d (bo false)) b)) (R (AV.d (bo false)) b)))))))) := by kernel_rfl
theorem f9_nf (ps ss : List (List Dv)) (m : Int) : wpFn Tryd.prog ⟨TLw, [], wl, y, false⟩ 200 Tryd.f9 [.d (.sl 1 ps), .d (.sl 1 ss), .d (i64 m)] b R = ( ([] : List AV) = [] ∧ ∃ (x0 : Int), [AV.d (i64 m)] = [AV.d (i64 x0)] ∧ BIf (!seedS x0) (R (AV.d (bo true)) b) (BIf (↑(List.length ps) != (256 : Int)) (R (AV.d (bo true)) b) (BIf (↑(List.length ss) != (256 : Int)) (R (AV.d (bo true)) b) (∃ (p1 : List Int), ∃ (ss2 : List Int), ∃ (x3 : List Row × Int × Bool), [AV.d (Dv.sl 1 ps), AV.full 1 [[i64 (0 : Int)], [i64 (1 : Int)], [i64 (2 : Int)], [i64 (3 : Int)], [i64 (4 : Int)], [i64 (5 : Int)], [i64 (6 : Int)], [i64 (7 : Int)], [i64 (8 : Int)], [i64 (9 : Int)], [i64 (10 : Int)], [i64 (11 : Int)], [i64 (12 : Int)], [i64 (13 : Int)], [i64 (14 : Int)], [i64 (15 : Int)]]] = [AV.d (Dv.sl 1 (bytesR p1)), AV.full 1 (intsR ss2)] ∧ (List.length p1 = 256 ∧ List.length ss2 ≤ 200 ∧ (∀ (s : Int), s ∈ ss2 → seedS s = true) ∧ x3 = recvS p1 ss2 [] (0 : Int)) ∧ ∃ (p4 : List Int), ∃ (n5 : Int), ∃ (s6 : Int), ∃ (x7 : List Int × Int × Int × Int), [AV.d (Dv.sl 1 ps), AV.d (i64 (0 : Int)), AV.d (i64 m)] = [AV.d (Dv.sl 1 (bytesR p4)), AV.d (i64 n5), AV.d (i64 s6)] ∧ x7 = encR p4 n5 s6 ∧ ∃ (p8 : List Int), ∃ (n9 : Int), ∃ (s10 : Int), ∃ (x11 : List Int × Int × Int × Int), [AV.d (Dv.sl 1 ss), AV.d (i64 (0 : Int)), AV.d (i64 m)] = [AV.d (Dv.sl 1 (bytesR p8)), AV.d (i64 n9), AV.d (i64 s10)] ∧ x11 = encR p8 n9 s10 ∧ ∃ (l12 : List Row), ∃ (n13 : Int), ∃ (s14 : Int), ∃ (d15 : List Int), ∃ (pr16 : List (List Dv)), ∃ (x17 : List Row × Bool × Int), [AV.d (Dv.sl 2 (rowsR (Prod.fst x3))), AV.agg [AV.d (i64 (Prod.fst (Prod.snd x11))), AV.d (i64 (Prod.fst (Prod.snd (Prod.snd x11)))), AV.d (Dv.sl 1 (bytesR (Prod.fst x11))), AV.d (Dv.sl 1 [])]] = [AV.d (Dv.sl 2 (rowsR l12)), AV.agg [AV.d (i64 n13), AV.d (i64 s14), AV.d (Dv.sl 1 (bytesR d15)), AV.d (Dv.sl 1 pr16)]] ∧ (2 * List.length l12 ≤ 1000000 ∧ x17 = recS l12 n13 s14 d15) ∧ BIf (Prod.snd (Prod.snd (Prod.snd x7)) != (0 : Int)) (R (AV.d (bo false)) b) (BIf (Prod.snd (Prod.snd (Prod.snd x11)) != (0 : Int)) (R (AV.d (bo false)) b) (BIf (!Prod.snd (Prod.snd x3)) (R (AV.d (bo false)) b) (BIf (Prod.fst (Prod.snd x3) != (16 : Int)) (R (AV.d (bo false)) b) (BIf (Prod.fst (Prod.snd x17)) (R (AV.d (bo false)) b) (∃ (p18 : List Int), ∃ (q19 : List Int), ∃ (r20 : Bool), [AV.d (Dv.sl 1 (bytesR (Prod.fst x7))), AV.d (Dv.sl 1 (bytesR (Prod.fst x11)))] = [AV.d (Dv.sl 1 (bytesR p18)), AV.d (Dv.sl 1 (bytesR q19))] ∧ List.length p18 ≤ 9223372036854775807 ∧ r20 = (p18 == q19) ∧ BIf r20 (BIf (Prod.snd (Prod.snd x17) == (0 : Int)) (∃ (p21 : List Row), ∃ (q22 : List Row), ∃ (r23 : Bool), [AV.d (Dv.sl 2 (rowsR (Prod.fst x3))), AV.d (Dv.sl 2 (rowsR (Prod.fst x17)))] = [AV.d (Dv.sl 2 (rowsR p21)), AV.d (Dv.sl 2 (rowsR q22))] ∧ (List.length p21 ≤ 9223372036854775807 ∧ ∀ (r : Row), r ∈ p21 → List.length (Prod.snd r) ≤ 9223372036854775807) ∧ r23 = (p21 == q22) ∧ BIf r23 (R (AV.d (bo true)) b) (BIf (!r20) (BIf (Prod.snd (Prod.snd x17) == (12 : Int)) (R (AV.d (bo (↑(List.length (rowsR (Prod.fst x17))) == (0 : Int)))) b) (R (AV.d (bo false)) b)) (R (AV.d (bo false)) b))) (BIf (!r20) (BIf (Prod.snd (Prod.snd x17) == (12 : Int)) (R (AV.d (bo (↑(List.length (rowsR (Prod.fst x17))) == (0 : Int)))) b) (R (AV.d (bo false)) b)) (R (AV.d (bo false)) b))) (BIf (!r20) (BIf (Prod.snd (Prod.snd x17) == (12 : Int)) (R (AV.d (bo (↑(List.length (rowsR (Prod.fst x17))) == (0 : Int)))) b) (R (AV.d (bo false)) b)) (R (AV.d (bo false)) b))))))))))) := by kernel_rfl
end

set_option maxRecDepth 100000 in
theorem pcTruth (p ss : List Int) (hl : ss.length ≤ 9223372036854775807) (hb : ∀ x ∈ p, 0 ≤ x ∧ x < 256) : PCall Tryd.prog 4 [.d (.sl 1 (bytesR p)), .d (.sl 1 (intsR ss))] (.d (bo true)) := by
  refine PCall.ofFn (n := 200) (u := false) mixed TLw_ok SCallsOk.nil Tryd.func4 (by rfl) (by rfl) fun Ev bb => ?_
  rw [f4_nf]
  refine ⟨rfl, p, ss, _, rfl, ⟨hl, rfl⟩, BIf.of (fun h => rfl) fun h => ?_⟩
  obtain ⟨h1, h2, h3⟩ := validB_iff (by simpa using h)
  obtain ⟨g1, g2, g3, g4⟩ := recv_nil (p := p) h3
  have g5 := g3.good.len
  refine ⟨p, ss, _, rfl, ⟨h1, by omega, h3, rfl⟩, _, _, rfl, ⟨by omega, rfl⟩, BIf.t g2 (BIf.of (fun _ => rfl) fun h4 => ⟨_, p, _, rfl, ?_, rfl, ?_⟩)⟩
  · rw [pages_data g3 h1 hb (by simpa using h4)]; omega
  · rw [pages_data g3 h1 hb (by simpa using h4)]; simp

set_option maxRecDepth 100000 in
theorem pcEnough (p ss : List Int) (m : Int) (hl : ss.length ≤ 9223372036854775807) (hb : ∀ x ∈ p, 0 ≤ x ∧ x < 256) : PCall Tryd.prog 5 [.d (.sl 1 (bytesR p)), .d (.sl 1 (intsR ss)), .d (i64 m)] (.d (bo true)) := by
  refine PCall.ofFn (n := 200) (u := false) mixed TLw_ok SCallsOk.nil Tryd.func5 (by rfl) (by rfl) fun Ev bb => ?_
  rw [f5_nf]
  refine ⟨rfl, p, ss, _, rfl, ⟨hl, rfl⟩, m, rfl, BIf.of (fun h => rfl) fun h => BIf.of (fun h => rfl) fun hm => ?_⟩
  obtain ⟨h1, h2, h3⟩ := validB_iff (by simpa using h)
  obtain ⟨g1, g2, g3, g4⟩ := recv_nil (p := p) h3
  have g5 := g3.good.len
  have g6 := pages_iff g3
  have hm : seedS m = true := by simpa using hm
  obtain ⟨s0, s1⟩ := setS_range hm
  obtain ⟨a1, a2, a3, a4⟩ := add_count g3 s0 (show setS m < 65536 by omega)
  refine ⟨p, ss, _, rfl, ⟨h1, by omega, h3, rfl⟩, _, _, rfl, ⟨by omega, rfl⟩, BIf.f (by rw [g2]; rfl) (BIf.f (by simp; omega) (BIf.f ?_ (BIf.f ?_ ⟨p, 0, m, _, rfl, (encR_of h1 hm).symm, _, 0, m, encS p m, [], _, rfl, ⟨by omega, rfl⟩, BIf.t rfl (BIf.t ?_ (BIf.of (fun _ => rfl) fun h4 => ?_))⟩)))⟩
  · rw [g6, g4, Bool.eq_iff_iff]
    simp only [beq_iff_eq, Bool.not_eq_true', Bool.false_eq_true, iff_false]
    by_cases h7 : (recvS p ss [] 0).1.length = 16
    · rw [h7]; decide
    · rw [decide_eq_false h7]; simp; omega
  · rw [g4]; simp [rowsR]
  · rw [rec_sum hm, a1]; rfl
  · have h4 : (recvS p ss [] 0).1.length = 16 := by rw [g6] at h4; simpa using h4
    have h5 : (addS (recvS p ss [] 0).1 (setS m) (sumB p (setS m))).2.1 = false := by
      cases hx : (addS (recvS p ss [] 0).1 (setS m) (sumB p (setS m))).2.1 with
      | false => rfl
      | true => rw [hx, if_pos rfl] at a4; have := a2.good.len; omega
    rw [rec_sum hm]
    exact BIf.t (by rw [h5]; rfl) ⟨_, _, _, rfl, ⟨by omega, g3.row_len⟩, rfl, by rw [a3 h5]; simp⟩

def ss0 : List Int := [0, 1, 2, 3, 4, 5, 6, 7, 8, 9, 10, 11, 12, 13, 14, 15]
theorem masks16_full : ∀ i, i < 16 → two i ∈ masks ss0 := by decide +kernel
set_option maxRecDepth 100000 in
theorem pcAnother (p q : List Int) (m : Int) (hb : ∀ x ∈ p, 0 ≤ x ∧ x < 256) (hq : ∀ x ∈ q, 0 ≤ x ∧ x < 256) : PCall Tryd.prog 9 [.d (.sl 1 (bytesR p)), .d (.sl 1 (bytesR q)), .d (i64 m)] (.d (bo true)) := by
  refine PCall.ofFn (n := 200) (u := false) mixed TLw_ok SCallsOk.nil Tryd.func9 (by rfl) (by rfl) fun Ev bb => ?_
  rw [f9_nf, bytesR_len, bytesR_len]
  refine ⟨rfl, m, rfl, BIf.of (fun h => rfl) fun hm => BIf.of (fun h => rfl) fun h1 => BIf.of (fun h => rfl) fun h2 => ?_⟩
  have h1 : p.length = 256 := by simp at h1; omega
  have h2 : q.length = 256 := by simp at h2; omega
  have hm : seedS m = true := by simpa using hm
  have hs : ∀ s ∈ ss0, seedS s = true := by decide
  obtain ⟨g1, g2, g3, g4⟩ := recv_nil (p := p) hs
  have g5 : (recvS p ss0 [] 0).1.length = 16 := by rw [g1]; exact all_full hb (masks_bd hs) masks16_full
  obtain ⟨s0, s1⟩ := setS_range hm
  have e1 := encR_of h1 hm
  have e2 := encR_of h2 hm
  have g6 : 2 * (recvS p ss0 [] 0).1.length ≤ 1000000 := by rw [g5]; decide
  generalize hX : recvS p ss0 [] 0 = X at *
  refine ⟨p, ss0, X, rfl, ⟨h1, by decide, hs, hX.symm⟩, p, 0, m, _, rfl, e1.symm, q, 0, m, _, rfl, e2.symm, X.1, 0, m, encS q m, [], _, rfl, ⟨g6, rfl⟩, BIf.f rfl (BIf.f rfl (BIf.f (by rw [g2]; rfl) (BIf.f (by rw [g4, g5]; rfl) ?_)))⟩
  rw [rec_sum hm]
  generalize hL : X.1 = L at *
  have hfull : (sumS L (setS m)).2 = true := by
    cases hx : (sumS L (setS m)).2 with
    | true => rfl
    | false =>
      rcases add_law g3.good ⟨s0, by omega⟩ (sumB_len p (setS m)) (sumB_canon p (setS m)) with ⟨h3, _⟩ | ⟨h3, _⟩ | ⟨_, x, _, h4, hG, _⟩
      · rw [hx] at h3; cases h3
      · rw [h3] at hx; cases hx
      · have := hG.len; rw [ins_len] at this; omega
  have hsum := truth_sum g3.good g3.tr (by omega) (show setS m < 65536 by omega) hfull
  rw [show encS p m = sumB p (setS m) from enc_sum hm, show encS q m = sumB q (setS m) from enc_sum hm]
  have hle : (sumB p (setS m)).length ≤ 9223372036854775807 := by rw [sumB_len]; omega
  rcases add_law g3.good ⟨s0, by omega⟩ (sumB_len q (setS m)) (sumB_canon q (setS m)) with ⟨_, h3, h4⟩ | ⟨h3, h4⟩ | ⟨h3, _⟩
  · rw [h4]
    rw [hsum] at h3
    refine BIf.f rfl ⟨sumB p (setS m), sumB q (setS m), _, rfl, hle, rfl, BIf.f (by simpa using h3) (BIf.t (by simpa using h3) (BIf.t rfl rfl))⟩
  · rw [h4]
    have h5 : sumB p (setS m) = sumB q (setS m) := by rw [hsum] at h3; exact congrArg Prod.fst h3
    refine BIf.f rfl ⟨sumB p (setS m), sumB q (setS m), _, rfl, hle, rfl, BIf.t (by simp [h5]) (BIf.t rfl ⟨L, L, _, rfl, ⟨by omega, g3.row_len⟩, rfl, BIf.t (by simp) rfl⟩)⟩
  · rw [hfull] at h3; cases h3
end Go.Proofs.YtkjmhfbjdeidjaaDoor.Am

namespace Go.Proofs.YtkjmhfbjdeidjaaDoor.Am
set_option linter.unusedVariables false
open Go Go.RowKit Go.Proofs

/-! ### the reference's Copy -/
noncomputable def lp36 : Code := sub [1, 1, 0, 1, 2, 3] (code Tryd.f55)
def tm36 (acc : AV) (xs : List (List Dv)) (i : Int) : List AV := [.d (.sl 2 xs), .bad, .bad, acc, .d (i64 i)] ++ List.replicate 25 .bad
/-- rows are laid as blocks that grow -/
def GT : List (Nat × (List AV → List Blk → (AV → List Blk → Prop) → Prop)) := [((1000000 + 52), fun _ _ _ => False)]
theorem GT_ok : SCallsOk Tryd.prog GT := by
  intro k f h args hp K hf
  simp only [GT, List.lookup_cons, List.lookup_nil] at h
  split at h
  · cases h; exact hf.elim
  · cases h
section
variable {β : Type} (wl : WLT β) (y : YieldT β) (b : β) (R : AV → List Blk → β → Prop) (K : Exit → List AV → List Blk → β → Prop)
theorem f36_round (xs : List (List Dv)) (cs : List AV) (i : Int) (n v : Nat) : wpc Tryd.prog ⟨[], GT, wl, y, false⟩ 100 lp36 (tm36 (.gref 0 v n 2) xs i) [⟨cs, false, true, v⟩] b (maskT [0, 3, 4] K) = (
  BIf (decide (i < (xs.length : Int))) (BIf (true && decide (0 ≤ i)) (∃ x0 xs1, xs[Int.toNat i]? = some [i64 x0, Dv.sl 1 xs1] ∧ BIf (decide (xs1.length * 1 ≤ 140737488355328)) (BIf (true && decide (0 ≤ i)) (∃ x4 xs5, xs[Int.toNat i]? = some [i64 x4, Dv.sl 1 xs5] ∧ v = v ∧ BIf (decide ((n + 1) * 32 ≤ 140737488355328))
    (K Exit.normal (tm36 (.gref 0 (v + 1) (n + 1) 2) xs (IntKind.wrap IntKind.i64 (i + 1))) [⟨cs ++ [AV.d (i64 x4), AV.d (Dv.sl 1 xs1)], false, true, v + 1⟩] b) False) False) False) False)
  (K (Exit.exit 0) (tm36 (.gref 0 v n 2) xs i) [⟨cs, false, true, v⟩] b)) := by kernel_rfl
theorem f36_round0 (xs : List (List Dv)) (i : Int) : wpc Tryd.prog ⟨[], GT, wl, y, false⟩ 100 lp36 (tm36 nilA xs i) [] b (maskT [0, 3, 4] K) = (
  BIf (decide (i < (xs.length : Int))) (BIf (true && decide (0 ≤ i)) (∃ x0 xs1, xs[Int.toNat i]? = some [i64 x0, Dv.sl 1 xs1] ∧ BIf (decide (xs1.length * 1 ≤ 140737488355328)) (BIf (true && decide (0 ≤ i)) (∃ x4 xs5, xs[Int.toNat i]? = some [i64 x4, Dv.sl 1 xs5] ∧
    K Exit.normal (tm36 (.gref 0 0 1 2) xs (IntKind.wrap IntKind.i64 (i + 1))) [⟨[AV.d (i64 x4), AV.d (Dv.sl 1 xs1)], false, true, 0⟩] b) False) False) False)
  (K (Exit.exit 0) (tm36 nilA xs i) [] b)) := by kernel_rfl
end
theorem flatA_rows (l : List Row) (r : Row) : flatA (rowsR l) ++ [AV.d (i64 r.1), AV.d (.sl 1 (bytesR r.2))] = flatA (rowsR (l ++ [r])) := by simp [flatA, rowsR, rowD]
theorem take_snoc {α : Type} {l : List α} {k : Nat} {r : α} (h : l[k]? = some r) : l.take (k + 1) = l.take k ++ [r] := by
  rw [List.take_add_one, h]; rfl
def smallRows (l : List Row) : Prop := l.length ≤ 1000 ∧ ∀ r ∈ l, r.2.length ≤ 1000
theorem wr36 {Ev : Env Tryd.prog} {b : Ev.β} {Q : Exit → St Ev.β → Prop} (l : List Row) (hl : smallRows l) (hQ : Q (.exit 0) ⟨tm36 (.gref 0 (l.length - 1) l.length 2) (rowsR l) l.length, [⟨flatA (rowsR l), false, true, l.length - 1⟩], b⟩) : ∀ (rest : List Row) (k : Nat), l.drop (k + 1) = rest → k + 1 ≤ l.length →
    WR Ev lp36 (rest.length + 1) ⟨tm36 (.gref 0 k (k + 1) 2) (rowsR l) ((k + 1 : Nat) : Int), [⟨flatA (rowsR (l.take (k + 1))), false, true, k⟩], b⟩ Q
  | [], k, hd, hk => by
    refine WR.ofMaskT [0, 3, 4] mixed (CX.Ok.of (u := false) CallsOk.nil GT_ok) (k := 100) ?_
    rw [f36_round]
    have := drop_nil hd
    obtain rfl : k = l.length - 1 := by omega
    refine BIf.f (by simp [rowsR]; omega) ?_
    have e : l.length - 1 + 1 = l.length := by omega
    rw [e, List.take_length]; exact hQ
  | (m, p) :: rest, k, hd, hk => by
    refine WR.ofMaskT [0, 3, 4] mixed (CX.Ok.of (u := false) CallsOk.nil GT_ok) (k := 100) ?_
    rw [f36_round]
    obtain ⟨hk, hr, hd'⟩ := drop_cons hd
    have g : (rowsR l)[Int.toNat ((k + 1 : Nat) : Int)]? = some [i64 m, .sl 1 (bytesR p)] := by simp [rowsR, hr, rowD]
    have hp := hl.2 _ (List.mem_of_getElem? hr)
    have h1 := hl.1
    refine BIf.t (by simp only [rowsR, List.length_map]; exact decide_eq_true (by omega)) (BIf.t (by simp; omega) ⟨_, _, g, BIf.t (by simp only [bytesR, List.length_map]; exact decide_eq_true (by simp only at hp; omega)) (BIf.t (by simp; omega) ⟨_, _, g, rfl, BIf.t (decide_eq_true (by omega)) ?_⟩)⟩)
    rw [wrap_succ hk (by omega), flatA_rows (l.take (k + 1)) (m, p), ← take_snoc hr]
    exact wr36 l hl hQ rest (k + 1) hd' hk
def wl36 {β : Type} (l : List Row) : WLT β := fun c tm hp b K => c = .loop lp36 ∧ maskTm [0, 3, 4] 0 tm = tm36 nilA (rowsR l) 0 ∧ hp = [] ∧
  K (.exit 0) (tm36 (.gref 0 (l.length - 1) l.length 2) (rowsR l) l.length) [⟨flatA (rowsR l), false, true, l.length - 1⟩] b
theorem wl36_ok {Ev : Env Tryd.prog} (l : List Row) (hl : smallRows l) (hne : l ≠ []) (c : Code) (tm : List AV) (hp : List Blk) (b : Ev.β) (K : Exit → List AV → List Blk → Ev.β → Prop) (h : wl36 l c tm hp b K) : W Ev c ⟨tm, hp, b⟩ (fun e s => K e s.tm s.hp s.b) := by
  obtain ⟨rfl, htm, rfl, hK⟩ := h
  refine W.cast (htm ▸ maskTm_le _ tm 0) (LeH.refl _) ?_
  cases l with
  | nil => exact absurd rfl hne
  | cons r0 rest =>
    obtain ⟨m, p⟩ := r0
    have hp := hl.2 _ (List.mem_cons_self ..)
    have h1 := hl.1
    refine W.rounds (m := (rest.length + 1) + 1) (WR.ofMaskT [0, 3, 4] mixed (CX.Ok.of (u := false) CallsOk.nil GT_ok) (k := 100) ?_)
    rw [f36_round0]
    have g : (rowsR ((m, p) :: rest))[Int.toNat 0]? = some [i64 m, .sl 1 (bytesR p)] := rfl
    refine BIf.t (by simp [rowsR]) (BIf.t rfl ⟨_, _, g, BIf.t (by simp only [bytesR, List.length_map]; exact decide_eq_true (by simp only at hp; omega)) (BIf.t rfl ⟨_, _, g, ?_⟩)⟩)
    exact wr36 (Q := fun e s => K e s.tm s.hp s.b) ((m, p) :: rest) hl hK rest 0 rfl (by simp)
section
variable {β : Type} (wl : WLT β) (y : YieldT β) (b : β) (R : AV → List Blk → β → Prop)
theorem f36_nf (l : List Row) (xs : List (List Dv)) : wpFnS Tryd.prog ⟨[], GT, wl36 l, y, false⟩ 100 Tryd.f55 [.d (.sl 2 xs)] b R = (
  Code.loop lp36 = Code.loop lp36 ∧ tm36 nilA xs 0 = tm36 nilA (rowsR l) 0 ∧ ([] : List Blk) = [] ∧ R (.gref 0 (l.length - 1) l.length 2) [⟨flatA (rowsR l), false, true, l.length - 1⟩] b) := by kernel_rfl
theorem f36n_nf : wpFnS Tryd.prog ⟨[], GT, wl, y, true⟩ 100 Tryd.f55 [.d (.sl 2 [])] b R = R nilA [] b := by kernel_rfl
end
theorem fc36 (l : List Row) (hl : smallRows l) (hne : l ≠ []) : FCall Tryd.prog 55 [.d (.sl 2 (rowsR l))] (.gref 0 (l.length - 1) l.length 2) [⟨flatA (rowsR l), false, true, l.length - 1⟩] := by
  refine FCall.ofFnW (n := 100) (u := false) (fun _ => wl36 l) mixed CallsOk.nil GT_ok (fun Ev => wl36_ok l hl hne) Tryd.func55 (by rfl) (by rfl) (by rfl) fun Ev bb => ?_
  rw [f36_nf]
  exact ⟨rfl, rfl, rfl, rfl, rfl⟩
theorem fc36n : FCall Tryd.prog 55 [.d (.sl 2 [])] nilA [] := by
  refine FCall.ofFnW (n := 100) (u := true) wlNo mixed CallsOk.nil GT_ok (fun Ev => wlNo_ok Ev) Tryd.func55 (by rfl) (by rfl) (by rfl) fun Ev bb => ?_
  rw [f36n_nf]
  exact ⟨rfl, rfl⟩
theorem pc36 (l : List Row) (hl : smallRows l) : PCall Tryd.prog 55 [.d (.sl 2 (rowsR l))] (.d (.sl 2 (rowsR l))) := by
  by_cases hne : l = []
  · subst hne
    exact PCall.le (x := nilA) (.base (LeA.nilSl rfl)) rfl (fc36n.toP (.v rfl))
  · refine (fc36 l hl hne).toP (.gref rfl rfl rfl rfl (by simp [rowsR]) fun r hr => ?_)
    obtain ⟨x, _, rfl⟩ := List.mem_map.1 hr
    rfl
def c36 (args : List AV) (K : AV → Prop) : Prop := ∃ (l : List Row), args = [.d (.sl 2 (rowsR l))] ∧ smallRows l ∧ K (.d (.sl 2 (rowsR l)))
theorem c36_ok : ∀ args K, c36 args K → ∃ x, PCall Tryd.prog 55 args x ∧ K x := by
  rintro _ K ⟨l, rfl, h1, h⟩; exact ⟨_, pc36 l h1, h⟩
def s36 (args : List AV) (hp : List Blk) (K : AV → List Blk → Prop) : Prop := ∃ (l : List Row), args = [.d (.sl 2 (rowsR l))] ∧ smallRows l ∧
  BIf (decide (l.length = 0)) (K nilA hp) (K (.gref hp.length (l.length - 1) l.length 2) (hp ++ [⟨flatA (rowsR l), false, true, l.length - 1⟩]))
theorem s36_ok : ∀ args hp K, s36 args hp K → ∃ x hp', SCall Tryd.prog 55 args hp x hp' ∧ K x hp' := by
  rintro _ hp K ⟨l, rfl, h1, h⟩
  by_cases hne : l = []
  · subst hne
    have := fc36n.toS rfl hp
    simp only [shift, nilA, shiftH, List.map_nil, List.append_nil] at this
    exact ⟨_, _, this, bif_t h rfl⟩
  · have := (fc36 l h1 hne).toS rfl hp
    simp only [shift, shiftH, List.map_cons, List.map_nil, shiftB, shifts_flatA, Nat.add_zero] at this
    have hl : l.length ≠ 0 := fun hh => hne (List.length_eq_zero_iff.1 hh)
    exact ⟨_, _, this, bif_f h (decide_eq_false hl)⟩
end Go.Proofs.YtkjmhfbjdeidjaaDoor.Am

namespace Go.Proofs.YtkjmhfbjdeidjaaDoor.Am
set_option linter.unusedVariables false
open Go Go.RowKit Go.Proofs

/-! ### Zero -/
noncomputable def lp35 : Code := sub [1, 0, 1, 2, 3] (code Tryd.f54)
def tm35 (xs : List (List Dv)) (i : Int) : List AV := [.d (.sl 1 xs), .bad, .bad, .d (i64 i)] ++ List.replicate 11 .bad
section
variable {β : Type} (wl : WLT β) (y : YieldT β) (b : β) (R : AV → β → Prop) (K : Exit → List AV → List Blk → β → Prop)
theorem f35_round (xs : List (List Dv)) (i : Int) : wpc Tryd.prog ⟨[], [], wl, y, false⟩ 100 lp35 (tm35 xs i) [] b (maskT [0, 2, 3] K) = (
  BIf (decide (i < (xs.length : Int))) (BIf (true && decide (0 ≤ i)) (∃ x0, xs[Int.toNat i]? = some [u8 x0] ∧ BIf (x0 != 0) (K Exit.ret ((tm35 xs i).set 2 (.d (bo false))) [] b) (K Exit.normal (tm35 xs (IntKind.wrap IntKind.i64 (i + 1))) [] b)) False)
  (K (Exit.exit 0) (tm35 xs i) [] b)) := by kernel_rfl
end
def zeroL (p : List Int) : Bool := p.all fun x => x == 0
theorem wr35 {Ev : Env Tryd.prog} {b : Ev.β} {Q : Exit → St Ev.β → Prop} (p : List Int) (hl : p.length ≤ 9223372036854775807) : ∀ (rest : List Int) (k : Nat), p.drop k = rest →
    BIf (zeroL rest) (Q (.exit 0) ⟨tm35 (bytesR p) p.length, [], b⟩) (∀ i : Int, Q .ret ⟨(tm35 (bytesR p) i).set 2 (.d (bo false)), [], b⟩) → k ≤ p.length → WR Ev lp35 (rest.length + 1) ⟨tm35 (bytesR p) k, [], b⟩ Q
  | [], k, hd, hQ, hk => by
    refine WR.ofMaskT [0, 2, 3] mixed (CX.Ok.of (u := false) CallsOk.nil SCallsOk.nil) (k := 100) ?_
    rw [f35_round]
    have := drop_nil hd
    obtain rfl : k = p.length := by omega
    exact BIf.f (by simp [bytesR]) hQ
  | x :: rest, k, hd, hQ, hk => by
    refine WR.ofMaskT [0, 2, 3] mixed (CX.Ok.of (u := false) CallsOk.nil SCallsOk.nil) (k := 100) ?_
    rw [f35_round]
    obtain ⟨hk, hr, hd'⟩ := drop_cons hd
    refine BIf.t (by simpa [bytesR] using hk) (BIf.t (by simp) ⟨x, by simp [bytesR, hr], BIf.of (fun h => ?_) fun h => ?_⟩)
    · have h : x ≠ 0 := by simpa [bne] using h
      exact bif_f hQ (by simp [zeroL, h]) k
    · have h : x = 0 := by simpa [bne] using h
      rw [wrap_succ hk hl]
      refine wr35 p hl rest (k + 1) hd' ?_ hk
      subst h
      have e : zeroL (0 :: rest) = zeroL rest := by simp [zeroL]
      rw [e] at hQ; exact hQ
def wl35 {β : Type} : WLT β := fun c tm hp b K => ∃ (p : List Int), c = .loop lp35 ∧ maskTm [0, 3] 0 tm = tm35 (bytesR p) 0 ∧ hp = [] ∧ p.length ≤ 9223372036854775807 ∧
  BIf (zeroL p) (K (.exit 0) (tm35 (bytesR p) p.length) [] b) (∀ i : Int, K .ret ((tm35 (bytesR p) i).set 2 (.d (bo false))) [] b)
theorem wl35_ok {Ev : Env Tryd.prog} (c : Code) (tm : List AV) (hp : List Blk) (b : Ev.β) (K : Exit → List AV → List Blk → Ev.β → Prop) (h : wl35 c tm hp b K) : W Ev c ⟨tm, hp, b⟩ (fun e s => K e s.tm s.hp s.b) := by
  obtain ⟨p, rfl, htm, rfl, h0, hK⟩ := h
  refine W.cast (htm ▸ maskTm_le _ tm 0) (LeH.refl _) ?_
  exact W.rounds (wr35 (Q := fun e s => K e s.tm s.hp s.b) p h0 p 0 rfl hK (Nat.zero_le _))
theorem f35_nf {β : Type} (y : YieldT β) (b : β) (R : AV → β → Prop) (xs : List (List Dv)) : wpFn Tryd.prog ⟨[], [], wl35, y, false⟩ 100 Tryd.f54 [.d (.sl 1 xs)] b R = (
  ∃ p : List Int, Code.loop lp35 = Code.loop lp35 ∧ tm35 xs 0 = tm35 (bytesR p) 0 ∧ ([] : List Blk) = [] ∧ p.length ≤ 9223372036854775807 ∧ BIf (zeroL p) (R (.d (bo true)) b) (∀ i : Int, R (.d (bo false)) b)) := by kernel_rfl
theorem pc35 (p : List Int) (hl : p.length ≤ 9223372036854775807) : PCall Tryd.prog 54 [.d (.sl 1 (bytesR p))] (.d (bo (zeroL p))) := by
  refine PCall.ofFnW (n := 100) (u := false) (fun _ => wl35) mixed CallsOk.nil SCallsOk.nil (fun Ev => wl35_ok) Tryd.func54 (by rfl) (by rfl) fun Ev bb => ?_
  rw [f35_nf]
  exact ⟨p, rfl, rfl, rfl, hl, BIf.of (fun h => by rw [h]) fun h _ => by rw [h]⟩
def c35 (args : List AV) (K : AV → Prop) : Prop := ∃ (p : List Int) (r : Bool), args = [.d (.sl 1 (bytesR p))] ∧ p.length ≤ 9223372036854775807 ∧ r = zeroL p ∧ K (.d (bo r))
theorem c35_ok : ∀ args K, c35 args K → ∃ x, PCall Tryd.prog 54 args x ∧ K x := by
  rintro _ K ⟨p, _, rfl, h0, rfl, h⟩; exact ⟨_, pc35 p h0, h⟩

/-! ### Solved -/
section
variable {β : Type} (wl : WLT β) (y : YieldT β) (b : β) (R : AV → β → Prop) (K : Exit → List AV → List Blk → β → Prop)
end
theorem wrap_u64_id {x : Int} (h0 : 0 ≤ x) (h1 : x < 18446744073709551616) : IntKind.wrap .u64 x = x := by
  simp only [IntKind.wrap]; simp [IntKind.signed, IntKind.bits]; omega
end Go.Proofs.YtkjmhfbjdeidjaaDoor.Am

namespace Go.Proofs.YtkjmhfbjdeidjaaDoor.Am
set_option linter.unusedVariables false
open Go Go.RowKit Go.Proofs

/-! ### the reference's reduce -/
def T34 : List (Nat × (List AV → (AV → Prop) → Prop)) := [(56, c37), (26, c25)]
theorem T34_ok : CallsOk Tryd.prog T34 := CallsOk.cons c37_ok (CallsOk.cons c25_ok CallsOk.nil)
noncomputable def lp34 : Code := sub [1, 0, 1, 2, 3] (code Tryd.f53)
def tm34 (xs : List (List Dv)) (i : Int) : List AV := [.d (.sl 2 xs), .bad, .bad, .ptr 0 0, .ptr 1 0, .d (i64 i)] ++ List.replicate 34 .bad
def rowB2 (m : Int) (ds : List (List Dv)) : Blk := ⟨[.d (i64 m), .d (.sl 1 ds)], false, false, 0⟩
def zeroB2 : Blk := ⟨[.d (i64 0), .d (.s (.slice none 0 0))], false, false, 0⟩
section
variable {β : Type} (wl : WLT β) (y : YieldT β) (b : β) (R : AV → β → Prop) (K : Exit → List AV → List Blk → β → Prop)
theorem f34_round (xs ds : List (List Dv)) (i m : Int) : wpc Tryd.prog ⟨T34, [], wl, y, false⟩ 100 lp34 (tm34 xs i) [rowB2 m ds, zeroB2] b (maskT [0, 3, 4, 5] K) = (
  BIf (decide (i < (xs.length : Int))) (BIf (true && decide (0 ≤ i)) (∃ x0 xs1, xs[Int.toNat i]? = some [i64 x0, Dv.sl 1 xs1] ∧ ∃ m4, [AV.d (i64 x0)] = [AV.d (i64 m4)] ∧ (1 ≤ m4 ∧ m4 < 4611686018427387904) ∧ BIf (and64 m (lead m4) != 0)
    (BIf (true && decide (0 ≤ i)) (∃ x5 xs6, xs[Int.toNat i]? = some [i64 x5, Dv.sl 1 xs6] ∧ BIf (true && decide (0 ≤ i)) (∃ x9 xs10, xs[Int.toNat i]? = some [i64 x9, Dv.sl 1 xs10] ∧ ∃ p13 q14 r15, [AV.d (Dv.sl 1 ds), AV.d (Dv.sl 1 xs10)] = [AV.d (Dv.sl 1 (bytesR p13)), AV.d (Dv.sl 1 (bytesR q14))] ∧ (16 ≤ p13.length ∧ 16 ≤ q14.length) ∧ r15 = xorL p13 q14 ∧
      K Exit.normal (tm34 xs (IntKind.wrap IntKind.i64 (i + 1))) [rowB2 (xor64 m x5) (bytesR r15), zeroB2] b) False) False)
    (K Exit.normal (tm34 xs (IntKind.wrap IntKind.i64 (i + 1))) [rowB2 m ds, zeroB2] b)) False) (K (Exit.exit 0) (tm34 xs i) [rowB2 m ds, zeroB2] b)) := by kernel_rfl
end
def redR (x : Row) (r : Row) : Row := if and64 x.1 (lead r.1) != 0 then (xor64 x.1 r.1, xorL x.2 r.2) else x
theorem redR_len {x r : Row} (h : 16 ≤ x.2.length) : 16 ≤ (redR x r).2.length := by
  unfold redR; split
  · rw [xorL_len]; exact Nat.le_refl _
  · exact h
theorem wr34 {Ev : Env Tryd.prog} {b : Ev.β} {Q : Exit → St Ev.β → Prop} (l : List Row) (hl : l.length ≤ 9223372036854775807) (hok : ∀ r ∈ l, okMask r ∧ 16 ≤ r.2.length) : ∀ (rest : List Row) (k : Nat) (x : Row), l.drop k = rest → 16 ≤ x.2.length →
    Q (.exit 0) ⟨tm34 (rowsR l) l.length, [rowB2 (rest.foldl redR x).1 (bytesR (rest.foldl redR x).2), zeroB2], b⟩ → k ≤ l.length → WR Ev lp34 (rest.length + 1) ⟨tm34 (rowsR l) k, [rowB2 x.1 (bytesR x.2), zeroB2], b⟩ Q
  | [], k, x, hd, hx, hQ, hk => by
    refine WR.ofMaskT [0, 3, 4, 5] mixed (CX.Ok.of (u := false) T34_ok SCallsOk.nil) (k := 100) ?_
    rw [f34_round]
    have := drop_nil hd
    obtain rfl : k = l.length := by omega
    exact BIf.f (by simp [rowsR]) hQ
  | r :: rest, k, x, hd, hx, hQ, hk => by
    refine WR.ofMaskT [0, 3, 4, 5] mixed (CX.Ok.of (u := false) T34_ok SCallsOk.nil) (k := 100) ?_
    rw [f34_round]
    obtain ⟨hk, hr, hd'⟩ := drop_cons hd
    have g : (rowsR l)[Int.toNat k]? = some [i64 r.1, .sl 1 (bytesR r.2)] := by simp [rowsR, hr, rowD]
    obtain ⟨ho, hlen⟩ := hok r (List.mem_of_getElem? hr)
    rw [List.foldl_cons] at hQ
    rw [wrap_succ hk hl]
    refine BIf.t (by simpa [rowsR] using hk) (BIf.t (by simp) ⟨_, _, g, r.1, rfl, ⟨ho.1, by have := ho.2; omega⟩, BIf.of (fun h => BIf.t (by simp) ⟨_, _, g, BIf.t (by simp) ⟨_, _, g, _, _, _, rfl, ⟨hx, hlen⟩, rfl, ?_⟩⟩) fun h => ?_⟩)
    · have e : redR x r = (xor64 x.1 r.1, xorL x.2 r.2) := by simp only [redR, h, if_true]
      rw [e] at hQ
      exact wr34 l hl hok rest (k + 1) (xor64 x.1 r.1, xorL x.2 r.2) hd' (by rw [xorL_len]; exact Nat.le_refl _) hQ hk
    · have e : redR x r = x := by simp only [redR, h]; rfl
      rw [e] at hQ
      exact wr34 l hl hok rest (k + 1) x hd' hx hQ hk
def wl34 {β : Type} : WLT β := fun c tm hp b K => ∃ (l : List Row) (x : Row), c = .loop lp34 ∧ maskTm [0, 3, 4, 5] 0 tm = tm34 (rowsR l) 0 ∧ hp = [rowB2 x.1 (bytesR x.2), zeroB2] ∧ (l.length ≤ 9223372036854775807 ∧ (∀ r ∈ l, okMask r ∧ 16 ≤ r.2.length) ∧ 16 ≤ x.2.length) ∧
  ∃ z, z = l.foldl redR x ∧ K (.exit 0) (tm34 (rowsR l) l.length) [rowB2 z.1 (bytesR z.2), zeroB2] b
theorem wl34_ok {Ev : Env Tryd.prog} (c : Code) (tm : List AV) (hp : List Blk) (b : Ev.β) (K : Exit → List AV → List Blk → Ev.β → Prop) (h : wl34 c tm hp b K) : W Ev c ⟨tm, hp, b⟩ (fun e s => K e s.tm s.hp s.b) := by
  obtain ⟨l, x, rfl, htm, rfl, ⟨h0, h1, h2⟩, _, rfl, hK⟩ := h
  refine W.cast (htm ▸ maskTm_le _ tm 0) (LeH.refl _) ?_
  exact W.rounds (wr34 (Q := fun e s => K e s.tm s.hp s.b) l h0 h1 l 0 x rfl h2 hK (Nat.zero_le _))
theorem f34_nf {β : Type} (y : YieldT β) (b : β) (R : AV → β → Prop) (xs ds : List (List Dv)) (m : Int) : wpFn Tryd.prog ⟨T34, [], wl34, y, false⟩ 100 Tryd.f53 [.d (.sl 2 xs), .agg [.d (i64 m), .d (.sl 1 ds)]] b R = (
  ∃ (l : List Row) (x : Row), Code.loop lp34 = Code.loop lp34 ∧ tm34 xs 0 = tm34 (rowsR l) 0 ∧ [rowB2 m ds, zeroB2] = [rowB2 x.1 (bytesR x.2), zeroB2] ∧ (l.length ≤ 9223372036854775807 ∧ (∀ r ∈ l, okMask r ∧ 16 ≤ r.2.length) ∧ 16 ≤ x.2.length) ∧
    ∃ z : Row, z = l.foldl redR x ∧ R (rowA z.1 z.2) b) := by kernel_rfl
theorem pc34 (l : List Row) (m : Int) (p : List Int) (h0 : l.length ≤ 9223372036854775807) (h1 : ∀ r ∈ l, okMask r ∧ 16 ≤ r.2.length) (h2 : 16 ≤ p.length) : PCall Tryd.prog 53 [.d (.sl 2 (rowsR l)), rowA m p] (rowA (l.foldl redR (m, p)).1 (l.foldl redR (m, p)).2) := by
  refine PCall.ofFnW (n := 100) (u := false) (fun _ => wl34) mixed T34_ok SCallsOk.nil (fun Ev => wl34_ok) Tryd.func53 (by rfl) (by rfl) fun Ev bb => ?_
  show wpFn _ _ _ _ [_, .agg [.d (i64 m), .d (.sl 1 (bytesR p))]] _ _
  rw [f34_nf]
  exact ⟨l, (m, p), rfl, rfl, rfl, ⟨h0, h1, h2⟩, _, rfl, rfl⟩
def c34 (args : List AV) (K : AV → Prop) : Prop := ∃ (l : List Row) (m : Int) (p : List Int) (z : Row), args = [.d (.sl 2 (rowsR l)), rowA m p] ∧ (l.length ≤ 9223372036854775807 ∧ (∀ r ∈ l, okMask r ∧ 16 ≤ r.2.length) ∧ 16 ≤ p.length) ∧ z = l.foldl redR (m, p) ∧ K (rowA z.1 z.2)
theorem c34_ok : ∀ args K, c34 args K → ∃ x, PCall Tryd.prog 53 args x ∧ K x := by
  rintro _ K ⟨l, m, p, _, rfl, ⟨h0, h1, h2⟩, rfl, h⟩; exact ⟨_, pc34 l m p h0 h1 h2, h⟩

/-! ### Sum -/
theorem redR_red {x r : Row} (h : r.2.length = 16) : redR x r = red x r := by unfold redR red; rw [pad16 h]
theorem foldR_red : ∀ {l : List Row} {x : Row}, (∀ r ∈ l, r.2.length = 16) → l.foldl redR x = l.foldl red x
  | [], _, _ => rfl
  | r :: l, x, h => by
    rw [List.foldl_cons, List.foldl_cons, redR_red (h r (List.mem_cons_self ..))]
    exact foldR_red fun s hs => h s (List.mem_cons_of_mem _ hs)
/-- sixteen bytes stay sixteen bytes -/
theorem fold_len {l : List Row} {x : Row} (h : x.2.length = 16) : (l.foldl red x).2.length = 16 := by
  induction l generalizing x with
  | nil => exact h
  | cons r l ih =>
    rw [List.foldl_cons]
    refine ih ?_
    unfold red; split
    · exact xorL_len _ _
    · exact h
theorem fold_zeros : ∀ (l : List Row) (x y : Row), x.1 = y.1 → (∀ i, i < 16 → nth x.2 i = nth y.2 i) → (l.foldl red x).1 = (l.foldl red y).1 ∧ ∀ i, i < 16 → nth (l.foldl red x).2 i = nth (l.foldl red y).2 i
  | [], x, y, h1, h2 => ⟨h1, h2⟩
  | r :: l, x, y, h1, h2 => by
    rw [List.foldl_cons, List.foldl_cons]
    refine fold_zeros l _ _ ?_ ?_
    · unfold red; rw [h1]; split
      · rfl
      · exact h1
    · intro i hi
      unfold red; rw [h1]; split
      · simp only; rw [nth_xorL hi, nth_xorL hi, h2 i hi]
      · exact h2 i hi
end Go.Proofs.YtkjmhfbjdeidjaaDoor.Am

namespace Go.Proofs.YtkjmhfbjdeidjaaDoor.Am
set_option linter.unusedVariables false
open Go Go.RowKit Go.Proofs

/-! ### the reference's Add -/
noncomputable def lp13 : Code := sub [1, 1, 1, 1, 1, 1, 1, 1, 0, 1, 2, 3] (code Tryd.f36)
def T13 : List (Nat × (List AV → (AV → Prop) → Prop)) := [(56, c37), (26, c25), (39, c21), (52, c24), (53, c34), (54, c35)]
theorem T13_ok : CallsOk Tryd.prog T13 := CallsOk.cons c37_ok (CallsOk.cons c25_ok (CallsOk.cons c21_ok (CallsOk.cons c24_ok (CallsOk.cons c34_ok (CallsOk.cons c35_ok CallsOk.nil)))))
def S13 : List (Nat × (List AV → List Blk → (AV → List Blk → Prop) → Prop)) := [(55, s36)]
theorem S13_ok : SCallsOk Tryd.prog S13 := by
  intro k f h args hp K hf
  simp only [S13, List.lookup_cons, List.lookup_nil] at h
  split at h
  · rename_i he
    cases h; rw [eq_of_beq he]; exact s36_ok args hp K hf
  · cases h
def tm13 (acc rows : AV) (ld : Int) (dn : Bool) (i : Int) : List AV := [.bad, .bad, .bad, .bad, .bad, .bad, .bad, .ptr 1 0, .d (i64 ld), acc, .d (bo dn), rows, .d (i64 i)] ++ List.replicate 89 .bad
def gB (v : Nat) (cs : List AV) : Blk := ⟨cs, false, true, v⟩
section
variable {β : Type} (wl : WLT β) (y : YieldT β) (b : β) (R : AV → β → Prop) (K : Exit → List AV → List Blk → β → Prop)
/-- behind the insertion: the row is turned, and taken over -/
def part2 (ds : List (List Dv)) (cs : List AV) (i m ld : Int) (n v : Nat) (B : Blk) (xs : List (List Dv)) (dn : Bool) : Prop :=
  v = v ∧ BIf (decide (0 ≤ i) && decide (i < (n : Int))) (v = v ∧ v = v ∧ ∃ x2, List.take 1 (List.drop (Int.toNat i * 2 + 0) cs) = [AV.d (i64 x2)] ∧ BIf (and64 x2 ld != 0)
    (v = v ∧ BIf (decide (0 ≤ i) && decide (i < (n : Int))) (v = v ∧ v = v ∧ ∃ x3, List.take 1 (List.drop (Int.toNat i * 2 + 0) cs) = [AV.d (i64 x3)] ∧ v = v ∧ BIf (decide (0 ≤ i) && decide (i < (n : Int))) (v = v ∧ v = v ∧ ∃ xs4, List.take 1 (List.drop (Int.toNat i * 2 + 1) cs) = [AV.d (Dv.sl 1 xs4)] ∧
      ∃ p5 q6 r7, [AV.d (Dv.sl 1 xs4), AV.d (Dv.sl 1 ds)] = [AV.d (Dv.sl 1 (bytesR p5)), AV.d (Dv.sl 1 (bytesR q6))] ∧ (16 ≤ p5.length ∧ 16 ≤ q6.length) ∧ r7 = xorL p5 q6 ∧ v = v ∧ BIf (decide (0 ≤ i) && decide (i < (n : Int))) (v = v ∧ BIf (decide (Int.toNat i * 2 + 2 ≤ cs.length))
        (v = v ∧ BIf (decide (0 ≤ i) && decide (i < (n : Int))) (v = v ∧ ∃ x8 xs9, List.take 2 (List.drop (Int.toNat i * 2) (List.take (Int.toNat i * 2) cs ++ [AV.d (i64 (xor64 x3 m)), AV.d (Dv.sl 1 (bytesR r7))] ++ List.drop (Int.toNat i * 2 + 2) cs)) = [AV.d (i64 x8), AV.d (Dv.sl 1 xs9)] ∧
          BIf (true && decide ((xs.length + 1) * 32 ≤ 140737488355328)) (K Exit.normal (tm13 (.own 52 2 (xs ++ [[i64 x8, Dv.sl 1 xs9]])) (.gref 2 v n 2) ld dn (IntKind.wrap IntKind.i64 (i + 1))) [B, rowB2 m ds, gB v (List.take (Int.toNat i * 2) cs ++ [AV.d (i64 (xor64 x3 m)), AV.d (Dv.sl 1 (bytesR r7))] ++ List.drop (Int.toNat i * 2 + 2) cs)] b) False) False) False) False) False) False)
    (v = v ∧ BIf (decide (0 ≤ i) && decide (i < (n : Int))) (v = v ∧ ∃ x11 xs12, List.take 2 (List.drop (Int.toNat i * 2) cs) = [AV.d (i64 x11), AV.d (Dv.sl 1 xs12)] ∧
      BIf (true && decide ((xs.length + 1) * 32 ≤ 140737488355328)) (K Exit.normal (tm13 (.own 52 2 (xs ++ [[i64 x11, Dv.sl 1 xs12]])) (.gref 2 v n 2) ld dn (IntKind.wrap IntKind.i64 (i + 1))) [B, rowB2 m ds, gB v cs] b) False) False)) False
theorem f13_round (xs ds : List (List Dv)) (cs : List AV) (i m ld : Int) (dn : Bool) (n v : Nat) (B : Blk) : wpc Tryd.prog ⟨T13, S13, wl, y, false⟩ 100 lp13 (tm13 (.own 52 2 xs) (.gref 2 v n 2) ld dn i) [B, rowB2 m ds, gB v cs] b (maskT [7, 8, 9, 10, 11, 12] K) = (
  v = v ∧ BIf (decide (i < (n : Int))) (BIf (!dn) (v = v ∧ BIf (decide (0 ≤ i) && decide (i < (n : Int))) (v = v ∧ v = v ∧ ∃ x0, List.take 1 (List.drop (Int.toNat i * 2 + 0) cs) = [AV.d (i64 x0)] ∧ ∃ m1, [AV.d (i64 x0)] = [AV.d (i64 m1)] ∧ (1 ≤ m1 ∧ m1 < 4611686018427387904) ∧ BIf (decide (lead m1 < ld))
      (BIf (true && decide ((xs.length + 1) * 32 ≤ 140737488355328)) (part2 b K ds cs i m ld n v B (xs ++ [[i64 m, .sl 1 ds]]) true) False) (part2 b K ds cs i m ld n v B xs dn)) False)
    (part2 b K ds cs i m ld n v B xs dn)) (K (Exit.exit 0) (tm13 (.own 52 2 xs) (.gref 2 v n 2) ld dn i) [B, rowB2 m ds, gB v cs] b)) := by kernel_rfl
end

/-! rows as cells -/
theorem flat_len (l : List Row) : (flatA (rowsR l)).length = l.length * 2 := by
  induction l with
  | nil => rfl
  | cons r l ih =>
    have : rowsR (r :: l) = rowD r :: rowsR l := rfl
    rw [this, flatA_cons, List.length_append, ih]; simp [rowD]; omega
theorem flat_split {rs : List Row} {k : Nat} {r : Row} (h : rs[k]? = some r) : flatA (rowsR rs) = flatA (rowsR (rs.take k)) ++ ([AV.d (i64 r.1), AV.d (.sl 1 (bytesR r.2))] ++ flatA (rowsR (rs.drop (k + 1)))) ∧ (flatA (rowsR (rs.take k))).length = k * 2 := by
  have hk := (List.getElem?_eq_some_iff.1 h).1
  constructor
  · have e : rs = rs.take k ++ r :: rs.drop (k + 1) := by
      rw [← (List.getElem?_eq_some_iff.1 h).2, ← List.drop_eq_getElem_cons hk, List.take_append_drop]
    conv => lhs; rw [e]
    simp [flatA, rowsR, rowD]
  · rw [flat_len, List.length_take, Nat.min_eq_left (by omega)]
theorem flat_two {rs : List Row} {k : Nat} {r : Row} (h : rs[k]? = some r) : List.take 2 (List.drop (k * 2) (flatA (rowsR rs))) = [AV.d (i64 r.1), AV.d (.sl 1 (bytesR r.2))] := by
  obtain ⟨h1, h2⟩ := flat_split h
  rw [h1, List.drop_left' h2]; rfl
theorem flat_one {rs : List Row} {k : Nat} {r : Row} (h : rs[k]? = some r) : List.take 1 (List.drop (k * 2 + 0) (flatA (rowsR rs))) = [AV.d (i64 r.1)] := by
  obtain ⟨h1, h2⟩ := flat_split h
  rw [h1, Nat.add_zero, List.drop_left' h2]; rfl
theorem flat_snd {rs : List Row} {k : Nat} {r : Row} (h : rs[k]? = some r) : List.take 1 (List.drop (k * 2 + 1) (flatA (rowsR rs))) = [AV.d (.sl 1 (bytesR r.2))] := by
  obtain ⟨h1, h2⟩ := flat_split h
  rw [h1, ← List.drop_drop, List.drop_left' h2]; rfl
theorem flat_set {rs : List Row} {k : Nat} (hk : k < rs.length) (m : Int) (p : List Int) : List.take (k * 2) (flatA (rowsR rs)) ++ [AV.d (i64 m), AV.d (.sl 1 (bytesR p))] ++ List.drop (k * 2 + 2) (flatA (rowsR rs)) = flatA (rowsR (rs.set k (m, p))) := by
  have hr : rs[k]? = some rs[k] := List.getElem?_eq_getElem hk
  obtain ⟨h1, h2⟩ := flat_split hr
  have hs : (rs.set k (m, p))[k]? = some (m, p) := by rw [List.getElem?_set_self hk]
  obtain ⟨h3, h4⟩ := flat_split hs
  rw [h3, h1, List.take_left' h2, ← List.drop_drop, List.drop_left' h2]
  have e1 : (rs.set k (m, p)).take k = rs.take k := by rw [List.take_set_of_le (Nat.le_refl _)]
  have e2 : (rs.set k (m, p)).drop (k + 1) = rs.drop (k + 1) := by rw [List.drop_set_of_lt (by omega)]
  rw [e1, e2]
  simp

theorem upd_id {y r : Row} (hr : r.2.length = 16) : upd y r = if and64 r.1 (lead y.1) != 0 then (xor64 r.1 y.1, xorL r.2 y.2) else r := by
  unfold upd
  rw [pad16 hr, b16_xorL, b16_id hr]
theorem part2_ok {β : Type} {b : β} {K : Exit → List AV → List Blk → β → Prop} {y : Row} {n v : Nat} {B : Blk} {out rs : List Row} {dn : Bool} {k : Nat} {r : Row} (hy : y.2.length = 16) (hr : rs[k]? = some r) (hr16 : r.2.length = 16) (hn : rs.length = n) (hnb : n ≤ 1000) (ho : out.length ≤ 100000)
    (hK : ∀ rs' : List Row, rs'.length = n → rs'.drop (k + 1) = rs.drop (k + 1) → K .normal (tm13 (.own 52 2 (rowsR (out ++ [upd y r]))) (.gref 2 v n 2) (lead y.1) dn ((k + 1 : Nat) : Int)) [B, rowB2 y.1 (bytesR y.2), gB v (flatA (rowsR rs'))] b) :
    part2 b K (bytesR y.2) (flatA (rowsR rs)) k y.1 (lead y.1) n v B (rowsR out) dn := by
  have hk : k < n := hn ▸ (List.getElem?_eq_some_iff.1 hr).1
  have hi : (decide ((0 : Int) ≤ (k : Int)) && decide ((k : Int) < (n : Int))) = true := by simp; omega
  have hw : ∀ (r0 : Row), rowsR out ++ [[i64 r0.1, .sl 1 (bytesR r0.2)]] = rowsR (out ++ [r0]) := fun r0 => by simp [rowsR, rowD]
  have hfit : (true && decide (((rowsR out).length + 1) * 32 ≤ 140737488355328)) = true := by simp [rowsR]; omega
  unfold part2
  rw [Int.toNat_natCast, flat_one hr, flat_snd hr, flat_two hr, flat_len, wrap_succ hk (by omega)]
  refine ⟨rfl, BIf.t hi ⟨rfl, rfl, _, rfl, BIf.of (fun h => ?_) fun h => ?_⟩⟩
  · refine ⟨rfl, BIf.t hi ⟨rfl, rfl, _, rfl, rfl, BIf.t hi ⟨rfl, rfl, _, rfl, r.2, y.2, _, rfl, ⟨by omega, by omega⟩, rfl, rfl, BIf.t hi ⟨rfl, BIf.t (by simp; omega) ⟨rfl, BIf.t hi ⟨rfl, ?_⟩⟩⟩⟩⟩⟩
    rw [flat_set (by omega)]
    have hset : (rs.set k (xor64 r.1 y.1, xorL r.2 y.2))[k]? = some (xor64 r.1 y.1, xorL r.2 y.2) := by rw [List.getElem?_set_self (by omega)]
    refine ⟨_, _, flat_two hset, BIf.t hfit ?_⟩
    have e : upd y r = (xor64 r.1 y.1, xorL r.2 y.2) := by rw [upd_id hr16, if_pos h]
    rw [hw (xor64 r.1 y.1, xorL r.2 y.2), ← e]
    rw [e]
    have := hK (rs.set k (xor64 r.1 y.1, xorL r.2 y.2)) (by simp [hn]) (List.drop_set_of_lt (by omega))
    rwa [e] at this
  · refine ⟨rfl, BIf.t hi ⟨rfl, _, _, rfl, BIf.t hfit ?_⟩⟩
    have e : upd y r = r := by rw [upd_id hr16, if_neg (by rw [h]; simp)]
    rw [hw r]
    have := hK rs hn rfl
    rwa [e] at this
theorem stepB_eq (y : Row) (out : List Row) (dn : Bool) (r : Row) (hy : y.2.length = 16) : stepB y (out, dn) r = ((if !dn && decide (lead r.1 < lead y.1) then out ++ [y] else out) ++ [upd y r], dn || decide (lead r.1 < lead y.1)) := by
  unfold stepB upd
  rw [b16_id hy]
theorem wr13 {Ev : Env Tryd.prog} {b : Ev.β} {Q : Exit → St Ev.β → Prop} (l : List Row) (hl : l.length ≤ 1000) (hok : ∀ r ∈ l, okMask r ∧ r.2.length = 16) (y : Row) (hy : y.2.length = 16) (B : Blk) (v : Nat) : ∀ (rest : List Row) (k : Nat) (out rs : List Row) (dn : Bool), l.drop k = rest → rs.drop k = rest → rs.length = l.length → out.length ≤ 2 * k →
    (∀ cs, Q (.exit 0) ⟨tm13 (.own 52 2 (rowsR (rest.foldl (stepB y) (out, dn)).1)) (.gref 2 v l.length 2) (lead y.1) (rest.foldl (stepB y) (out, dn)).2 l.length, [B, rowB2 y.1 (bytesR y.2), gB v cs], b⟩) → k ≤ l.length →
    WR Ev lp13 (rest.length + 1) ⟨tm13 (.own 52 2 (rowsR out)) (.gref 2 v l.length 2) (lead y.1) dn k, [B, rowB2 y.1 (bytesR y.2), gB v (flatA (rowsR rs))], b⟩ Q
  | [], k, out, rs, dn, hd, hd2, hrl, ho, hQ, hk => by
    refine WR.ofMaskT [7, 8, 9, 10, 11, 12] mixed (CX.Ok.of (u := false) T13_ok S13_ok) (k := 100) ?_
    rw [f13_round]
    have := drop_nil hd
    obtain rfl : k = l.length := by omega
    exact ⟨rfl, BIf.f (by simp) (hQ _)⟩
  | r :: rest, k, out, rs, dn, hd, hd2, hrl, ho, hQ, hk => by
    refine WR.ofMaskT [7, 8, 9, 10, 11, 12] mixed (CX.Ok.of (u := false) T13_ok S13_ok) (k := 100) ?_
    rw [f13_round]
    obtain ⟨hk, hr, hd'⟩ := drop_cons hd
    obtain ⟨_, hr2, hd2'⟩ := drop_cons hd2
    obtain ⟨hm, h16⟩ := hok r (List.mem_of_getElem? hr)
    have hi : (decide ((0 : Int) ≤ (k : Int)) && decide ((k : Int) < (l.length : Int))) = true := by simp; omega
    rw [List.foldl_cons, stepB_eq y out dn r hy] at hQ
    have hgo : ∀ (out' : List Row) (dn' : Bool), out'.length ≤ 2 * k + 1 → (out' ++ [upd y r], dn') = ((if !dn && decide (lead r.1 < lead y.1) then out ++ [y] else out) ++ [upd y r], dn || decide (lead r.1 < lead y.1)) →
        part2 b (thenK (fun tm hp b => WR Ev lp13 (rest.length + 1) ⟨tm, hp, b⟩ Q) fun e tm hp b => Q e ⟨tm, hp, b⟩) (bytesR y.2) (flatA (rowsR rs)) k y.1 (lead y.1) l.length v B (rowsR out') dn' := by
      intro out' dn' hlo he
      rw [← he] at hQ
      refine part2_ok hy hr2 h16 hrl hl (by omega) fun rs' h1 h2 => ?_
      exact wr13 l hl hok y hy B v rest (k + 1) _ rs' dn' hd' (h2.trans hd2') h1 (by simp; omega) hQ hk
    refine ⟨rfl, BIf.t (by simpa using hk) (BIf.of (fun h1 => ?_) fun h1 => ?_)⟩
    · have h1 : dn = false := by simpa using h1
      subst h1
      rw [Int.toNat_natCast, flat_one hr2]
      refine ⟨rfl, BIf.t hi ⟨rfl, rfl, _, rfl, r.1, rfl, ⟨hm.1, by have := hm.2; omega⟩, BIf.of (fun h2 => BIf.t (by simp [rowsR]; omega) ?_) fun h2 => ?_⟩⟩
      · have hw : rowsR out ++ [[i64 y.1, .sl 1 (bytesR y.2)]] = rowsR (out ++ [y]) := by simp [rowsR, rowD]
        rw [hw]
        exact hgo (out ++ [y]) true (by simp; omega) (by rw [h2]; simp)
      · exact hgo out false (by omega) (by rw [h2]; simp)
    · have h1 : dn = true := by simpa using h1
      subst h1
      exact hgo out true (by omega) (by simp)
def wl13 {β : Type} : WLT β := fun c tm hp b K => match tm.getD 11 .bad with
  | .gref .. => ∃ (l : List Row) (y : Row) (B : Blk) (z : List Row × Bool), c = .loop lp13 ∧ maskTm [7, 8, 9, 10, 11, 12] 0 tm = tm13 nilA (.gref 2 (l.length - 1) l.length 2) (lead y.1) false 0 ∧ hp = [B, rowB2 y.1 (bytesR y.2), gB (l.length - 1) (flatA (rowsR l))] ∧
      (l.length ≤ 1000 ∧ (∀ r ∈ l, okMask r ∧ r.2.length = 16) ∧ y.2.length = 16) ∧ z = l.foldl (stepB y) ([], false) ∧
      ∀ cs, K (.exit 0) (tm13 (.own 52 2 (rowsR z.1)) (.gref 2 (l.length - 1) l.length 2) (lead y.1) z.2 l.length) [B, rowB2 y.1 (bytesR y.2), gB (l.length - 1) cs] b
  | _ => ∃ (y : Row) (B : Blk), c = .loop lp13 ∧ maskTm [7, 8, 9, 10, 11, 12] 0 tm = tm13 nilA nilA (lead y.1) false 0 ∧ hp = [B, rowB2 y.1 (bytesR y.2)] ∧ K (.exit 0) (tm13 nilA nilA (lead y.1) false 0) [B, rowB2 y.1 (bytesR y.2)] b
theorem f13_round0 {β : Type} (wl : WLT β) (y : YieldT β) (b : β) (K : Exit → List AV → List Blk → β → Prop) (ld : Int) (hp : List Blk) : wpc Tryd.prog ⟨T13, S13, wl, y, false⟩ 100 lp13 (tm13 nilA nilA ld false 0) hp b (maskT [7, 8, 9, 10, 11, 12] K) = K (.exit 0) (tm13 nilA nilA ld false 0) hp b := by kernel_rfl
theorem wl13_ok {Ev : Env Tryd.prog} (c : Code) (tm : List AV) (hp : List Blk) (b : Ev.β) (K : Exit → List AV → List Blk → Ev.β → Prop) (h : wl13 c tm hp b K) : W Ev c ⟨tm, hp, b⟩ (fun e s => K e s.tm s.hp s.b) := by
  unfold wl13 at h
  split at h
  · obtain ⟨l, y, B, _, rfl, htm, rfl, ⟨h0, h1, h2⟩, rfl, hK⟩ := h
    refine W.cast (htm ▸ maskTm_le _ tm 0) (LeH.refl _) ?_
    refine W.cast (tm' := tm13 (.own 52 2 (rowsR [])) (.gref 2 (l.length - 1) l.length 2) (lead y.1) false 0) (LeL.at [_, _, _, _, _, _, _, _, _] _ (LeA.nilOwn rfl)) (LeH.refl _) ?_
    exact W.rounds (wr13 (Q := fun e s => K e s.tm s.hp s.b) l h0 h1 y h2 B _ l 0 [] l false rfl rfl rfl (by simp) hK (Nat.zero_le _))
  · obtain ⟨y, B, rfl, htm, rfl, hK⟩ := h
    refine W.cast (htm ▸ maskTm_le _ tm 0) (LeH.refl _) ?_
    refine W.rounds (m := 1) (WR.ofMaskT [7, 8, 9, 10, 11, 12] mixed (CX.Ok.of (u := false) T13_ok S13_ok) (k := 100) ?_)
    rw [f13_round0]; exact hK
end Go.Proofs.YtkjmhfbjdeidjaaDoor.Am

namespace Go.Proofs.YtkjmhfbjdeidjaaDoor.Am
set_option linter.unusedVariables false
open Go Go.RowKit Go.Proofs

def tup3 (a : AV) (n : Bool) (e : Int) : AV := .tup [a, .d (bo n), .d (i64 e)]
theorem f13_nf {β : Type} (y : YieldT β) (b : β) (R : AV → β → Prop) (xs ds : List (List Dv)) (m : Int) : wpFn Tryd.prog ⟨T13, S13, wl13, y, false⟩ 100 Tryd.f36 [.d (.sl 2 xs), .agg [.d (i64 m), .d (.sl 1 ds)]] b R = (
  ∃ l0 : List Row, [AV.d (Dv.sl 2 xs)] = [AV.d (Dv.sl 2 (rowsR l0))] ∧ l0.length ≤ 9223372036854775807 ∧ BIf (!validR l0) (R (tup3 nilA false 1) b) (∃ m1 p2, [AV.agg [AV.d (i64 m), AV.d (Dv.sl 1 ds)]] = [rowA m1 p2] ∧ BIf (!formedS m1 p2) (R (tup3 nilA false 1) b)
  (∃ (l3 : List Row) (m4 : Int) (p5 : List Int) (z6 : Row), [AV.d (Dv.sl 2 xs), AV.agg [AV.d (i64 m), AV.d (Dv.sl 1 ds)]] = [AV.d (Dv.sl 2 (rowsR l3)), rowA m4 p5] ∧ (l3.length ≤ 9223372036854775807 ∧ (∀ r ∈ l3, okMask r ∧ 16 ≤ r.2.length) ∧ 16 ≤ p5.length) ∧ z6 = l3.foldl redR (m4, p5) ∧
    BIf (z6.1 == 0) (∃ p7 r8, [AV.d (Dv.sl 1 (bytesR z6.2))] = [AV.d (Dv.sl 1 (bytesR p7))] ∧ p7.length ≤ 9223372036854775807 ∧ r8 = zeroL p7 ∧ BIf (!r8) (R (tup3 nilA false 12) b)
      (∃ l9 : List Row, [AV.d (Dv.sl 2 xs)] = [AV.d (Dv.sl 2 (rowsR l9))] ∧ smallRows l9 ∧ BIf (decide (l9.length = 0)) (R (tup3 nilA false 0) b) (l9.length - 1 = l9.length - 1 ∧ ∃ xs10, flatA (rowsR l9) = flatA xs10 ∧ xs10.length = l9.length ∧ (∀ r ∈ xs10, r.length = 2) ∧ R (tup3 (AV.d (Dv.sl 2 xs10)) false 0) b)))
    (∃ m11, [AV.d (i64 z6.1)] = [AV.d (i64 m11)] ∧ (1 ≤ m11 ∧ m11 < 4611686018427387904) ∧ ∃ l12 : List Row, [AV.d (Dv.sl 2 xs)] = [AV.d (Dv.sl 2 (rowsR l12))] ∧ smallRows l12 ∧ BIf (decide (l12.length = 0))
      (∃ (y13 : Row) (B14 : Blk), Code.loop lp13 = Code.loop lp13 ∧ tm13 nilA nilA (lead m11) false 0 = tm13 nilA nilA (lead y13.1) false 0 ∧ [rowB2 m ds, rowB2 z6.1 (bytesR z6.2)] = [B14, rowB2 y13.1 (bytesR y13.2)] ∧ R (tup3 (AV.d (Dv.sl 2 [[i64 y13.1, Dv.sl 1 (bytesR y13.2)]])) true 0) b)
      (∃ (l15 : List Row) (y16 : Row) (B17 : Blk) (z18 : List Row × Bool), Code.loop lp13 = Code.loop lp13 ∧ tm13 nilA (.gref 2 (l12.length - 1) l12.length 2) (lead m11) false 0 = tm13 nilA (.gref 2 (l15.length - 1) l15.length 2) (lead y16.1) false 0 ∧
        [rowB2 m ds, rowB2 z6.1 (bytesR z6.2), gB (l12.length - 1) (flatA (rowsR l12))] = [B17, rowB2 y16.1 (bytesR y16.2), gB (l15.length - 1) (flatA (rowsR l15))] ∧ (l15.length ≤ 1000 ∧ (∀ r ∈ l15, okMask r ∧ r.2.length = 16) ∧ y16.2.length = 16) ∧ z18 = l15.foldl (stepB y16) ([], false) ∧
        ∀ cs : List AV, BIf (!z18.2) (BIf (true && decide (((rowsR z18.1).length + 1) * 32 ≤ 140737488355328)) (R (tup3 (AV.d (Dv.sl 2 (rowsR z18.1 ++ [[i64 y16.1, Dv.sl 1 (bytesR y16.2)]]))) true 0) b) False) (R (tup3 (AV.d (Dv.sl 2 (rowsR z18.1))) true 0) b)))))) := by kernel_rfl
theorem zeroL_16 {p : List Int} (h : p.length = 16) : zeroL p = zero16 p := by
  rw [Bool.eq_iff_iff]
  unfold zeroL zero16
  rw [List.all_eq_true, List.all_eq_true]
  constructor
  · intro hh i hi
    have hi : i < p.length := by rw [h]; simpa using hi
    have e : nth p i = p[i] := by simp [nth, List.getD, hi]
    rw [e]; exact hh _ (List.getElem_mem hi)
  · intro hh x hx
    obtain ⟨i, hi, rfl⟩ := List.mem_iff_getElem.1 hx
    have := hh i (by simpa [h] using hi)
    simpa [nth, List.getD, hi] using this
/-- what the reference's Add answers is what Add answers -/
theorem pc13 (l : List Row) (m : Int) (p : List Int) (hs : smallRows l) : PCall Tryd.prog 36 [.d (.sl 2 (rowsR l)), rowA m p] (addR (addS l m p)) := by
  have hl : l.length ≤ 9223372036854775807 := by have := hs.1; omega
  refine PCall.ofFnL (n := 100) (u := false) (fun _ => wl13) mixed T13_ok S13_ok (fun Ev => wl13_ok) Tryd.func36 (by rfl) (by rfl) fun Ev bb => ?_
  show wpFn _ _ _ _ [_, .agg [.d (i64 m), .d (.sl 1 (bytesR p))]] _ _
  rw [f13_nf]
  have hbad : (!validS l || !fine m p) = true → LeT (tup3 nilA false 1) (addR (addS l m p)) := by
    intro h
    unfold addS
    rw [if_pos h]
    exact nilTup _ _
  refine ⟨l, rfl, hl, BIf.of (fun hv => hbad ?_) fun hv => ⟨m, p, rfl, BIf.of (fun hf => hbad ?_) fun hf => ?_⟩⟩
  · rw [← validR_eq l, hv]; rfl
  · rw [fine_formed, hf]; simp
  have hv : validR l = true := by simpa using hv
  have hf : formedS m p = true := by simpa using hf
  have hg := (validR_good l).1 hv
  have hf' := hf
  simp only [formedS, Bool.and_eq_true, decide_eq_true_eq] at hf'
  have h16 := hf'.2.2
  have ea : addS l m p = (if (l.foldl red (m, p)).1 == 0 && zero16 (l.foldl red (m, p)).2 then (l.map keepR, false, 0) else if (l.foldl red (m, p)).1 == 0 then ([], false, 12) else
      (if !(l.foldl (stepB (l.foldl red (m, p))) ([], false)).2 then (l.foldl (stepB (l.foldl red (m, p))) ([], false)).1 ++ [((l.foldl red (m, p)).1, b16 (l.foldl red (m, p)).2)] else (l.foldl (stepB (l.foldl red (m, p))) ([], false)).1, true, 0)) := by
    unfold addS
    rw [← validR_eq l, hv, fine_formed, hf, pad16 h16]
    rfl
  rw [ea]
  have hx16 : (l.foldl red (m, p)).2.length = 16 := fold_len h16
  have hbd := foldl_red_bd (x := (m, p)) ⟨by simp only; omega, hf'.2.1⟩ hg.mask
  refine ⟨l, m, p, _, rfl, ⟨hl, fun r hr => ⟨hg.mask r hr, by rw [hg.len16 r hr]; exact Nat.le_refl _⟩, by omega⟩, rfl, ?_⟩
  rw [foldR_red hg.len16]
  generalize l.foldl red (m, p) = x at hx16 hbd
  have hsmall : smallRows l := hs
  refine BIf.of (fun h0 => ⟨x.2, _, rfl, by omega, rfl, BIf.of (fun hz => ?_) fun hz => ⟨l, rfl, hsmall, BIf.of (fun hn => ?_) fun hn => ⟨rfl, rowsR l, rfl, by simp [rowsR], ?_, ?_⟩⟩⟩) fun h0 => ?_
  · have hz : zero16 x.2 = false := by rw [← zeroL_16 hx16]; simpa using hz
    rw [h0, hz]
    exact nilTup _ _
  · have hz : zero16 x.2 = true := by rw [← zeroL_16 hx16]; simpa using hz
    have hn : l = [] := List.length_eq_zero_iff.1 (by simpa using hn)
    rw [h0, hz, hn]
    exact nilTup _ _
  · intro r hr
    obtain ⟨r', _, rfl⟩ := List.mem_map.1 hr
    rfl
  · have hz : zero16 x.2 = true := by rw [← zeroL_16 hx16]; simpa using hz
    rw [h0, hz, keep_id hg]
    exact .rfl
  · have hx0 : x.1 ≠ 0 := by simpa using h0
    rw [h0]
    refine ⟨x.1, rfl, ⟨by omega, by omega⟩, l, rfl, hsmall, BIf.of (fun hn => ⟨x, _, rfl, rfl, rfl, ?_⟩) fun hn => ⟨l, x, _, _, rfl, rfl, rfl, ⟨hsmall.1, fun r hr => ⟨hg.mask r hr, hg.len16 r hr⟩, hx16⟩, rfl, fun cs => ?_⟩⟩
    · have hn : l = [] := List.length_eq_zero_iff.1 (by simpa using hn)
      subst hn
      simp only [List.foldl_nil, b16_id hx16]
      exact .rfl
    · have hlen : (l.foldl (stepB x) ([], false)).1.length ≤ 0 + l.length + 1 := (stepB_len1 x l ([], false)).1
      have h1000 := hsmall.1
      refine BIf.of (fun h1 => BIf.t (by simp [rowsR]; omega) ?_) fun h1 => ?_
      · have e : rowsR (l.foldl (stepB x) ([], false)).1 ++ [[i64 x.1, .sl 1 (bytesR x.2)]] = rowsR ((l.foldl (stepB x) ([], false)).1 ++ [(x.1, b16 x.2)]) := by simp [rowsR, rowD, b16_id hx16]
        rw [e, h1]
        exact .rfl
      · rw [h1]; exact .rfl
def c13 (args : List AV) (K : AV → Prop) : Prop := ∃ (l : List Row) (m : Int) (b : List Int) (x : List Row × Bool × Int), args = [.d (.sl 2 (rowsR l)), rowA m b] ∧ smallRows l ∧ x = addS l m b ∧ K (addR x)
theorem c13_ok : ∀ args K, c13 args K → ∃ x, PCall Tryd.prog 36 args x ∧ K x := by
  rintro _ K ⟨l, m, b, _, rfl, h1, rfl, h⟩; exact ⟨_, pc13 l m b h1, h⟩
end Go.Proofs.YtkjmhfbjdeidjaaDoor.Am

namespace Go.Proofs.YtkjmhfbjdeidjaaDoor.Am
set_option linter.unusedVariables false
open Go Go.RowKit Go.Proofs

/-! ### the reference's Encode -/
def TEr : List (Nat × (List AV → (AV → Prop) → Prop)) := [(25, cSeed), (19, cSetR), (26, c25)]
theorem TEr_ok : CallsOk Tryd.prog TEr := CallsOk.cons cSeedR_ok (CallsOk.cons cSetR_ok (CallsOk.cons c25_ok CallsOk.nil))
noncomputable def lpEr : Code := sub [1, 1, 1, 1, 1, 0, 1, 2, 3] (code Tryd.f13)
def tmEr (ps : List (List Dv)) (n s : Int) (d : AV) (v i : Int) : List AV := [.d (.sl 1 ps), .d (i64 n), .d (i64 s), .bad, .bad, .bad, .ptr 0 0, .bad, .bad, d, .d (i64 v), .d (i64 i)] ++ List.replicate 43 .bad
def zeros : List Int := [0, 0, 0, 0, 0, 0, 0, 0, 0, 0, 0, 0, 0, 0, 0, 0]
def zeroB (f : Bool) : Blk := ⟨[.d (u8 0), .d (u8 0), .d (u8 0), .d (u8 0), .d (u8 0), .d (u8 0), .d (u8 0), .d (u8 0), .d (u8 0), .d (u8 0), .d (u8 0), .d (u8 0), .d (u8 0), .d (u8 0), .d (u8 0), .d (u8 0)], f, false, 0⟩
def refD : AV := .ref 1 0 16 16 1
def lo16 (i : Int) : Int := IntKind.wrap .i64 (16 * i)
def hi16 (i : Int) : Int := IntKind.wrap .i64 (IntKind.wrap .i64 (16 * i) + 16)
def cut16 (ps : List (List Dv)) (i : Int) : List (List Dv) := List.take (Int.toNat (hi16 i) - Int.toNat (lo16 i)) (List.drop (Int.toNat (lo16 i)) ps)
def okCut (ps : List (List Dv)) (i : Int) : Prop := 0 ≤ lo16 i ∧ lo16 i ≤ hi16 i ∧ hi16 i ≤ (ps.length : Int) ∧ (ps.length : Int) ≤ (ps.length : Int)
instance (ps : List (List Dv)) (i : Int) : Decidable (okCut ps i) := inferInstanceAs (Decidable (_ ∧ _))
section
variable {β : Type} (wl : WLT β) (y : YieldT β) (b : β) (R : AV → β → Prop) (K : Exit → List AV → List Blk → β → Prop)
theorem rA (ps : List (List Dv)) (n s v i : Int) : wpc Tryd.prog ⟨TEr, [], wl, y, false⟩ 100 lpEr (tmEr ps n s refD v i) [resE, zeroB false] b (maskT [0, 1, 2, 6, 9, 10, 11] K) = (
  BIf (decide (i < 16)) (BIf (Int.tmod v 2 == 1) (BIf (true && decide (okCut ps i)) (∃ (p0 q1 r2 : List Int), [AV.d (.sl 1 (bytesR zeros)), .d (.sl 1 (cut16 ps i))] = [.d (.sl 1 (bytesR p0)), .d (.sl 1 (bytesR q1))] ∧ (16 ≤ p0.length ∧ 16 ≤ q1.length) ∧ r2 = xorL p0 q1 ∧
      K .normal (tmEr ps n s (.d (.sl 1 (bytesR r2))) (IntKind.wrap .i64 (Int.tdiv v 2)) (IntKind.wrap .i64 (i + 1))) [resE, zeroB true] b) False)
    (K .normal (tmEr ps n s refD (IntKind.wrap .i64 (Int.tdiv v 2)) (IntKind.wrap .i64 (i + 1))) [resE, zeroB false] b)) (K (.exit 0) (tmEr ps n s refD v i) [resE, zeroB false] b)) := by kernel_rfl
theorem rB (ps xs : List (List Dv)) (n s v i : Int) : wpc Tryd.prog ⟨TEr, [], wl, y, false⟩ 100 lpEr (tmEr ps n s (.d (.sl 1 xs)) v i) [resE, zeroB true] b (maskT [0, 1, 2, 6, 9, 10, 11] K) = (
  BIf (decide (i < 16)) (BIf (Int.tmod v 2 == 1) (BIf (true && decide (okCut ps i)) (∃ (p0 q1 r2 : List Int), [AV.d (.sl 1 xs), .d (.sl 1 (cut16 ps i))] = [.d (.sl 1 (bytesR p0)), .d (.sl 1 (bytesR q1))] ∧ (16 ≤ p0.length ∧ 16 ≤ q1.length) ∧ r2 = xorL p0 q1 ∧
      K .normal (tmEr ps n s (.d (.sl 1 (bytesR r2))) (IntKind.wrap .i64 (Int.tdiv v 2)) (IntKind.wrap .i64 (i + 1))) [resE, zeroB true] b) False)
    (K .normal (tmEr ps n s (.d (.sl 1 xs)) (IntKind.wrap .i64 (Int.tdiv v 2)) (IntKind.wrap .i64 (i + 1))) [resE, zeroB true] b)) (K (.exit 0) (tmEr ps n s (.d (.sl 1 xs)) v i) [resE, zeroB true] b)) := by kernel_rfl
end
theorem lo16_eq {k : Nat} (h : k < 16) : lo16 (k : Int) = ((16 * k : Nat) : Int) := by unfold lo16; rw [wrap_i64 (by omega) (by omega)]; omega
theorem hi16_eq {k : Nat} (h : k < 16) : hi16 (k : Int) = ((16 * k + 16 : Nat) : Int) := by
  have := lo16_eq h
  unfold lo16 at this
  unfold hi16; rw [this, wrap_i64 (by omega) (by omega)]; omega
theorem cut16_eq {p : List Int} {k : Nat} (h : k < 16) : cut16 (bytesR p) k = bytesR (blkS p k) := by
  unfold cut16
  rw [lo16_eq h, hi16_eq h]
  simp only [Int.toNat_natCast, bytesR_drop, bytesR_take]
  unfold blkS
  rw [show 16 * k + 16 - 16 * k = 16 by omega]
theorem okCut_of {p : List Int} (hp : p.length = 256) {k : Nat} (h : k < 16) : decide (okCut (bytesR p) k) = true := by
  refine decide_eq_true ?_
  unfold okCut
  rw [lo16_eq h, hi16_eq h, bytesR_len, hp]
  omega
theorem blkS_len {p : List Int} (hp : p.length = 256) {k : Nat} (h : k < 16) : (blkS p k).length = 16 := by simp [blkS]; omega
theorem div_step {S k : Nat} (hS : S < 65536) : IntKind.wrap .i64 (Int.tdiv ((S / 2 ^ k : Nat) : Int) 2) = ((S / 2 ^ (k + 1) : Nat) : Int) := by
  have e : Int.tdiv ((S / 2 ^ k : Nat) : Int) 2 = ((S / 2 ^ k / 2 : Nat) : Int) := rfl
  have e2 : S / 2 ^ k / 2 = S / 2 ^ (k + 1) := by rw [Nat.div_div_eq_div_mul, Nat.pow_succ]
  rw [e, e2]
  have : S / 2 ^ (k + 1) ≤ S := Nat.div_le_self _ _
  generalize S / 2 ^ (k + 1) = q at this ⊢
  exact wrap_i64 (by omega) (by omega)
theorem mod_bit {S k : Nat} : (Int.tmod ((S / 2 ^ k : Nat) : Int) 2 == 1) = S.testBit k := by
  have e : Int.tmod ((S / 2 ^ k : Nat) : Int) 2 = ((S / 2 ^ k % 2 : Nat) : Int) := rfl
  rw [e, Nat.testBit_eq_decide_div_mod_eq, Bool.eq_iff_iff]
  generalize S / 2 ^ k % 2 = q
  rw [beq_iff_eq, decide_eq_true_eq]
  omega
theorem step_blk {p : List Int} {S k : Nat} (hS : S < 65536) (o : List Int) : stepM p (S : Int) o k = if S.testBit k then xorL o (blkS p k) else o := by
  unfold stepM
  rw [bitT_testBit (by omega) (by omega), xorL_congr (fun i _ => rfl) fun i hi => (nth_blkS p hi).trans (nth_rowN hi).symm]; rfl
section
variable {Ev : Env Tryd.prog} {b : Ev.β} {Q : Exit → St Ev.β → Prop} (p : List Int) (n s : Int) (S : Nat) (hp : p.length = 256) (hS : S < 65536)
include hp hS
theorem wrEB : ∀ (m k : Nat) (o : List Int), k + m = 16 → 16 ≤ o.length → (∀ v : Int, Q (.exit 0) ⟨tmEr (bytesR p) n s (.d (.sl 1 (bytesR ((List.range' k m).foldl (stepM p (S : Int)) o)))) v 16, [resE, zeroB true], b⟩) →
    WR Ev lpEr (m + 1) ⟨tmEr (bytesR p) n s (.d (.sl 1 (bytesR o))) ((S / 2 ^ k : Nat) : Int) k, [resE, zeroB true], b⟩ Q
  | 0, k, o, hk, ho, hQ => by
    refine WR.ofMaskT [0, 1, 2, 6, 9, 10, 11] mixed (CX.Ok.of (u := false) TEr_ok SCallsOk.nil) (k := 100) ?_
    rw [rB]
    obtain rfl : k = 16 := by omega
    exact BIf.f (by simp) (hQ _)
  | m + 1, k, o, hk, ho, hQ => by
    refine WR.ofMaskT [0, 1, 2, 6, 9, 10, 11] mixed (CX.Ok.of (u := false) TEr_ok SCallsOk.nil) (k := 100) ?_
    have h16 : k < 16 := by omega
    rw [rB, mod_bit, cut16_eq h16, div_step hS]
    rw [List.range'_succ, List.foldl_cons, step_blk hS] at hQ
    have hbl := blkS_len hp h16
    rw [wrap_succ (n := 16) h16 (by omega)]
    refine BIf.t (decide_eq_true (by omega)) (BIf.of (fun hb => BIf.t (by rw [okCut_of hp h16]; rfl) ⟨o, blkS p k, _, rfl, ⟨ho, by omega⟩, rfl, ?_⟩) fun hb => ?_)
    · rw [hb, if_pos rfl] at hQ
      exact wrEB m (k + 1) _ (by omega) (by rw [xorL_len]; omega) hQ
    · rw [hb, if_neg (by simp)] at hQ
      exact wrEB m (k + 1) _ (by omega) ho hQ
theorem wrEA (hS1 : 1 ≤ S) : ∀ (m k : Nat), k + m = 16 → S % 2 ^ k = 0 → (∀ v : Int, Q (.exit 0) ⟨tmEr (bytesR p) n s (.d (.sl 1 (bytesR ((List.range' k m).foldl (stepM p (S : Int)) zeros)))) v 16, [resE, zeroB true], b⟩) →
    WR Ev lpEr (m + 1) ⟨tmEr (bytesR p) n s refD ((S / 2 ^ k : Nat) : Int) k, [resE, zeroB false], b⟩ Q
  | 0, k, hk, h0, hQ => by
    obtain rfl : k = 16 := by omega
    rw [Nat.mod_eq_of_lt (by omega)] at h0
    omega
  | m + 1, k, hk, h0, hQ => by
    refine WR.ofMaskT [0, 1, 2, 6, 9, 10, 11] mixed (CX.Ok.of (u := false) TEr_ok SCallsOk.nil) (k := 100) ?_
    have h16 : k < 16 := by omega
    rw [rA, mod_bit, cut16_eq h16, div_step hS]
    rw [List.range'_succ, List.foldl_cons, step_blk hS] at hQ
    have hbl := blkS_len hp h16
    rw [wrap_succ (n := 16) h16 (by omega)]
    refine BIf.t (decide_eq_true (by omega)) (BIf.of (fun hb => BIf.t (by rw [okCut_of hp h16]; rfl) ⟨zeros, blkS p k, _, rfl, ⟨by decide, by omega⟩, rfl, ?_⟩) fun hb => ?_)
    · rw [hb, if_pos rfl] at hQ
      exact wrEB p n s S hp hS m (k + 1) _ (by omega) (by rw [xorL_len]; omega) hQ
    · rw [hb, if_neg (by simp)] at hQ
      refine wrEA hS1 m (k + 1) (by omega) ?_ hQ
      rw [Nat.testBit_eq_decide_div_mod_eq, decide_eq_false_iff_not] at hb
      have h2 : S / 2 ^ k % 2 = 0 := by omega
      rw [Nat.pow_succ, Nat.mod_mul, h0, h2]; rfl
end
def wlEr {β : Type} : WLT β := fun c tm hp b K => ∃ (p : List Int) (n s v : Int) (q : List Int), c = .loop lpEr ∧ maskTm [0, 1, 2, 6, 9, 10, 11] 0 tm = tmEr (bytesR p) n s refD v 0 ∧ hp = [resE, zeroB false] ∧ (p.length = 256 ∧ 1 ≤ v ∧ v < 65536 ∧ q = sumB p v) ∧
  ∀ v : Int, K (.exit 0) (tmEr (bytesR p) n s (.d (.sl 1 (bytesR q))) v 16) [resE, zeroB true] b
theorem wlEr_ok {Ev : Env Tryd.prog} (c : Code) (tm : List AV) (hp : List Blk) (b : Ev.β) (K : Exit → List AV → List Blk → Ev.β → Prop) (h : wlEr c tm hp b K) : W Ev c ⟨tm, hp, b⟩ (fun e s => K e s.tm s.hp s.b) := by
  obtain ⟨p, n, s, v, q, rfl, htm, rfl, ⟨h1, h2, h3, rfl⟩, hK⟩ := h
  refine W.cast (htm ▸ maskTm_le _ tm 0) (LeH.refl _) ?_
  obtain ⟨S, rfl⟩ : ∃ S : Nat, v = S := ⟨v.toNat, by omega⟩
  have := wrEA (Q := fun e s => K e s.tm s.hp s.b) (b := b) p n s S h1 (by omega) (by omega) 16 0 rfl (Nat.mod_one _) (fun v => by
    have e : (List.range' 0 16).foldl (stepM p (S : Int)) zeros = sumB p (S : Int) := by unfold sumB; rw [List.range_eq_range']; rfl
    rw [e]; exact hK v)
  rw [Nat.pow_zero, Nat.div_one] at this
  exact W.rounds this
end Go.Proofs.YtkjmhfbjdeidjaaDoor.Am

namespace Go.Proofs.YtkjmhfbjdeidjaaDoor.Am
set_option linter.unusedVariables false
open Go Go.RowKit Go.Proofs

section
variable {β : Type} (wl : WLT β) (y : YieldT β) (b : β) (R : AV → β → Prop)
theorem encR_nf (ps : List (List Dv)) (n s : Int) : wpFn Tryd.prog ⟨TEr, [], wlEr, y, false⟩ 100 Tryd.f13 [.d (.sl 1 ps), .d (i64 n), .d (i64 s)] b R = ( ∃ (x0 : Int), [AV.d (i64 s)] = [AV.d (i64 x0)] ∧ BIf (!seedS x0) (R (AV.tup [AV.agg [AV.d (i64 (0 : Int)), AV.d (i64 (0 : Int)), AV.d (Dv.s (Value.slice none 0 0)), AV.d (Dv.s (Value.slice none 0 0))], AV.d (i64 (1 : Int))]) b) (BIf (↑(List.length ps) != (256 : Int)) (R (AV.tup [AV.agg [AV.d (i64 (0 : Int)), AV.d (i64 (0 : Int)), AV.d (Dv.s (Value.slice none 0 0)), AV.d (Dv.s (Value.slice none 0 0))], AV.d (i64 (1 : Int))]) b) (BIf (decide (n < (0 : Int))) (R (AV.tup [AV.agg [AV.d (i64 (0 : Int)), AV.d (i64 (0 : Int)), AV.d (Dv.s (Value.slice none 0 0)), AV.d (Dv.s (Value.slice none 0 0))], AV.d (i64 (1 : Int))]) b) (BIf (decide (n > (15 : Int))) (R (AV.tup [AV.agg [AV.d (i64 (0 : Int)), AV.d (i64 (0 : Int)), AV.d (Dv.s (Value.slice none 0 0)), AV.d (Dv.s (Value.slice none 0 0))], AV.d (i64 (1 : Int))]) b) (∃ (x1 : Int), ∃ (z2 : Int), [AV.d (i64 s)] = [AV.d (i64 x1)] ∧ z2 = setS x1 ∧ ∃ (p3 : List Int), ∃ (n4 : Int), ∃ (s5 : Int), ∃ (v6 : Int), ∃ (q7 : List Int), Code.loop lpEr = Code.loop lpEr ∧ [AV.d (Dv.sl 1 ps), AV.d (i64 n), AV.d (i64 s), AV.bad, AV.bad, AV.bad, AV.ptr 0 0, AV.bad, AV.bad, AV.ref 1 0 16 16 1, AV.d (i64 z2), AV.d (i64 (0 : Int)), AV.bad, AV.bad, AV.bad, AV.bad, AV.bad, AV.bad, AV.bad, AV.bad, AV.bad, AV.bad, AV.bad, AV.bad, AV.bad, AV.bad, AV.bad, AV.bad, AV.bad, AV.bad, AV.bad, AV.bad, AV.bad, AV.bad, AV.bad, AV.bad, AV.bad, AV.bad, AV.bad, AV.bad, AV.bad, AV.bad, AV.bad, AV.bad, AV.bad, AV.bad, AV.bad, AV.bad, AV.bad, AV.bad, AV.bad, AV.bad, AV.bad, AV.bad, AV.bad] = [AV.d (Dv.sl 1 (bytesR p3)), AV.d (i64 n4), AV.d (i64 s5), AV.bad, AV.bad, AV.bad, AV.ptr 0 0, AV.bad, AV.bad, AV.ref 1 0 16 16 1, AV.d (i64 v6), AV.d (i64 (0 : Int)), AV.bad, AV.bad, AV.bad, AV.bad, AV.bad, AV.bad, AV.bad, AV.bad, AV.bad, AV.bad, AV.bad, AV.bad, AV.bad, AV.bad, AV.bad, AV.bad, AV.bad, AV.bad, AV.bad, AV.bad, AV.bad, AV.bad, AV.bad, AV.bad, AV.bad, AV.bad, AV.bad, AV.bad, AV.bad, AV.bad, AV.bad, AV.bad, AV.bad, AV.bad, AV.bad, AV.bad, AV.bad, AV.bad, AV.bad, AV.bad, AV.bad, AV.bad, AV.bad] ∧ [Blk.mk [AV.d (i64 (0 : Int)), AV.d (i64 (0 : Int)), AV.d (Dv.s (Value.slice none 0 0)), AV.d (Dv.s (Value.slice none 0 0))] false false 0, Blk.mk [AV.d (u8 (0 : Int)), AV.d (u8 (0 : Int)), AV.d (u8 (0 : Int)), AV.d (u8 (0 : Int)), AV.d (u8 (0 : Int)), AV.d (u8 (0 : Int)), AV.d (u8 (0 : Int)), AV.d (u8 (0 : Int)), AV.d (u8 (0 : Int)), AV.d (u8 (0 : Int)), AV.d (u8 (0 : Int)), AV.d (u8 (0 : Int)), AV.d (u8 (0 : Int)), AV.d (u8 (0 : Int)), AV.d (u8 (0 : Int)), AV.d (u8 (0 : Int))] false false 0] = [Blk.mk [AV.d (i64 (0 : Int)), AV.d (i64 (0 : Int)), AV.d (Dv.s (Value.slice none 0 0)), AV.d (Dv.s (Value.slice none 0 0))] false false 0, Blk.mk [AV.d (u8 (0 : Int)), AV.d (u8 (0 : Int)), AV.d (u8 (0 : Int)), AV.d (u8 (0 : Int)), AV.d (u8 (0 : Int)), AV.d (u8 (0 : Int)), AV.d (u8 (0 : Int)), AV.d (u8 (0 : Int)), AV.d (u8 (0 : Int)), AV.d (u8 (0 : Int)), AV.d (u8 (0 : Int)), AV.d (u8 (0 : Int)), AV.d (u8 (0 : Int)), AV.d (u8 (0 : Int)), AV.d (u8 (0 : Int)), AV.d (u8 (0 : Int))] false false 0] ∧ (List.length p3 = 256 ∧ (1 : Int) ≤ v6 ∧ v6 < (65536 : Int) ∧ q7 = sumB p3 v6) ∧ ∀ (v : Int), R (AV.tup [AV.agg [AV.d (i64 n4), AV.d (i64 s5), AV.d (Dv.sl 1 (bytesR q7)), AV.d (Dv.s (Value.slice none 0 0))], AV.d (i64 (0 : Int))]) b))))) := by kernel_rfl
theorem valB_nf (n s : Int) (d pr : List (List Dv)) : wpFn Tryd.prog ⟨[(25, cSeed)], [], wl, y, false⟩ 100 Tryd.f35 [recA n s d pr] b R = ( ∃ (x0 : Int), [AV.d (i64 s)] = [AV.d (i64 x0)] ∧ BIf (seedS x0) (BIf (decide (n ≥ (0 : Int))) (BIf (decide (n < (16 : Int))) (R (AV.d (bo (↑(List.length d) == (16 : Int)))) b) (R (AV.d (bo false)) b)) (R (AV.d (bo false)) b)) (R (AV.d (bo false)) b)) := by kernel_rfl
theorem sameB_nf (n s n' s' : Int) (d pr d' pr' : List (List Dv)) : wpFn Tryd.prog ⟨[(22, c19)], [], wl, y, false⟩ 100 Tryd.f20 [recA n s d pr, recA n' s' d' pr'] b R = ( ∃ (p0 : List Int), ∃ (q1 : List Int), ∃ (r2 : Bool), [AV.d (Dv.sl 1 d), AV.d (Dv.sl 1 d')] = [AV.d (Dv.sl 1 (bytesR p0)), AV.d (Dv.sl 1 (bytesR q1))] ∧ List.length p0 ≤ 9223372036854775807 ∧ r2 = (p0 == q1) ∧ BIf r2 (BIf (n == n') (R (AV.d (bo (s == s'))) b) (R (AV.d (bo false)) b)) (R (AV.d (bo false)) b)) := by kernel_rfl
end
theorem nilEV : LeV (.tup [.agg [.d (i64 0), .d (i64 0), .d (.s (.slice none 0 0)), .d (.s (.slice none 0 0))], .d (i64 1)]) (codeB ([], 0, 0, 1)) :=
  .tups (.cons (.aggs (.cons .rfl (.cons .rfl (.cons nilSlV (.cons nilSlV .nil))))) (.cons .rfl .nil))
theorem pcEncodeR (p : List Int) (n s : Int) : PCall Tryd.prog 13 [.d (.sl 1 (bytesR p)), .d (i64 n), .d (i64 s)] (codeB (encR p n s)) := by
  refine PCall.ofFnV (n := 100) (u := false) (fun _ => wlEr) mixed TEr_ok SCallsOk.nil (fun Ev => wlEr_ok) Tryd.func13 (by rfl) (by rfl) fun Ev bb => ?_
  rw [encR_nf, bytesR_len]
  have bad : encOk p n s = false → encR p n s = ([], 0, 0, 1) := fun h => by rw [encR, if_neg (by simp [h])]
  refine ⟨s, rfl, BIf.of (fun h => ?_) fun h1 => BIf.of (fun h => ?_) fun h2 => BIf.of (fun h => ?_) fun h3 => BIf.of (fun h => ?_) fun h4 => ?_⟩
  · rw [bad (by simp at h; simp [encOk, h])]; exact nilEV
  · rw [bad (by simp [encOk]; intro h3; simp at h; omega)]; exact nilEV
  · rw [bad (by simp at h; simp [encOk, pageS]; omega)]; exact nilEV
  · rw [bad (by simp at h; simp [encOk, pageS]; omega)]; exact nilEV
  · have h1 : seedS s = true := by simpa using h1
    have h2 : p.length = 256 := by simp at h2; omega
    have ho : encOk p n s = true := by simp at h3 h4; simp [encOk, h1, h2, pageS]; omega
    obtain ⟨s0, s1⟩ := setS_range h1
    refine ⟨s, setS s, rfl, rfl, p, n, s, setS s, _, rfl, rfl, rfl, ⟨h2, by omega, by omega, rfl⟩, fun v => ?_⟩
    rw [encR, if_pos ho, enc_sum h1]
    exact .tups (.cons (.aggs (.cons .rfl (.cons .rfl (.cons .rfl (.cons nilSlV .nil))))) (.cons .rfl .nil))
def cEncodeR (args : List AV) (K : AV → Prop) : Prop := ∃ (p : List Int) (n s : Int) (x : List Int × Int × Int × Int), args = [.d (.sl 1 (bytesR p)), .d (i64 n), .d (i64 s)] ∧ x = encR p n s ∧ K (codeB x)
theorem cEncodeR_ok : ∀ args K, cEncodeR args K → ∃ x, PCall Tryd.prog 13 args x ∧ K x := by
  rintro _ K ⟨p, n, s, _, rfl, rfl, h⟩; exact ⟨_, pcEncodeR p n s, h⟩

def valS (n s : Int) (k : Nat) : Bool := pageS n && seedS s && decide (k = 16)
theorem pcValidB (n s : Int) (d pr : List (List Dv)) : PCall Tryd.prog 35 [recA n s d pr] (.d (bo (valS n s d.length))) := by
  refine PCall.ofFn (n := 100) (u := false) mixed (T := [(25, cSeed)]) (CallsOk.cons cSeedR_ok CallsOk.nil) SCallsOk.nil Tryd.func35 (by rfl) (by rfl) fun Ev bb => ?_
  rw [valB_nf]
  refine ⟨s, rfl, BIf.of (fun h1 => BIf.of (fun h2 => BIf.of (fun h3 => ?_) fun h3 => ?_) fun h2 => ?_) fun h1 => ?_⟩
  · have e : ((d.length : Int) == 16) = decide (d.length = 16) := by rw [Bool.eq_iff_iff, beq_iff_eq, decide_eq_true_eq]; omega
    have e2 : pageS n = true := by simp at h2 h3; simp [pageS]; omega
    rw [e, valS, h1, e2]; simp
  · have e2 : pageS n = false := by simp at h2 h3; simp [pageS]; omega
    rw [valS, e2]; simp
  · have e2 : pageS n = false := by simp at h2; simp [pageS]; omega
    rw [valS, e2]; simp
  · rw [valS, h1]; simp
def cValidB (args : List AV) (K : AV → Prop) : Prop := ∃ (n s : Int) (d pr : List (List Dv)) (z : Bool), args = [recA n s d pr] ∧ z = valS n s d.length ∧ K (.d (bo z))
theorem cValidB_ok : ∀ args K, cValidB args K → ∃ x, PCall Tryd.prog 35 args x ∧ K x := by
  rintro _ K ⟨n, s, d, pr, _, rfl, rfl, h⟩; exact ⟨_, pcValidB n s d pr, h⟩
def TRr : List (Nat × (List AV → (AV → Prop) → Prop)) := [(35, cValidB), (19, cSetR), (36, c13)]
theorem TRr_ok : CallsOk Tryd.prog TRr := CallsOk.cons cValidB_ok (CallsOk.cons cSetR_ok (CallsOk.cons c13_ok CallsOk.nil))
section
variable {β : Type} (wl : WLT β) (y : YieldT β) (b : β) (R : AV → β → Prop)
theorem recR_nf (xs ys pr : List (List Dv)) (n s : Int) : wpFn Tryd.prog ⟨TRr, [], wl, y, false⟩ 100 Tryd.f15 [.d (.sl 2 xs), recA n s ys pr] b R = ( ∃ (n0 : Int), ∃ (s1 : Int), ∃ (d2 : List (List Dv)), ∃ (pr3 : List (List Dv)), ∃ (z4 : Bool), [AV.agg [AV.d (i64 n), AV.d (i64 s), AV.d (Dv.sl 1 ys), AV.d (Dv.sl 1 pr)]] = [AV.agg [AV.d (i64 n0), AV.d (i64 s1), AV.d (Dv.sl 1 d2), AV.d (Dv.sl 1 pr3)]] ∧ z4 = valS n0 s1 (List.length d2) ∧ BIf (!z4) (R (AV.tup [AV.d (Dv.s (Value.slice none 0 0)), AV.d (bo false), AV.d (i64 (1 : Int))]) b) (∃ (x5 : Int), ∃ (z6 : Int), [AV.d (i64 s)] = [AV.d (i64 x5)] ∧ z6 = setS x5 ∧ ∃ (l7 : List Row), ∃ (m8 : Int), ∃ (b9 : List Int), ∃ (x10 : List Row × Bool × Int), [AV.d (Dv.sl 2 xs), AV.agg [AV.d (i64 z6), AV.d (Dv.sl 1 ys)]] = [AV.d (Dv.sl 2 (rowsR l7)), AV.agg [AV.d (i64 m8), AV.d (Dv.sl 1 (bytesR b9))]] ∧ (List.length l7 ≤ 1000 ∧ ∀ (r : Row), r ∈ l7 → List.length (Prod.snd r) ≤ 1000) ∧ x10 = addS l7 m8 b9 ∧ R (AV.tup [AV.d (Dv.sl 2 (rowsR (Prod.fst x10))), AV.d (bo (Prod.fst (Prod.snd x10))), AV.d (i64 (Prod.snd (Prod.snd x10)))]) b)) := by kernel_rfl
end
theorem pcReceiveR (l : List Row) (n s : Int) (d : List Int) (pr : List (List Dv)) (hl : smallRows l) : PCall Tryd.prog 15 [.d (.sl 2 (rowsR l)), recA n s (bytesR d) pr] (addR (recS l n s d)) := by
  refine PCall.ofFnL (n := 100) (u := false) (fun _ => fun _ _ _ _ _ => False) mixed TRr_ok SCallsOk.nil (fun Ev _ _ _ _ _ h => h.elim) Tryd.func15 (by rfl) (by rfl) fun Ev bb => ?_
  rw [recR_nf]
  refine ⟨n, s, _, pr, _, rfl, rfl, BIf.of (fun h1 => ?_) fun h1 => ?_⟩
  · rw [recS, if_neg (by rw [bytesR_len] at h1; rw [show recOk n s d = valS n s d.length from rfl]; simpa using h1)]; exact nilTup _ _
  · rw [recS, if_pos (by rw [bytesR_len] at h1; rw [show recOk n s d = valS n s d.length from rfl]; simpa using h1)]
    exact ⟨s, _, rfl, rfl, l, _, d, _, rfl, hl, rfl, .rfl⟩
def cReceiveR (args : List AV) (K : AV → Prop) : Prop := ∃ (l : List Row) (n s : Int) (d : List Int) (pr : List (List Dv)) (x : List Row × Bool × Int), args = [.d (.sl 2 (rowsR l)), recA n s (bytesR d) pr] ∧ (smallRows l ∧ x = recS l n s d) ∧ K (addR x)
theorem cReceiveR_ok : ∀ args K, cReceiveR args K → ∃ x, PCall Tryd.prog 15 args x ∧ K x := by
  rintro _ K ⟨l, n, s, d, pr, _, rfl, ⟨hl, rfl⟩, h⟩; exact ⟨_, pcReceiveR l n s d pr hl, h⟩
def sameS (n s n' s' : Int) (d d' : List Int) : Bool := (d == d') && ((n == n') && (s == s'))
theorem pcSameB (n s n' s' : Int) (d d' : List Int) (pr pr' : List (List Dv)) (hl : d.length ≤ 9223372036854775807) : PCall Tryd.prog 20 [recA n s (bytesR d) pr, recA n' s' (bytesR d') pr'] (.d (bo (sameS n s n' s' d d'))) := by
  refine PCall.ofFn (n := 100) (u := false) mixed (T := [(22, c19)]) (CallsOk.cons c19_ok CallsOk.nil) SCallsOk.nil Tryd.func20 (by rfl) (by rfl) fun Ev bb => ?_
  rw [sameB_nf]
  refine ⟨d, d', _, rfl, hl, rfl, BIf.of (fun h1 => BIf.of (fun h2 => ?_) fun h2 => ?_) fun h1 => ?_⟩
  · rw [sameS, h1, h2]; rfl
  · rw [sameS, h1, h2]; rfl
  · rw [sameS, h1]; rfl
def cSameB (args : List AV) (K : AV → Prop) : Prop := ∃ (n s n' s' : Int) (d d' : List Int) (pr pr' : List (List Dv)) (z : Bool), args = [recA n s (bytesR d) pr, recA n' s' (bytesR d') pr'] ∧ (d.length ≤ 9223372036854775807 ∧ z = sameS n s n' s' d d') ∧ K (.d (bo z))
theorem cSameB_ok : ∀ args K, cSameB args K → ∃ x, PCall Tryd.prog 20 args x ∧ K x := by
  rintro _ K ⟨n, s, n', s', d, d', pr, pr', _, rfl, ⟨hl, rfl⟩, h⟩; exact ⟨_, pcSameB n s n' s' d d' pr pr' hl, h⟩
end Go.Proofs.YtkjmhfbjdeidjaaDoor.Am

namespace Go.Proofs.YtkjmhfbjdeidjaaDoor.Am
set_option linter.unusedVariables false
open Go Go.RowKit Go.Proofs

/-! ### the reference's Page -/
noncomputable def lpPr : Code := sub [1, 1, 1, 1, 0, 1, 2, 3] (code Tryd.f17)
def tmPr (l : List (List Dv)) (acc : AV) (i : Int) : List AV := [.d (.sl 2 l), .bad, .bad, .bad, .bad, acc, .d (i64 i)] ++ List.replicate 21 .bad
def TPr : List (Nat × (List AV → (AV → Prop) → Prop)) := [(39, c21)]
theorem TPr_ok : CallsOk Tryd.prog TPr := CallsOk.cons c21_ok CallsOk.nil
section
variable {β : Type} (wl : WLT β) (y : YieldT β) (b : β) (K : Exit → List AV → List Blk → β → Prop)
theorem rPr (l xs : List (List Dv)) (i : Int) : wpc Tryd.prog ⟨TPr, [], wl, y, false⟩ 100 lpPr (tmPr l (.own 5 1 xs) i) [] b (maskK 0 [0, 5, 6] K) = (
  BIf (decide (i ≥ 0)) (BIf (true && decide (0 ≤ i)) (∃ (x0 : Int) (xs1 : List (List Dv)), l[Int.toNat i]? = some [i64 x0, .sl 1 xs1] ∧ BIf (true && decide ((xs.length + xs1.length) * 1 ≤ 140737488355328)) (K .normal (tmPr l (.own 5 1 (xs ++ xs1)) (IntKind.wrap .i64 (i - 1))) [] b) False) False)
    (K (.exit 0) (tmPr l (.own 5 1 xs) i) [] b)) := by kernel_rfl
end
theorem take_row {l : List Row} {k : Nat} (h : k < l.length) : l.take (k + 1) = l.take k ++ [l[k]] := by rw [List.take_add_one]; simp [h]
theorem wrPr {Ev : Env Tryd.prog} {b : Ev.β} {Q : Exit → St Ev.β → Prop} (l : List Row) (hl : l.length = 16) (hr : ∀ r ∈ l, r.2.length = 16) : ∀ (k : Nat) (q : List Int), k ≤ 16 → q.length + 16 * k ≤ 1000 →
    Q (.exit 0) ⟨tmPr (rowsR l) (.own 5 1 (bytesR (q ++ (l.take k).reverse.flatMap (·.2)))) (-1), [], b⟩ → WR Ev lpPr (k + 1) ⟨tmPr (rowsR l) (.own 5 1 (bytesR q)) ((k : Int) - 1), [], b⟩ Q
  | 0, q, hk, hq, hQ => by
    refine WR.ofMask [0, 5, 6] mixed (CX.Ok.of (u := false) TPr_ok SCallsOk.nil) (k := 100) ?_
    show wpc _ _ _ _ _ _ _ (maskK 0 _ _)
    rw [rPr]
    refine BIf.f (by simp) ?_
    rw [List.take_zero, List.reverse_nil, List.flatMap_nil, List.append_nil] at hQ
    exact hQ
  | k + 1, q, hk, hq, hQ => by
    refine WR.ofMask [0, 5, 6] mixed (CX.Ok.of (u := false) TPr_ok SCallsOk.nil) (k := 100) ?_
    show wpc _ _ _ _ _ _ _ (maskK 0 _ _)
    rw [rPr]
    have e : ((k + 1 : Nat) : Int) - 1 = (k : Int) := by omega
    have hk' : k < l.length := by omega
    have hlen := hr l[k] (List.getElem_mem hk')
    rw [e, wrap_i64 (by omega) (by omega)]
    refine BIf.t (by simp) (BIf.t (by simp) ⟨(l[k]).1, bytesR (l[k]).2, by simp [rowsR, hk']; rfl, BIf.t (by simp [bytesR_len]; omega) ?_⟩)
    rw [← bytesR_app]
    refine wrPr l hl hr k _ (by omega) (by simp; omega) ?_
    have e2 : (q ++ (l[k]).2) ++ (l.take k).reverse.flatMap (·.2) = q ++ (l.take (k + 1)).reverse.flatMap (·.2) := by rw [take_row hk', List.reverse_append]; simp [List.flatMap_cons, List.append_assoc]
    rw [e2]; exact hQ
def wlPr {β : Type} : WLT β := fun c tm hp b K => ∃ (l : List Row) (q : List Int), c = .loop lpPr ∧ maskTm [0, 5, 6] 0 tm = tmPr (rowsR l) (.d (.s (.slice none 0 0))) 15 ∧ hp = [] ∧ (l.length = 16 ∧ (∀ r ∈ l, r.2.length = 16) ∧ q = l.reverse.flatMap (·.2)) ∧ K (.exit 0) (tmPr (rowsR l) (.own 5 1 (bytesR q)) (-1)) [] b
theorem wlPr_ok {Ev : Env Tryd.prog} (c : Code) (tm : List AV) (hp : List Blk) (b : Ev.β) (K : Exit → List AV → List Blk → Ev.β → Prop) (h : wlPr c tm hp b K) : W Ev c ⟨tm, hp, b⟩ (fun e s => K e s.tm s.hp s.b) := by
  obtain ⟨l, q, rfl, htm, rfl, ⟨h1, h2, rfl⟩, hK⟩ := h
  refine W.cast (htm ▸ maskTm_le _ tm 0) (LeH.refl _) ?_
  refine W.cast (tm' := tmPr (rowsR l) (.own 5 1 (bytesR [])) 15) (LeL.at [_, _, _, _, _] _ (LeA.nilOwn rfl)) (LeH.refl _) ?_
  refine W.rounds (wrPr (Q := fun e s => K e s.tm s.hp s.b) l h1 h2 16 [] (Nat.le_refl _) (by decide) ?_)
  rw [List.take_of_length_le (by omega)]; exact hK
section
variable {β : Type} (y : YieldT β) (b : β) (R : AV → β → Prop)
theorem pageR_nf (l : List (List Dv)) : wpFn Tryd.prog ⟨TPr, [], wlPr, y, false⟩ 100 Tryd.f17 [.d (.sl 2 l)] b R = ( ∃ (l0 : List Row), [AV.d (Dv.sl 2 l)] = [AV.d (Dv.sl 2 (rowsR l0))] ∧ List.length l0 ≤ 9223372036854775807 ∧ BIf (!validR l0) (R (AV.tup [AV.d (Dv.s (Value.slice none 0 0)), AV.d (bo false)]) b) (BIf (↑(List.length l) != (16 : Int)) (R (AV.tup [AV.d (Dv.s (Value.slice none 0 0)), AV.d (bo false)]) b) (∃ (l1 : List Row), ∃ (q2 : List Int), Code.loop lpPr = Code.loop lpPr ∧ [AV.d (Dv.sl 2 l), AV.bad, AV.bad, AV.bad, AV.bad, AV.d (Dv.s (Value.slice none 0 0)), AV.d (i64 (15 : Int)), AV.bad, AV.bad, AV.bad, AV.bad, AV.bad, AV.bad, AV.bad, AV.bad, AV.bad, AV.bad, AV.bad, AV.bad, AV.bad, AV.bad, AV.bad, AV.bad, AV.bad, AV.bad, AV.bad, AV.bad, AV.bad] = [AV.d (Dv.sl 2 (rowsR l1)), AV.bad, AV.bad, AV.bad, AV.bad, AV.d (Dv.s (Value.slice none 0 0)), AV.d (i64 (15 : Int)), AV.bad, AV.bad, AV.bad, AV.bad, AV.bad, AV.bad, AV.bad, AV.bad, AV.bad, AV.bad, AV.bad, AV.bad, AV.bad, AV.bad, AV.bad, AV.bad, AV.bad, AV.bad, AV.bad, AV.bad, AV.bad] ∧ ([] : List Blk) = [] ∧ (List.length l1 = 16 ∧ (∀ (r : Row), r ∈ l1 → List.length (Prod.snd r) = 16) ∧ q2 = List.flatMap (fun (x3 : Row) => Prod.snd x3) (List.reverse l1)) ∧ R (AV.tup [AV.d (Dv.sl 1 (bytesR q2)), AV.d (bo true)]) b))) := by kernel_rfl
end

/-! what it comes to -/
theorem falls_at : ∀ {l : List Row} {n : Nat}, (l.Pairwise fun a b => top b.1 < top a.1) → (∀ r ∈ l, top r.1 < n) → l.length = n → ∀ (j : Nat) (r : Row), l[j]? = some r → top r.1 + j + 1 = n
  | [], n, _, _, _, j, r, h => by simp at h
  | a :: l, n, hp, hn, hl, j, r, h => by
    obtain ⟨h1, h2⟩ := List.pairwise_cons.1 hp
    have h3 := (falls_len (l := l) (n := top a.1) h2 fun s hs => h1 s hs).1
    have h4 := hn a (List.mem_cons_self ..)
    simp only [List.length_cons] at hl
    have h5 : top a.1 + 1 = n := by omega
    cases j with
    | zero => simp at h; subst h; omega
    | succ j =>
      have := falls_at (n := top a.1) h2 (fun s hs => h1 s hs) (by omega) j r (by simpa using h)
      omega
theorem flat_rows (f : Nat → List Int) : ∀ (m : List Row) (k : Nat), (∀ (i : Nat) (r : Row), m[i]? = some r → r.2 = f (k + i)) → m.flatMap (·.2) = (List.range' k m.length).flatMap f
  | [], k, _ => rfl
  | r :: m, k, h => by
    rw [List.flatMap_cons, List.length_cons, List.range'_succ, List.flatMap_cons, flat_rows f m (k + 1) fun i s hs => by rw [h (i + 1) s (by simpa using hs)]; congr 1; omega]
    rw [h 0 r rfl, Nat.add_zero]
theorem solved_at {l : List Row} (hg : Good l) (hl : l.length = 16) {j : Nat} {r : Row} (h : l[j]? = some r) : solvedS l ((15 - j : Nat) : Int) = (r.2, true) := by
  have hm := List.mem_of_getElem? h
  have ht := falls_at hg.falls (fun r hr => top_lt (hg.mask r hr).1 (hg.mask r hr).2) hl j r h
  have hi : 15 - j < 16 := by omega
  have hv := (validS_good l).2 hg
  obtain ⟨r', hr', he⟩ := hg.full hl hi
  have hrr : r = r' := hg.uniq hm hr' (by rw [he, top_two]; omega)
  subst hrr
  unfold solvedS
  rw [decide_eq_false (by omega), decide_eq_false (by omega), hv, find_uniq hg hm hi he]
  have h16 := hg.len16 r hm
  have : foundS l ((15 - j : Nat) : Int) = r.2 := by
    unfold foundS
    rw [find_uniq hg hm hi he]
    show b16 (pad r.2) = r.2
    rw [pad16 h16, b16_id h16]
  rw [this]; rfl
theorem pages_rows {l : List Row} (hg : Good l) (hl : l.length = 16) : pagesS l = (l.reverse.flatMap (·.2), true) := by
  have key : ∀ (i : Nat) (r : Row), l.reverse[i]? = some r → solvedS l ((i : Nat) : Int) = (r.2, true) := by
    intro i r h
    have hi : i < 16 := by have := (List.getElem?_eq_some_iff.1 h).1; simp at this; omega
    rw [List.getElem?_reverse (by omega)] at h
    have := solved_at hg hl h
    rw [show 15 - (l.length - 1 - i) = i by omega] at this
    exact this
  have hall : ∀ i : Nat, i < 16 → (solvedS l (i : Int)).2 = true := fun i hi => by
    have : i < l.reverse.length := by simp; omega
    rw [key i _ (List.getElem?_eq_getElem this)]
  rw [pagesS_eq, if_pos (List.all_eq_true.2 fun i hi => hall i (by simp [List.mem_range'_1] at hi; omega))]
  have := flat_rows (fun i : Nat => (solvedS l (i : Int)).1) l.reverse 0 fun i r h => by rw [Nat.zero_add, key i r h]
  rw [this]
  simp [hl]
theorem pages_not {l : List Row} (h : ¬ (Good l ∧ l.length = 16)) : pagesS l = ([], false) := by
  rw [pagesS_eq, if_neg]
  intro hh
  have hall : ∀ i : Nat, i < 16 → (solvedS l (i : Int)).2 = true := fun i hi => List.all_eq_true.1 hh i (by simp [List.mem_range'_1]; omega)
  have hg : Good l := by
    rw [← validS_good]
    cases hv : validS l with
    | true => rfl
    | false =>
      have := hall 0 (by omega)
      unfold solvedS at this
      rw [hv] at this
      simp at this
  have h1 := falls_full 16 hg.falls fun i hi => solved_row i hi (hall i hi)
  have h2 := hg.len
  exact h ⟨hg, by omega⟩
theorem pcPageR (l : List Row) (hl : l.length ≤ 9223372036854775807) : PCall Tryd.prog 17 [.d (.sl 2 (rowsR l))] (bytesB (pagesS l)) := by
  refine PCall.ofFnL (n := 100) (u := false) (fun _ => wlPr) mixed TPr_ok SCallsOk.nil (fun Ev => wlPr_ok) Tryd.func17 (by rfl) (by rfl) fun Ev bb => ?_
  rw [pageR_nf]
  have hlen : (rowsR l).length = l.length := by simp [rowsR]
  rw [hlen]
  refine ⟨l, rfl, hl, BIf.of (fun h1 => ?_) fun h1 => BIf.of (fun h2 => ?_) fun h2 => ?_⟩
  · rw [pages_not fun hh => by rw [(validR_good l).2 hh.1] at h1; cases h1]; exact nilTup1 _
  · rw [pages_not fun hh => by rw [hh.2] at h2; simp at h2]; exact nilTup1 _
  · have hg : Good l := (validR_good l).1 (by simpa using h1)
    have h16 : l.length = 16 := by simp at h2; omega
    refine ⟨l, _, rfl, rfl, rfl, ⟨h16, hg.len16, rfl⟩, ?_⟩
    rw [pages_rows hg h16]; exact .rfl
def cPageR (args : List AV) (K : AV → Prop) : Prop := ∃ (l : List Row) (x : List Int × Bool), args = [.d (.sl 2 (rowsR l))] ∧ (l.length ≤ 9223372036854775807 ∧ x = pagesS l) ∧ K (bytesB x)
theorem cPageR_ok : ∀ args K, cPageR args K → ∃ x, PCall Tryd.prog 17 args x ∧ K x := by
  rintro _ K ⟨l, _, rfl, ⟨hl, rfl⟩, h⟩; exact ⟨_, pcPageR l hl, h⟩
def TRef : List (Nat × (List AV → (AV → Prop) → Prop)) := [(10, cHead), (11, c11), (12, cEncodeB), (13, cEncodeR), (14, cReceive), (15, cReceiveR), (16, cPage), (17, cPageR), (18, cSet), (19, cSetR), (20, cSameB), (21, c18), (22, c19)]
theorem TRef_ok : CallsOk Tryd.prog TRef := CallsOk.cons cHead_ok (CallsOk.cons c11_ok (CallsOk.cons cEncodeB_ok (CallsOk.cons cEncodeR_ok (CallsOk.cons cReceive_ok (CallsOk.cons cReceiveR_ok (CallsOk.cons cPage_ok (CallsOk.cons cPageR_ok (CallsOk.cons cSet_ok (CallsOk.cons cSetR_ok (CallsOk.cons cSameB_ok (CallsOk.cons c18_ok (CallsOk.cons c19_ok CallsOk.nil))))))))))))
section
variable {β : Type} (wl : WLT β) (y : YieldT β) (b : β) (R : AV → β → Prop)
theorem refl_nf (ps xs ys pr : List (List Dv)) (n s n' s' : Int) : wpFn Tryd.prog ⟨TRef, [], wl, y, false⟩ 200 Tryd.f3 [.d (.sl 1 ps), .d (i64 n), .d (i64 s), .d (.sl 2 xs), recA n' s' ys pr] b R = ( ([] : List AV) = [] ∧ ∃ (l0 : List Row), [AV.d (Dv.sl 2 xs)] = [AV.d (Dv.sl 2 (rowsR l0))] ∧ List.length l0 ≤ 9223372036854775807 ∧ BIf (!fewS l0) (R (AV.d (bo true)) b) (BIf (decide (↑(List.length ps) > (600 : Int))) (R (AV.d (bo true)) b) (BIf (decide (↑(List.length ys) > (600 : Int))) (R (AV.d (bo true)) b) (∃ (p1 : List Int), ∃ (n2 : Int), ∃ (s3 : Int), ∃ (x4 : List Int × Int × Int × Int), [AV.d (Dv.sl 1 ps), AV.d (i64 n), AV.d (i64 s)] = [AV.d (Dv.sl 1 (bytesR p1)), AV.d (i64 n2), AV.d (i64 s3)] ∧ x4 = encR p1 n2 s3 ∧ ∃ (p5 : List Int), ∃ (n6 : Int), ∃ (s7 : Int), ∃ (x8 : List Int × Int × Int × Int), [AV.d (Dv.sl 1 ps), AV.d (i64 n), AV.d (i64 s)] = [AV.d (Dv.sl 1 (bytesR p5)), AV.d (i64 n6), AV.d (i64 s7)] ∧ x8 = encR p5 n6 s7 ∧ ∃ (l9 : List Row), ∃ (n10 : Int), ∃ (s11 : Int), ∃ (d12 : List Int), ∃ (pr13 : List (List Dv)), ∃ (x14 : List Row × Bool × Int), [AV.d (Dv.sl 2 xs), AV.agg [AV.d (i64 n'), AV.d (i64 s'), AV.d (Dv.sl 1 ys), AV.d (Dv.sl 1 pr)]] = [AV.d (Dv.sl 2 (rowsR l9)), AV.agg [AV.d (i64 n10), AV.d (i64 s11), AV.d (Dv.sl 1 (bytesR d12)), AV.d (Dv.sl 1 pr13)]] ∧ (2 * List.length l9 ≤ 1000000 ∧ x14 = recS l9 n10 s11 d12) ∧ ∃ (l15 : List Row), ∃ (n16 : Int), ∃ (s17 : Int), ∃ (d18 : List Int), ∃ (pr19 : List (List Dv)), ∃ (x20 : List Row × Bool × Int), [AV.d (Dv.sl 2 xs), AV.agg [AV.d (i64 n'), AV.d (i64 s'), AV.d (Dv.sl 1 ys), AV.d (Dv.sl 1 pr)]] = [AV.d (Dv.sl 2 (rowsR l15)), AV.agg [AV.d (i64 n16), AV.d (i64 s17), AV.d (Dv.sl 1 (bytesR d18)), AV.d (Dv.sl 1 pr19)]] ∧ ((List.length l15 ≤ 1000 ∧ ∀ (r : Row), r ∈ l15 → List.length (Prod.snd r) ≤ 1000) ∧ x20 = recS l15 n16 s17 d18) ∧ ∃ (l21 : List Row), ∃ (x22 : List Int × Bool), [AV.d (Dv.sl 2 xs)] = [AV.d (Dv.sl 2 (rowsR l21))] ∧ (List.length l21 ≤ 9223372036854775807 ∧ x22 = pagesS l21) ∧ ∃ (l23 : List Row), ∃ (x24 : List Int × Bool), [AV.d (Dv.sl 2 xs)] = [AV.d (Dv.sl 2 (rowsR l23))] ∧ (List.length l23 ≤ 9223372036854775807 ∧ x24 = pagesS l23) ∧ ∃ (x25 : Int), ∃ (z26 : Int), [AV.d (i64 s)] = [AV.d (i64 x25)] ∧ z26 = setS x25 ∧ ∃ (x27 : Int), ∃ (z28 : Int), [AV.d (i64 s)] = [AV.d (i64 x27)] ∧ z28 = setS x27 ∧ BIf (z26 == z28) (∃ (n29 : Int), ∃ (s30 : Int), ∃ (n31 : Int), ∃ (s32 : Int), ∃ (d33 : List Int), ∃ (d34 : List Int), ∃ (pr35 : List (List Dv)), ∃ (pr36 : List (List Dv)), ∃ (z37 : Bool), [AV.agg [AV.d (i64 (Prod.fst (Prod.snd x4))), AV.d (i64 (Prod.fst (Prod.snd (Prod.snd x4)))), AV.d (Dv.sl 1 (bytesR (Prod.fst x4))), AV.d (Dv.sl 1 [])], AV.agg [AV.d (i64 (Prod.fst (Prod.snd x8))), AV.d (i64 (Prod.fst (Prod.snd (Prod.snd x8)))), AV.d (Dv.sl 1 (bytesR (Prod.fst x8))), AV.d (Dv.sl 1 [])]] = [AV.agg [AV.d (i64 n29), AV.d (i64 s30), AV.d (Dv.sl 1 (bytesR d33)), AV.d (Dv.sl 1 pr35)], AV.agg [AV.d (i64 n31), AV.d (i64 s32), AV.d (Dv.sl 1 (bytesR d34)), AV.d (Dv.sl 1 pr36)]] ∧ (List.length d33 ≤ 9223372036854775807 ∧ z37 = sameS n29 s30 n31 s32 d33 d34) ∧ BIf z37 (BIf (Prod.snd (Prod.snd (Prod.snd x4)) == Prod.snd (Prod.snd (Prod.snd x8))) (∃ (p38 : List Row), ∃ (q39 : List Row), ∃ (r40 : Bool), [AV.d (Dv.sl 2 (rowsR (Prod.fst x14))), AV.d (Dv.sl 2 (rowsR (Prod.fst x20)))] = [AV.d (Dv.sl 2 (rowsR p38)), AV.d (Dv.sl 2 (rowsR q39))] ∧ (List.length p38 ≤ 9223372036854775807 ∧ ∀ (r : Row), r ∈ p38 → List.length (Prod.snd r) ≤ 9223372036854775807) ∧ r40 = (p38 == q39) ∧ BIf r40 (BIf (Prod.fst (Prod.snd x14) == Prod.fst (Prod.snd x20)) (BIf (Prod.snd (Prod.snd x14) == Prod.snd (Prod.snd x20)) (∃ (p41 : List Int), ∃ (q42 : List Int), ∃ (r43 : Bool), [AV.d (Dv.sl 1 (bytesR (Prod.fst x22))), AV.d (Dv.sl 1 (bytesR (Prod.fst x24)))] = [AV.d (Dv.sl 1 (bytesR p41)), AV.d (Dv.sl 1 (bytesR q42))] ∧ List.length p41 ≤ 9223372036854775807 ∧ r43 = (p41 == q42) ∧ BIf r43 (R (AV.d (bo (Prod.snd x22 == Prod.snd x24))) b) (R (AV.d (bo false)) b)) (R (AV.d (bo false)) b)) (R (AV.d (bo false)) b)) (R (AV.d (bo false)) b)) (R (AV.d (bo false)) b)) (R (AV.d (bo false)) b)) (R (AV.d (bo false)) b))))) := by kernel_rfl
end
end Go.Proofs.YtkjmhfbjdeidjaaDoor.Am

namespace Go.Proofs.YtkjmhfbjdeidjaaDoor.Am
set_option linter.unusedVariables false
open Go Go.RowKit Go.Proofs

theorem stepB_16 (e : Row) : ∀ (l : List Row) (s : List Row × Bool), (∀ r ∈ s.1, r.2.length = 16) → ∀ r ∈ (l.foldl (stepB e) s).1, r.2.length = 16
  | [], s, h => h
  | r :: l, s, h => by
    rw [List.foldl_cons]
    refine stepB_16 e l _ fun x hx => ?_
    unfold stepB at hx
    simp only [List.mem_append, List.mem_singleton] at hx
    rcases hx with hx | rfl
    · split at hx
      · rcases List.mem_append.1 hx with hx | hx
        · exact h x hx
        · rw [List.mem_singleton.1 hx]; exact b16_len _
      · exact h x hx
    · split <;> exact b16_len _
theorem add_16 (l : List Row) (m : Int) (b : List Int) : ∀ r ∈ (addS l m b).1, r.2.length = 16 := by
  unfold addS
  split
  · intro r hr; cases hr
  · dsimp only
    split
    · intro r hr
      obtain ⟨r', _, rfl⟩ := List.mem_map.1 hr
      exact b16_len _
    · split
      · intro r hr; cases hr
      · have h := stepB_16 (l.foldl red (m, pad b)) l ([], false) (fun r hr => by cases hr)
        intro r hr
        simp only at hr
        split at hr
        · rcases List.mem_append.1 hr with hr | hr
          · exact h r hr
          · rw [List.mem_singleton.1 hr]; exact b16_len _
        · exact h r hr
theorem rec_16 (l : List Row) (n s : Int) (d : List Int) : ∀ r ∈ (recS l n s d).1, r.2.length = 16 := by
  unfold recS; split
  · exact add_16 _ _ _
  · intro r hr; cases hr
theorem flatRow_len : ∀ m : List Row, (∀ r ∈ m, r.2.length = 16) → (m.flatMap (·.2)).length = 16 * m.length
  | [], _ => rfl
  | r :: m, h => by
    rw [List.flatMap_cons, List.length_append, flatRow_len m fun s hs => h s (List.mem_cons_of_mem _ hs), h r (List.mem_cons_self ..), List.length_cons]; omega
theorem pages_len (l : List Row) : (pagesS l).1.length ≤ 256 := by
  by_cases h : Good l ∧ l.length = 16
  · rw [pages_rows h.1 h.2]
    have := flatRow_len l.reverse fun r hr => h.1.len16 r (List.mem_reverse.1 hr)
    simp only [List.length_reverse, h.2] at this
    simp only [this]; omega
  · rw [pages_not h]; simp
theorem encR_len (p : List Int) (n s : Int) : (encR p n s).1.length ≤ 16 := by
  unfold encR; split
  · simp [encS, b16]
  · simp
set_option maxRecDepth 100000 in
theorem pcMatches (p d : List Int) (n s n' s' : Int) (l : List Row) (pr : List (List Dv)) (hl : l.length ≤ 9223372036854775807) :
    PCall Tryd.prog 3 [.d (.sl 1 (bytesR p)), .d (i64 n), .d (i64 s), .d (.sl 2 (rowsR l)), recA n' s' (bytesR d) pr] (.d (bo true)) := by
  refine PCall.ofFn (n := 200) (u := false) mixed TRef_ok SCallsOk.nil Tryd.func3 (by rfl) (by rfl) fun Ev bb => ?_
  rw [refl_nf]
  refine ⟨rfl, l, rfl, hl, BIf.of (fun _ => rfl) fun h1 => BIf.of (fun _ => rfl) fun h2 => BIf.of (fun _ => rfl) fun h3 => ?_⟩
  have h1 : fewS l = true := by simpa using h1
  simp only [fewS, Bool.and_eq_true, List.all_eq_true, decide_eq_true_eq] at h1
  have hr := rec_16 l n' s' d
  have hrl := rec_len l n' s' d
  have he := encR_len p n s
  have hp := pages_len l
  generalize hX : encR p n s = X at *
  generalize hY : recS l n' s' d = Y at *
  generalize hZ : pagesS l = Z at *
  refine ⟨p, n, s, X, rfl, hX.symm, p, n, s, X, rfl, hX.symm, l, n', s', d, pr, Y, rfl, ⟨by omega, hY.symm⟩, l, n', s', d, pr, Y, rfl, ⟨⟨by omega, fun r hr => by have := h1.1 r hr; omega⟩, hY.symm⟩, l, Z, rfl, ⟨hl, hZ.symm⟩, l, Z, rfl, ⟨hl, hZ.symm⟩,
    s, setS s, rfl, rfl, s, setS s, rfl, rfl, BIf.t (by simp) ⟨_, _, _, _, X.1, X.1, [], [], true, rfl, ⟨by omega, by simp [sameS]⟩, BIf.t rfl (BIf.t (by simp) ⟨Y.1, Y.1, true, rfl, ⟨by omega, fun r h => by have := hr r h; omega⟩, by simp, BIf.t rfl (BIf.t (by simp) (BIf.t (by simp)
      ⟨Z.1, Z.1, true, rfl, by omega, by simp, BIf.t rfl ?_⟩))⟩)⟩⟩
  simp
end Go.Proofs.YtkjmhfbjdeidjaaDoor.Am

namespace Go.Proofs.YtkjmhfbjdeidjaaDoor.Am
set_option linter.unusedVariables false
open Go Go.RowKit Go.Proofs
theorem flatK : flat Tryd.prog 20 26 = some [.int .i64, .int .i64, .sl [.int .u8], .sl [.int .u64]] := by kernel_rfl
theorem row_blk {row : List Dv} (h : HasTys [.int .i64, .int .i64, .sl [.int .u8], .sl [.int .u64]] row) : ∃ (n s : Int) (d : List Int) (pr : List (List Dv)), row.map AV.d = [.d (i64 n), .d (i64 s), .d (.sl 1 (bytesR d)), .d (.sl 1 pr)] ∧ True := by
  cases h with
  | cons h1 h => cases h with
    | cons h2 h => cases h with
      | cons h3 h => cases h with
        | cons h4 h => cases h with
          | nil => cases h1 with
            | int _ n _ => cases h2 with
              | int _ s _ =>
                obtain ⟨d, rfl, _⟩ := bytes_of h3
                cases h4 with
                | sl _ pr _ _ => exact ⟨n, s, d, pr, rfl, trivial⟩
theorem flatRw : flat Tryd.prog 20 23 = some [.sl [.int .i64, .sl [.int .u8]]] := by kernel_rfl
end Go.Proofs.YtkjmhfbjdeidjaaDoor.Am
