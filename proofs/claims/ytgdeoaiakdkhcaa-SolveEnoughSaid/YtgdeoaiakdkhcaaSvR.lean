import Derived.Test.YtgdeoaiakdkhcaaSvQ
namespace Go.Proofs.Ytgdeoaiakdkhcaa.Am
set_option linter.unusedVariables false
open Go Go.RowKit Go.Proofs

/-! ### single blocks -/
theorem Good.mask {l : List Row} (h : Good l) : ∀ r ∈ l, okMask r := fun r hr => fine_ok (h.ok r hr)
theorem Good.tail {r : Row} {l : List Row} (h : Good (r :: l)) : Good l :=
  ⟨fun s hs => h.ok s (List.mem_cons_of_mem _ hs), (List.pairwise_cons.1 h.falls).2, (List.pairwise_cons.1 h.clear).2⟩
theorem Good.uniq : ∀ {l : List Row}, Good l → ∀ {r s : Row}, r ∈ l → s ∈ l → top r.1 = top s.1 → r = s
  | x :: l, h, r, s, hr, hs, e => by
    have hf := (List.pairwise_cons.1 h.falls).1
    rcases List.mem_cons.1 hr with h1 | h1 <;> rcases List.mem_cons.1 hs with h2 | h2
    · rw [h1, h2]
    · have := hf s h2; rw [h1] at e; omega
    · have := hf r h1; rw [h2] at e; omega
    · exact Good.uniq h.tail h1 h2 e

theorem fold_skip {ι : Type} : ∀ (l : List (ι × (ι → Bool))) (v : ι → Bool), (∀ r ∈ l, v r.1 = false) → l.foldl redV v = v
  | [], v, _ => rfl
  | r :: l, v, h => by
    rw [List.foldl_cons]
    have : redV v r = v := by unfold redV; rw [h r (List.mem_cons_self ..)]; rfl
    rw [this]
    exact fold_skip l v fun s hs => h s (List.mem_cons_of_mem _ hs)
theorem fold_one : ∀ {l : List Row}, Good l → ∀ {r : Row} (v : Ix → Bool), r ∈ l → v (.inl (top r.1)) = true → (∀ s ∈ l, top s.1 ≠ top r.1 → v (.inl (top s.1)) = false) →
    (l.map rowV).foldl redV v = vx v (rowV r).2
  | x :: l, h, r, v, hr, hv, hz => by
    rw [List.map_cons, List.foldl_cons]
    have hf := (List.pairwise_cons.1 h.falls).1
    have hc := (List.pairwise_cons.1 h.clear).1
    rcases List.mem_cons.1 hr with rfl | hr
    · have : redV v (rowV r) = vx v (rowV r).2 := by
        unfold redV
        have : v (rowV r).1 = true := hv
        rw [this]; rfl
      rw [this]
      refine fold_skip _ _ fun t ht => ?_
      obtain ⟨s, hs, rfl⟩ := List.mem_map.1 ht
      show (v (.inl (top s.1)) ^^ (vec (r.1, pad r.2)) (.inl (top s.1))) = false
      have h1 := hf s hs
      rw [hz s (List.mem_cons_of_mem _ hs) (by omega)]
      have h2 := (hc s hs).1
      simpa [vec] using h2
    · have h1 := hf r hr
      have : redV v (rowV x) = v := by
        unfold redV
        have : v (rowV x).1 = false := hz x (List.mem_cons_self ..) (by omega)
        rw [this]; rfl
      rw [this]
      exact fold_one h.tail v hr hv fun s hs => hz s (List.mem_cons_of_mem _ hs)

def two (i : Nat) : Int := ((2 ^ i : Nat) : Int)
theorem two_bd {i : Nat} (h : i < 16) : 1 ≤ two i ∧ two i < 65536 := by
  have h1 := Nat.two_pow_pos i
  have h2 := Nat.pow_lt_pow_right (a := 2) (by omega) h
  unfold two; omega
theorem two_testBit (i k : Nat) : (two i).toNat.testBit k = decide (i = k) := by
  show (2 ^ i).testBit k = _
  rw [Nat.testBit_two_pow]
theorem top_two (i : Nat) : top (two i) = i := by
  show (2 ^ i).log2 = i
  exact Nat.log2_two_pow
theorem bit_two {i : Nat} (h : i < 16) : bit (i : Int) = two i := by
  have := two_bd h
  unfold bit
  have e : min (Int.toNat (i : Int)) 64 = i := by rw [Int.toNat_natCast]; omega
  rw [e, Int.one_mul]
  have e2 : (2 : Int) ^ i = two i := by simp [two]
  rw [e2, wrap_i64 (by omega) (by omega)]

theorem canon_pad {p : List Int} (h : ∀ x ∈ p, 0 ≤ x ∧ x < 256) : canon (pad p) := by
  intro i hi
  unfold nth
  rw [List.getD_eq_getElem?_getD]
  cases he : (pad p)[i]? with
  | none => simp
  | some x =>
    have := List.mem_of_getElem? he
    unfold pad at this
    have := List.mem_of_mem_take this
    rcases List.mem_append.1 this with h' | h'
    · exact h x h'
    · simp at h'; subst h'; simp

theorem find_uniq {l : List Row} (h : Good l) {r : Row} (hr : r ∈ l) {i : Nat} (hi : i < 16) (he : r.1 = two i) : findS l (i : Int) = some r := by
  unfold findS
  rw [bit_two hi]
  cases hf : l.find? fun r => r.1 == two i with
  | none =>
    have := List.find?_eq_none.1 hf r hr
    simp [he] at this
  | some s =>
    have h1 := List.find?_some hf
    have h2 := List.mem_of_find?_eq_some hf
    have h1 : s.1 = two i := by simpa using h1
    rw [h.uniq h2 hr (by rw [h1, he])]
theorem find_none {l : List Row} {i : Nat} (hi : i < 16) (h : ∀ r ∈ l, r.1 ≠ two i) : findS l (i : Int) = none := by
  unfold findS
  rw [bit_two hi]
  exact List.find?_eq_none.2 fun r hr => by simpa using h r hr

theorem solved_sum {l : List Row} (hg : Good l) (hb : ∀ r ∈ l, ∀ x ∈ r.2, 0 ≤ x ∧ x < 256) {i : Nat} (hi : i < 16) : solvedS l (i : Int) = sumS l (two i) := by
  have hv := (validS_good l).2 hg
  obtain ⟨t1, t2⟩ := two_bd hi
  rw [sumS_def (by omega) t2 hv]
  have e0 : solvedS l (i : Int) = if (findS l (i : Int)).isSome then (foundS l (i : Int), true) else ([], false) := by
    unfold solvedS
    rw [decide_eq_false (by omega), decide_eq_false (by omega), hv]; rfl
  rw [e0]
  have hx : 0 ≤ (two i, ([] : List Int)).1 ∧ (two i, ([] : List Int)).1 < 65536 := ⟨by simp only; omega, t2⟩
  have hF := vec_foldl hx hg.mask
  have hbd := foldl_red_bd hx hg.mask
  have hcan : canon (l.foldl red (two i, [])).2 := canon_foldl canon_nil
  by_cases hr : ∃ r ∈ l, top r.1 = i
  · obtain ⟨r, hr, hti⟩ := hr
    have hm := hg.mask r hr
    have e1 : (l.map rowV).foldl redV (vec (two i, [])) = vx (vec (two i, [])) (vec (r.1, pad r.2)) := by
      refine fold_one hg _ hr ?_ fun s _ hs => ?_
      · show (two i).toNat.testBit _ = true
        rw [two_testBit, hti]; simp
      · show (two i).toNat.testBit _ = false
        rw [two_testBit]; simp; omega
    rw [e1, ← vec_xor (by omega) t2 (by have := hm.1; omega) hm.2] at hF
    have b4 := xor64_bd (a := two i) (b := r.1) (by omega) t2 (by have := hm.1; omega) hm.2
    have h1 := vec_inl hbd.1 b4.1 hF
    have hz := xor64_zero (a := two i) (b := r.1) ⟨by omega, t2⟩ ⟨by have := hm.1; omega, hm.2⟩
    have h1' : (l.foldl red (two i, [])).1 = xor64 (two i) r.1 := h1
    by_cases he : r.1 = two i
    · have h2 : (l.foldl red (two i, [])).1 = 0 := by rw [h1']; exact hz.2 he.symm
      rw [find_uniq hg hr hi he, if_pos (by rfl), if_neg (by simp [h2])]
      have e2 : foundS l (i : Int) = b16 (pad r.2) := by unfold foundS; rw [find_uniq hg hr hi he]
      rw [e2]
      congr 1
      refine list16 (b16_len _) (b16_len _) fun j hj => ?_
      rw [nth_b16 hj, nth_b16 hj]
      refine ofInt8_inj (canon_pad (hb r hr) j hj) (hcan j hj) ?_
      have := vec_inr hF hj
      rw [this]
      show _ = BitVec.ofInt 8 (nth (xorL [] (pad r.2)) j)
      rw [nth_xorL hj, ofInt_xor8]; simp [nth]
    · have h2 : ¬ (l.foldl red (two i, [])).1 = 0 := by rw [h1']; exact fun h => he (hz.1 h).symm
      rw [find_none hi fun s hs h => he (by rw [hg.uniq hr hs (by rw [hti, h, top_two])]; exact h), if_neg (by simp), if_pos (by simpa using h2)]
  · have e1 : (l.map rowV).foldl redV (vec (two i, [])) = vec (two i, []) := by
      refine fold_skip _ _ fun t ht => ?_
      obtain ⟨s, hs, rfl⟩ := List.mem_map.1 ht
      show (two i).toNat.testBit _ = false
      rw [two_testBit]
      have : top s.1 ≠ i := fun h => hr ⟨s, hs, h⟩
      simp; omega
    rw [e1] at hF
    have h1 : (l.foldl red (two i, [])).1 = two i := vec_inl hbd.1 (by simp only; omega) hF
    rw [find_none hi fun s hs h => hr ⟨s, hs, by rw [h, top_two]⟩, if_neg (by simp), if_pos (by rw [h1]; simp; omega)]

/-! ### sixteen rows -/
theorem falls_len : ∀ {l : List Row} {n : Nat}, (l.Pairwise fun a b => top b.1 < top a.1) → (∀ r ∈ l, top r.1 < n) → l.length ≤ n ∧ (l.length = n → ∀ i, i < n → ∃ r ∈ l, top r.1 = i)
  | [], n, _, _ => ⟨by simp, fun h i hi => by simp at h; omega⟩
  | r :: l, n, hp, hn => by
    obtain ⟨h1, h2⟩ := List.pairwise_cons.1 hp
    obtain ⟨h3, h4⟩ := falls_len (l := l) (n := top r.1) h2 fun s hs => h1 s hs
    have h5 := hn r (List.mem_cons_self ..)
    refine ⟨by simp; omega, fun h i hi => ?_⟩
    simp at h
    by_cases hi' : i = top r.1
    · exact ⟨r, List.mem_cons_self .., hi'.symm⟩
    · obtain ⟨s, hs, e⟩ := h4 (by omega) i (by omega)
      exact ⟨s, List.mem_cons_of_mem _ hs, e⟩
theorem Good.len {l : List Row} (h : Good l) : l.length ≤ 16 := (falls_len h.falls fun r hr => top_lt (h.mask r hr).1 (h.mask r hr).2).1
theorem Good.full {l : List Row} (h : Good l) (hl : l.length = 16) {i : Nat} (hi : i < 16) : ∃ r ∈ l, r.1 = two i := by
  have hall := (falls_len h.falls fun r hr => top_lt (h.mask r hr).1 (h.mask r hr).2).2 hl
  obtain ⟨r, hr, e⟩ := hall i hi
  refine ⟨r, hr, ?_⟩
  have hm := h.mask r hr
  have : r.1.toNat = (two i).toNat := by
    apply Nat.eq_of_testBit_eq
    intro k
    rw [two_testBit]
    by_cases hk : i = k
    · subst hk; rw [← e, top_bit hm.1]; simp
    · rw [decide_eq_false hk]
      by_cases h16 : k < 16
      · obtain ⟨s, hs, e2⟩ := hall k h16
        obtain ⟨a, ha⟩ := List.mem_iff_getElem?.1 hr
        obtain ⟨b, hb⟩ := List.mem_iff_getElem?.1 hs
        rw [← e2]
        rcases Nat.lt_trichotomy a b with h' | h' | h'
        · exact (pairwise_at h.clear ha hb h').1
        · subst h'; rw [ha] at hb; cases hb; omega
        · exact (pairwise_at h.clear hb ha h').2
      · apply Nat.testBit_lt_two_pow
        have : 2 ^ 16 ≤ 2 ^ k := Nat.pow_le_pow_right (by omega) (by omega)
        have := hm.2
        omega
  have := (two_bd hi).1
  have := hm.1
  omega
end Go.Proofs.Ytgdeoaiakdkhcaa.Am
