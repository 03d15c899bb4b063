import Derived.Test.YtgdeoaiakdkhcaaSvH
namespace Go.Proofs.Ytgdeoaiakdkhcaa.Am
set_option linter.unusedVariables false
open Go Go.RowKit Go.Proofs

/-! ### Sum -/
def bytesB (x : List Int × Bool) : AV := .tup [.d (.sl 1 (bytesR x.1)), .d (bo x.2)]
theorem nilTup1 (a : AV) : LeT (.tup [.d (.s (.slice none 0 0)), a]) (.tup [.d (.sl 1 (bytesR [])), a]) := .tup (.cons (LeA.nilSl rfl) (LeL.refl _))
def sumS (l : List Row) (m : Int) : List Int × Bool :=
  if decide (m < 0) || (decide (m ≥ 65536) || !validS l) then ([], false) else
  let x := l.foldl red (m, [])
  if x.1 != 0 then ([], false) else (b16 x.2, true)

noncomputable def rf14 : Code := sub [1, 8, 1, 1, 1, 0, 1, 2] (code Try.f14)
theorem rf14_shape : rf14 = .rangeFunc (.tmp 20) #[21, 22] (assignOf rf14) (bodyOf rf14) := by kernel_rfl
def tm14 (xs : List (List Dv)) : List AV := [.bad, .bad, .bad, .ptr 0 0, .bad, .bad, .ptr 1 0] ++ List.replicate 13 .bad ++ [.fn (.func 38) [] [.rptr [.sl 2 xs]]] ++ List.replicate 13 .bad

section
variable {β : Type} (wl : WLT β) (y : YieldT β) (b : β) (R : AV → β → Prop) (Kh : Exit → List Blk → β → Prop)
theorem f16_nf (xs : List (List Dv)) (m : Int) : wpFn Try.prog ⟨TS, [], wl, y, false⟩ 100 Try.f16 [.d (.sl 2 xs), .d (i64 m)] b R = (
  BIf (decide (m < (0 : Int))) (R (AV.tup [AV.d (Dv.s (Value.slice none (0 : Nat) (0 : Nat))), AV.d (bo false)]) b)
  (BIf (decide (m ≥ (65536 : Int))) (R (AV.tup [AV.d (Dv.s (Value.slice none (0 : Nat) (0 : Nat))), AV.d (bo false)]) b)
    (∃ l0,
      [AV.d (Dv.sl (2 : Nat) xs)] = [AV.d (Dv.sl (2 : Nat) (rowsR l0))] ∧
        List.length l0 ≤ (9223372036854775807 : Nat) ∧
          BIf (!validS l0) (R (AV.tup [AV.d (Dv.s (Value.slice none (0 : Nat) (0 : Nat))), AV.d (bo false)]) b)
            (∃ l1 m2 p3 x4,
              [AV.d (Dv.sl (2 : Nat) xs),
                    AV.agg
                      [AV.d (i64 m), AV.d (u8 (0 : Int)), AV.d (u8 (0 : Int)), AV.d (u8 (0 : Int)), AV.d (u8 (0 : Int)), AV.d (u8 (0 : Int)),
                        AV.d (u8 (0 : Int)), AV.d (u8 (0 : Int)), AV.d (u8 (0 : Int)), AV.d (u8 (0 : Int)), AV.d (u8 (0 : Int)), AV.d (u8 (0 : Int)),
                        AV.d (u8 (0 : Int)), AV.d (u8 (0 : Int)), AV.d (u8 (0 : Int)), AV.d (u8 (0 : Int)), AV.d (u8 (0 : Int))]] =
                  [AV.d (Dv.sl (2 : Nat) (rowsR l1)), eqA m2 p3] ∧
                ((∀ (r : Row), r ∈ l1 → (1 : Int) ≤ Prod.fst r ∧ Prod.fst r < (65536 : Int)) ∧ List.length l1 ≤ (9223372036854775807 : Nat)) ∧
                  x4 = List.foldl red (m2, p3) l1 ∧
                    BIf (Prod.fst x4 != (0 : Int)) (R (AV.tup [AV.d (Dv.s (Value.slice none (0 : Nat) (0 : Nat))), AV.d (bo false)]) b)
                      (∃ m5 p6 q7,
                        [eqA (Prod.fst x4) (Prod.snd x4)] = [eqA m5 p6] ∧ q7 = bytesR (b16 p6) ∧ R (AV.tup [AV.d (Dv.sl (1 : Nat) q7), AV.d (bo true)]) b))))) := by kernel_rfl
theorem f14_round (xs : List (List Dv)) (m i : Int) (p : List Int) (f : Bool) (v : Dv) : wpcY Try.prog ⟨TS, [], wl, y, false⟩ 100 #[21, 22] (assignOf rf14) (bodyOf rf14) (tm14 xs) [eqA m p, .d (bo f)] [cell (i64 i), cell v] b (takeK 2 Kh) = (
  BIf (decide (i < (0 : Int))) False
  (BIf (m == IntKind.wrap IntKind.i64 ((1 : Int) * (2 : Int) ^ min (Int.toNat i) (64 : Nat)))
    (∃ m0 p1 q2, [eqA m p] = [eqA m0 p1] ∧ q2 = bytesR (b16 p1) ∧ Kh (Exit.exit (0 : Nat)) [cell (i64 i), cell (Dv.sl (1 : Nat) q2)] b)
    (Kh Exit.normal [cell (i64 i), cell v] b))) := by kernel_rfl
end

theorem pc16 (l : List Row) (m : Int) (hl : l.length ≤ 9223372036854775807) : PCall Try.prog 16 [.d (.sl 2 (rowsR l)), .d (i64 m)] (bytesB (sumS l m)) := by
  refine PCall.ofFnL (n := 100) (u := false) wlNo mixed TS_ok SCallsOk.nil wlNo_ok Try.func16 (by rfl) (by rfl) fun Ev bb => ?_
  rw [f16_nf]
  refine BIf.of (fun h1 => ?_) fun h1 => BIf.of (fun h2 => ?_) fun h2 => ⟨l, rfl, hl, BIf.of (fun h3 => ?_) fun h3 => ?_⟩
  · rw [show sumS l m = ([], false) by simp only [sumS, h1, Bool.true_or, if_true]]; exact nilTup1 _
  · rw [show sumS l m = ([], false) by simp only [sumS, h2, Bool.true_or, Bool.or_true, if_true]]; exact nilTup1 _
  · rw [show sumS l m = ([], false) by simp only [sumS, h3, Bool.or_true, if_true]]; exact nilTup1 _
  · have hv : validS l = true := by simpa using h3
    have hok : ∀ r ∈ l, okMask r := by
      simp only [validS, Bool.and_eq_true] at hv
      exact fun r hr => fine_ok (vA_ok hv.1 r hr)
    have e0 : sumS l m = (let x := l.foldl red (m, []); if x.1 != 0 then ([], false) else (b16 x.2, true)) := by
      simp only [sumS, h1, h2, h3, Bool.or_false, Bool.false_eq_true, if_false]
    rw [e0]
    refine ⟨l, m, [], _, rfl, ⟨hok, hl⟩, rfl, BIf.of (fun h4 => ?_) fun h4 => ⟨_, _, _, rfl, rfl, ?_⟩⟩
    · rw [show (let x := l.foldl red (m, []); if x.1 != 0 then ([], false) else (b16 x.2, true)) = (([], false) : List Int × Bool) by simp only [h4, if_true]]; exact nilTup1 _
    · rw [show (let x := l.foldl red (m, []); if x.1 != 0 then ([], false) else (b16 x.2, true)) = ((b16 (l.foldl red (m, [])).2, true) : List Int × Bool) by simp only [h4, Bool.false_eq_true, if_false]]; exact .rfl
def c16 (args : List AV) (K : AV → Prop) : Prop := ∃ (l : List Row) (m : Int) (x : List Int × Bool), args = [.d (.sl 2 (rowsR l)), .d (i64 m)] ∧ l.length ≤ 9223372036854775807 ∧ x = sumS l m ∧ K (bytesB x)
theorem c16_ok : ∀ args K, c16 args K → ∃ x, PCall Try.prog 16 args x ∧ K x := by
  rintro _ K ⟨l, m, _, rfl, h1, rfl, h⟩; exact ⟨_, pc16 l m h1, h⟩

/-! ### Solved -/
def bit (i : Int) : Int := IntKind.wrap .i64 (1 * 2 ^ min i.toNat 64)
def findS (l : List Row) (i : Int) : Option Row := l.find? fun r => r.1 == bit i
def foundS (l : List Row) (i : Int) : List Int := match findS l i with
  | some r => b16 (pad r.2)
  | none => []
def solvedS (l : List Row) (i : Int) : List Int × Bool :=
  if decide (i < 0) || (decide (i ≥ 16) || !validS l) then ([], false) else
  if (findS l i).isSome then (foundS l i, true) else ([], false)

def wl14 {β : Type} : WLT β := fun c tm hp b K => ∃ (l : List Row) (i : Int), c = rf14 ∧ maskTm [3, 6, 20] 0 tm = tm14 (rowsR l) ∧ hp = [cell (i64 i), cell (.s (.slice none 0 0))] ∧ (0 ≤ i ∧ l.length ≤ 9223372036854775807) ∧
  BIf (findS l i).isSome (∃ q, q = foundS l i ∧ K (.exit 0) (tm14 (rowsR l)) [cell (i64 i), cell (.sl 1 (bytesR (b16 q)))] b) (K .normal (tm14 (rowsR l)) [cell (i64 i), cell (.s (.slice none 0 0))] b)

theorem range14 {Ev : Env Try.prog} {b : Ev.β} {Q : Exit → St Ev.β → Prop} (xs : List (List Dv)) (i : Int) (hi : 0 ≤ i) : ∀ (l : List Row),
    BIf (findS l i).isSome (Q (.exit 0) ⟨tm14 xs, [cell (i64 i), cell (.sl 1 (bytesR (b16 (foundS l i))))], b⟩) (Q .normal ⟨tm14 xs, [cell (i64 i), cell (.s (.slice none 0 0))], b⟩) →
    YList (YBody Ev (tm14 xs) #[21, 22] (assignOf rf14) (bodyOf rf14) 2) (l.map item) ([cell (i64 i), cell (.s (.slice none 0 0))], b, none) (rangeQ (tm14 xs) Q)
  | [], h => h
  | r :: l, h => by
    refine YList.step (X := ⟨TS, [], wlW Ev, Ev.Y, false⟩) (k := 100) mixed (CX.Ok.of TS_ok SCallsOk.nil) rfl ?_
    show wpcY _ _ _ _ _ _ _ [eqA _ _, .d (bo _)] [cell (i64 _), cell _] b (takeK 2 _)
    rw [f14_round]
    refine BIf.f (by simpa using hi) (BIf.of (fun hc => ⟨_, _, _, rfl, rfl, ?_⟩) fun hc => ?_)
    · change (r.1 == bit i) = true at hc
      have e1 : findS (r :: l) i = some r := by simp only [findS, List.find?_cons, hc]
      have e2 : foundS (r :: l) i = b16 (pad r.2) := by simp only [foundS, e1]
      rw [e1, e2] at h
      exact h
    · change (r.1 == bit i) = false at hc
      have e1 : findS (r :: l) i = findS l i := by simp only [findS, List.find?_cons, hc]
      have e2 : foundS (r :: l) i = foundS l i := by simp only [foundS, e1]
      rw [e1, e2] at h
      exact range14 xs i hi l h

theorem wl14_ok {Ev : Env Try.prog} (c : Code) (tm : List AV) (hp : List Blk) (b : Ev.β) (K : Exit → List AV → List Blk → Ev.β → Prop) (h : wl14 c tm hp b K) : W Ev c ⟨tm, hp, b⟩ (fun e s => K e s.tm s.hp s.b) := by
  obtain ⟨l, i, rfl, htm, rfl, ⟨hi, hpre⟩, hK⟩ := h
  refine W.cast (htm ▸ maskTm_le _ tm 0) (LeH.refl _) ?_
  rw [rf14_shape]
  exact W.range (s := ⟨tm14 (rowsR l), _, b⟩) (k := 38) (first := []) (caps := [.rptr [.sl 2 (rowsR l)]]) rfl rfl rfl (ic38 l hpre) (range14 (rowsR l) i hi l (hK.elim.elim (fun h => BIf.t h.1 (by obtain ⟨q, rfl, h⟩ := h.2; exact h)) fun h => BIf.f h.1 h.2))

section
variable {β : Type} (wl : WLT β) (y : YieldT β) (b : β) (R : AV → β → Prop)
theorem f14_nf (xs : List (List Dv)) (i : Int) : wpFn Try.prog ⟨TS, [], wl14, y, false⟩ 100 Try.f14 [.d (.sl 2 xs), .d (i64 i)] b R = (
  BIf (decide (i < (0 : Int))) (R (AV.tup [AV.d (Dv.s (Value.slice none (0 : Nat) (0 : Nat))), AV.d (bo false)]) b)
  (BIf (decide (i ≥ (16 : Int))) (R (AV.tup [AV.d (Dv.s (Value.slice none (0 : Nat) (0 : Nat))), AV.d (bo false)]) b)
    (∃ l0,
      [AV.d (Dv.sl (2 : Nat) xs)] = [AV.d (Dv.sl (2 : Nat) (rowsR l0))] ∧
        List.length l0 ≤ (9223372036854775807 : Nat) ∧
          BIf (!validS l0) (R (AV.tup [AV.d (Dv.s (Value.slice none (0 : Nat) (0 : Nat))), AV.d (bo false)]) b)
            (∃ xs1,
              [AV.d (Dv.sl (2 : Nat) xs)] = [AV.d (Dv.sl (2 : Nat) xs1)] ∧
                ∃ l2 i3,
                  rf14 = rf14 ∧
                    [AV.bad, AV.bad, AV.bad, AV.ptr (0 : Nat) (0 : Nat), AV.bad, AV.bad, AV.ptr (1 : Nat) (0 : Nat), AV.bad, AV.bad, AV.bad, AV.bad, AV.bad,
                          AV.bad, AV.bad, AV.bad, AV.bad, AV.bad, AV.bad, AV.bad, AV.bad, AV.fn (Fn.func (38 : Nat)) [] [AV.rptr [Dv.sl (2 : Nat) xs1]], AV.bad,
                          AV.bad, AV.bad, AV.bad, AV.bad, AV.bad, AV.bad, AV.bad, AV.bad, AV.bad, AV.bad, AV.bad, AV.bad] =
                        [AV.bad, AV.bad, AV.bad, AV.ptr (0 : Nat) (0 : Nat), AV.bad, AV.bad, AV.ptr (1 : Nat) (0 : Nat), AV.bad, AV.bad, AV.bad, AV.bad, AV.bad,
                          AV.bad, AV.bad, AV.bad, AV.bad, AV.bad, AV.bad, AV.bad, AV.bad, AV.fn (Fn.func (38 : Nat)) [] [AV.rptr [Dv.sl (2 : Nat) (rowsR l2)]],
                          AV.bad, AV.bad, AV.bad, AV.bad, AV.bad, AV.bad, AV.bad, AV.bad, AV.bad, AV.bad, AV.bad, AV.bad, AV.bad] ∧
                      [cell (i64 i), cell (Dv.s (Value.slice none (0 : Nat) (0 : Nat)))] = [cell (i64 i3), cell (Dv.s (Value.slice none (0 : Nat) (0 : Nat)))] ∧
                        ((0 : Int) ≤ i3 ∧ List.length l2 ≤ (9223372036854775807 : Nat)) ∧
                          BIf (Option.isSome (findS l2 i3)) (∃ q4, q4 = foundS l2 i3 ∧ R (AV.tup [AV.d (Dv.sl (1 : Nat) (bytesR (b16 q4))), AV.d (bo true)]) b)
                            (R (AV.tup [AV.d (Dv.s (Value.slice none (0 : Nat) (0 : Nat))), AV.d (bo false)]) b))))) := by kernel_rfl
end

theorem pc14 (l : List Row) (i : Int) (hl : l.length ≤ 9223372036854775807) : PCall Try.prog 14 [.d (.sl 2 (rowsR l)), .d (i64 i)] (bytesB (solvedS l i)) := by
  refine PCall.ofFnL (n := 100) (u := false) (fun _ => wl14) mixed TS_ok SCallsOk.nil (fun Ev => wl14_ok) Try.func14 (by rfl) (by rfl) fun Ev bb => ?_
  rw [f14_nf]
  refine BIf.of (fun h1 => ?_) fun h1 => BIf.of (fun h2 => ?_) fun h2 => ⟨l, rfl, hl, BIf.of (fun h3 => ?_) fun h3 => ?_⟩
  · rw [show solvedS l i = ([], false) by simp only [solvedS, h1, Bool.true_or, if_true]]; exact nilTup1 _
  · rw [show solvedS l i = ([], false) by simp only [solvedS, h2, Bool.true_or, Bool.or_true, if_true]]; exact nilTup1 _
  · rw [show solvedS l i = ([], false) by simp only [solvedS, h3, Bool.or_true, if_true]]; exact nilTup1 _
  · have e0 : solvedS l i = if (findS l i).isSome then (foundS l i, true) else ([], false) := by
      simp only [solvedS, h1, h2, h3, Bool.or_false, Bool.false_eq_true, if_false]
    rw [e0]
    refine ⟨_, rfl, l, i, rfl, rfl, rfl, ⟨by simpa using h1, hl⟩, BIf.of (fun h4 => ?_) fun h4 => ?_⟩
    · rw [if_pos h4]
      refine ⟨_, rfl, ?_⟩
      have : b16 (foundS l i) = foundS l i := by
        obtain ⟨r, hr⟩ := Option.isSome_iff_exists.1 h4
        simp only [foundS, hr]; rfl
      rw [this]; exact .rfl
    · rw [if_neg (by simp [h4])]
      exact nilTup1 _
def c14 (args : List AV) (K : AV → Prop) : Prop := ∃ (l : List Row) (m : Int) (x : List Int × Bool), args = [.d (.sl 2 (rowsR l)), .d (i64 m)] ∧ l.length ≤ 9223372036854775807 ∧ x = solvedS l m ∧ K (bytesB x)
theorem c14_ok : ∀ args K, c14 args K → ∃ x, PCall Try.prog 14 args x ∧ K x := by
  rintro _ K ⟨l, m, _, rfl, h1, rfl, h⟩; exact ⟨_, pc14 l m h1, h⟩
end Go.Proofs.Ytgdeoaiakdkhcaa.Am
