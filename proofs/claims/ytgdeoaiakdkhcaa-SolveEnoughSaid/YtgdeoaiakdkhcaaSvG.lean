import Derived.Test.YtgdeoaiakdkhcaaSvF
namespace Go.Proofs.Ytgdeoaiakdkhcaa.Am
set_option linter.unusedVariables false
open Go Go.RowKit Go.Proofs

theorem rowsR_snoc (out : List Row) (m : Int) (p : List Int) : rowsR out ++ [[i64 m, .sl 1 (bytesR (b16 p))]] = rowsR (out ++ [(m, b16 p)]) := by simp [rowsR, rowD]
theorem rowsR_len (out : List Row) : (rowsR out).length = out.length := by simp [rowsR]

theorem tt32 {n : Nat} (h : n ≤ 1000000) : (true && decide ((n + 1) * 32 ≤ 140737488355328)) = true := by
  rw [decide_eq_true (Nat.le_trans (Nat.mul_le_mul_right 32 (Nat.succ_le_succ h)) (by decide))]; rfl

/-- the rows as they are kept -/
def keepR (r : Row) : Row := (r.1, b16 (pad r.2))

theorem range12a {Ev : Env Try.prog} {b : Ev.β} {Q : Exit → St Ev.β → Prop} (xs : List (List Dv)) (m9 : Int) (bs9 : List (List Dv)) (x : Row) : ∀ (l out : List Row), out.length + l.length ≤ 1000000 →
    Q .normal ⟨tm12a xs, [rowB m9 bs9, bq x.1 x.2, acc (rowsR (out ++ l.map keepR))], b⟩ →
    YList (YBody Ev (tm12a xs) #[35, 36] (assignOf rf12a) (bodyOf rf12a) 3) (l.map item) ([rowB m9 bs9, bq x.1 x.2, acc (rowsR out)], b, none) (rangeQ (tm12a xs) Q)
  | [], out, _, h => by simpa [YList, rangeQ] using h
  | r :: l, out, hl, h => by
    refine YList.step (X := ⟨TS, [], wlW Ev, Ev.Y, false⟩) (k := 100) mixed (CX.Ok.of TS_ok SCallsOk.nil) rfl ?_
    show wpcY _ _ _ _ _ _ _ [eqA _ _, .d (bo _)] [rowB _ _, bq _ _, acc _] b (takeK 3 _)
    rw [f12a_round]
    simp only [List.length_cons] at hl
    refine ⟨r.1, pad r.2, _, rfl, rfl, BIf.t (tt32 (by rw [rowsR_len]; omega)) ?_⟩
    show YList _ _ ([rowB m9 bs9, bq x.1 x.2, acc (rowsR out ++ [[i64 r.1, .sl 1 (bytesR (b16 (pad r.2)))]])], b, none) _
    rw [rowsR_snoc]
    refine range12a xs m9 bs9 x l (out ++ [keepR r]) (by simp; omega) ?_
    simpa using h

/-- one row more among the rows -/
def stepB (e : Row) (s : List Row × Bool) (r : Row) : List Row × Bool :=
  ((if !s.2 && decide (lead r.1 < lead e.1) then s.1 ++ [(e.1, b16 e.2)] else s.1) ++ [if and64 r.1 (lead e.1) != 0 then (xor64 r.1 e.1, b16 (xorL (pad r.2) e.2)) else (r.1, b16 (pad r.2))],
   s.2 || decide (lead r.1 < lead e.1))

set_option maxHeartbeats 4000000 in
theorem range12b {Ev : Env Try.prog} {b : Ev.β} {Q : Exit → St Ev.β → Prop} (xs : List (List Dv)) (m9 : Int) (bs9 : List (List Dv)) (e : Row) (he : okMask e) : ∀ (l out : List Row) (pl : Bool), (∀ r ∈ l, okMask r) → out.length + 2 * l.length ≤ 1000000 →
    Q .normal ⟨tm12b xs, [rowB m9 bs9, bq e.1 e.2, acc (rowsR (l.foldl (stepB e) (out, pl)).1), cell (bo (l.foldl (stepB e) (out, pl)).2)], b⟩ →
    YList (YBody Ev (tm12b xs) #[49, 50] (assignOf rf12b) (bodyOf rf12b) 4) (l.map item) ([rowB m9 bs9, bq e.1 e.2, acc (rowsR out), cell (bo pl)], b, none) (rangeQ (tm12b xs) Q)
  | [], out, pl, _, _, h => h
  | r :: l, out, pl, hok, hl, h => by
    refine YList.step (X := ⟨TS, [], wlW Ev, Ev.Y, false⟩) (k := 100) mixed (CX.Ok.of TS_ok SCallsOk.nil) rfl ?_
    show wpcY _ _ _ _ _ _ _ [eqA _ _, .d (bo _)] [rowB _ _, bq _ _, acc _, cell (bo _)] b (takeK 4 _)
    rw [f12b_round]
    simp only [List.length_cons] at hl
    have hr := hok r (List.mem_cons_self ..)
    have hok' : ∀ r ∈ l, okMask r := fun r' h' => hok r' (List.mem_cons_of_mem _ h')
    rw [List.foldl_cons] at h
    have key : ∀ (out1 : List Row) (pl1 : Bool), out1.length ≤ out.length + 1 → (∀ (m : Int) (p : List Int), stepB e (out, pl) r = (out1 ++ [(m, b16 p)], pl1) →
        YList (YBody Ev (tm12b xs) #[49, 50] (assignOf rf12b) (bodyOf rf12b) 4) (l.map item) ([rowB m9 bs9, bq e.1 e.2, acc (rowsR out1 ++ [[i64 m, .sl 1 (bytesR (b16 p))]]), cell (bo pl1)], b, none) (rangeQ (tm12b xs) Q)) := by
      intro out1 pl1 hlen m p hs
      rw [rowsR_snoc]
      refine range12b xs m9 bs9 e he l (out1 ++ [(m, b16 p)]) pl1 hok' (by rw [List.length_append, List.length_singleton]; omega) ?_
      rw [← hs]; exact h
    have hn0 := tt32 (n := (rowsR out).length) (by rw [rowsR_len]; omega)
    have hn1 : ∀ (p : List Int), (true && decide (((rowsR out ++ [[i64 e.1, .sl 1 (bytesR (b16 p))]]).length + 1) * 32 ≤ 140737488355328)) = true := fun p => tt32 (by rw [rowsR_snoc, rowsR_len, List.length_append, List.length_singleton]; omega)
    refine BIf.of (fun h1 => ?_) fun h1 => ?_
    · have h1 : pl = false := by simpa using h1
      refine ⟨r.1, pad r.2, rfl, hr, e.1, e.2, rfl, he, BIf.of (fun h2 => ?_) fun h2 => ?_⟩
      · refine ⟨e.1, e.2, _, rfl, rfl, BIf.t hn0 ⟨e.1, e.2, rfl, he, BIf.of (fun h3 => ?_) fun h3 => ?_⟩⟩
        · change (and64 r.1 (lead e.1) != 0) = true at h3
          refine ⟨pad r.2, e.2, _, rfl, rfl, _, _, _, rfl, rfl, BIf.t (hn1 _) ?_⟩
          show YList _ _ ([rowB m9 bs9, bq e.1 e.2, acc ((rowsR out ++ _) ++ _), cell (bo true)], b, none) _
          rw [rowsR_snoc]
          refine key (out ++ [(e.1, b16 e.2)]) true (by simp) _ _ ?_
          simp only [stepB, h1, h2, h3, Bool.not_false, Bool.and_self, if_true, Bool.or_true]; rfl
        · change (and64 r.1 (lead e.1) != 0) = false at h3
          refine ⟨_, _, _, rfl, rfl, BIf.t (hn1 _) ?_⟩
          show YList _ _ ([rowB m9 bs9, bq e.1 e.2, acc ((rowsR out ++ _) ++ _), cell (bo true)], b, none) _
          rw [rowsR_snoc]
          refine key (out ++ [(e.1, b16 e.2)]) true (by simp) _ _ ?_
          simp only [stepB, h1, h2, h3, Bool.not_false, Bool.and_self, if_true, Bool.or_true, Bool.false_eq_true, if_false]
      · refine ⟨e.1, e.2, rfl, he, BIf.of (fun h3 => ?_) fun h3 => ?_⟩
        · change (and64 r.1 (lead e.1) != 0) = true at h3
          refine ⟨pad r.2, e.2, _, rfl, rfl, _, _, _, rfl, rfl, BIf.t hn0 (key out pl (by omega) _ _ ?_)⟩
          simp only [stepB, h1, h2, h3, Bool.and_false, if_true, Bool.or_false, Bool.false_eq_true, if_false]; rfl
        · change (and64 r.1 (lead e.1) != 0) = false at h3
          refine ⟨_, _, _, rfl, rfl, BIf.t hn0 (key out pl (by omega) _ _ ?_)⟩
          simp only [stepB, h1, h2, h3, Bool.and_false, Bool.or_false, Bool.false_eq_true, if_false]
    · have h1 : pl = true := by simpa using h1
      refine ⟨e.1, e.2, rfl, he, BIf.of (fun h3 => ?_) fun h3 => ?_⟩
      · change (and64 r.1 (lead e.1) != 0) = true at h3
        refine ⟨pad r.2, e.2, _, rfl, rfl, _, _, _, rfl, rfl, BIf.t hn0 (key out pl (by omega) _ _ ?_)⟩
        simp only [stepB, h1, h3, Bool.not_true, Bool.false_and, if_true, Bool.true_or, Bool.false_eq_true, if_false]; rfl
      · change (and64 r.1 (lead e.1) != 0) = false at h3
        refine ⟨_, _, _, rfl, rfl, BIf.t hn0 (key out pl (by omega) _ _ ?_)⟩
        simp only [stepB, h1, h3, Bool.not_true, Bool.false_and, Bool.true_or, Bool.false_eq_true, if_false]

/-- what the ranges of Add come to -/
def wl12 {β : Type} : WLT β := fun c tm hp b K => match cidO c with
  | 9 => ∃ (l : List Row) (m9 : Int) (bs9 : List (List Dv)) (x : Row), c = rf12a ∧ maskTm [9, 34] 0 tm = tm12a (rowsR l) ∧ hp = [rowB m9 bs9, bq x.1 x.2, cell (.s (.slice none 0 0))] ∧ l.length ≤ 1000000 ∧
      K .normal (tm12a (rowsR l)) [rowB m9 bs9, bq x.1 x.2, acc (rowsR (l.map keepR))] b
  | 17 => ∃ (l : List Row) (m9 : Int) (bs9 : List (List Dv)) (e : Row) (s : List Row × Bool), c = rf12b ∧ maskTm [7, 11, 12, 48] 0 tm = tm12b (rowsR l) ∧ hp = [rowB m9 bs9, bq e.1 e.2, cell (.s (.slice none 0 0)), cell (bo false)] ∧ (okMask e ∧ (∀ r ∈ l, okMask r) ∧ 2 * l.length ≤ 1000000) ∧
      s = l.foldl (stepB e) ([], false) ∧ K .normal (tm12b (rowsR l)) [rowB m9 bs9, bq e.1 e.2, acc (rowsR s.1), cell (bo s.2)] b
  | _ => False

theorem wl12_ok {Ev : Env Try.prog} (c : Code) (tm : List AV) (hp : List Blk) (b : Ev.β) (K : Exit → List AV → List Blk → Ev.β → Prop) (h : wl12 c tm hp b K) : W Ev c ⟨tm, hp, b⟩ (fun e s => K e s.tm s.hp s.b) := by
  unfold wl12 at h
  split at h
  · obtain ⟨l, m9, bs9, x, rfl, htm, rfl, hpre, hK⟩ := h
    refine W.cast (hp' := [rowB m9 bs9, bq x.1 x.2, acc (rowsR [])]) (htm ▸ maskTm_le _ tm 0) (.cons (LeL.refl _) (.cons (LeL.refl _) (.cons (.cons (LeA.nilOwn rfl) .nil) .nil))) ?_
    rw [rf12a_shape]
    exact W.range (s := ⟨tm12a (rowsR l), _, b⟩) (k := 38) (first := []) (caps := [.rptr [.sl 2 (rowsR l)]]) rfl rfl rfl (ic38 l (by omega)) (range12a (rowsR l) m9 bs9 x l [] (by simpa using hpre) hK)
  · obtain ⟨l, m9, bs9, e, s, rfl, htm, rfl, ⟨he, hok, hl⟩, rfl, hK⟩ := h
    refine W.cast (hp' := [rowB m9 bs9, bq e.1 e.2, acc (rowsR []), cell (bo false)]) (htm ▸ maskTm_le _ tm 0) (.cons (LeL.refl _) (.cons (LeL.refl _) (.cons (.cons (LeA.nilOwn rfl) .nil) (.cons (LeL.refl _) .nil)))) ?_
    rw [rf12b_shape]
    exact W.range (s := ⟨tm12b (rowsR l), _, b⟩) (k := 38) (first := []) (caps := [.rptr [.sl 2 (rowsR l)]]) rfl rfl rfl (ic38 l (by omega)) (range12b (rowsR l) m9 bs9 e he l [] false hok (by simpa using hl) hK)
  · exact h.elim

section
variable {β : Type} (wl : WLT β) (y : YieldT β) (b : β) (R : AV → β → Prop)
theorem f12_nf (xs : List (List Dv)) (m : Int) (p : List Int) : wpFn Try.prog ⟨TS, [], wl12, y, false⟩ 100 Try.f12 [.d (.sl 2 xs), rowA m p] b R = (
  ∃ m0 b1,
  [AV.agg [AV.d (i64 m), AV.d (Dv.sl (1 : Nat) (bytesR p))]] = [AV.agg [AV.d (i64 m0), AV.d (Dv.sl (1 : Nat) (bytesR b1))]] ∧
    ∃ l2,
      [AV.d (Dv.sl (2 : Nat) xs)] = [AV.d (Dv.sl (2 : Nat) (rowsR l2))] ∧
        List.length l2 ≤ (9223372036854775807 : Nat) ∧
          BIf (!validS l2) (R (AV.tup [AV.d (Dv.s (Value.slice none (0 : Nat) (0 : Nat))), AV.d (bo false), AV.d (i64 (1 : Int))]) b)
            (BIf (!fine m0 b1) (R (AV.tup [AV.d (Dv.s (Value.slice none (0 : Nat) (0 : Nat))), AV.d (bo false), AV.d (i64 (1 : Int))]) b)
              (∃ l3 m4 p5 x6,
                [AV.d (Dv.sl (2 : Nat) xs), eqA m0 (pad b1)] = [AV.d (Dv.sl (2 : Nat) (rowsR l3)), eqA m4 p5] ∧
                  ((∀ (r : Row), r ∈ l3 → (1 : Int) ≤ Prod.fst r ∧ Prod.fst r < (65536 : Int)) ∧ List.length l3 ≤ (9223372036854775807 : Nat)) ∧
                    x6 = List.foldl red (m4, p5) l3 ∧
                      BIf
                        (Prod.fst x6 == (0 : Int) &&
                          (nth (Prod.snd x6) (0 : Nat) == (0 : Int) &&
                              (nth (Prod.snd x6) (1 : Nat) == (0 : Int) &&
                                (nth (Prod.snd x6) (2 : Nat) == (0 : Int) &&
                                  (nth (Prod.snd x6) (3 : Nat) == (0 : Int) &&
                                    (nth (Prod.snd x6) (4 : Nat) == (0 : Int) &&
                                      (nth (Prod.snd x6) (5 : Nat) == (0 : Int) &&
                                        (nth (Prod.snd x6) (6 : Nat) == (0 : Int) &&
                                          (nth (Prod.snd x6) (7 : Nat) == (0 : Int) &&
                                            (nth (Prod.snd x6) (8 : Nat) == (0 : Int) &&
                                              (nth (Prod.snd x6) (9 : Nat) == (0 : Int) &&
                                                (nth (Prod.snd x6) (10 : Nat) == (0 : Int) &&
                                                  (nth (Prod.snd x6) (11 : Nat) == (0 : Int) &&
                                                    (nth (Prod.snd x6) (12 : Nat) == (0 : Int) &&
                                                      (nth (Prod.snd x6) (13 : Nat) == (0 : Int) &&
                                                        (nth (Prod.snd x6) (14 : Nat) == (0 : Int) &&
                                                          (nth (Prod.snd x6) (15 : Nat) == (0 : Int) && true))))))))))))))) &&
                            true))
                        (∃ xs7,
                          [AV.d (Dv.sl (2 : Nat) xs)] = [AV.d (Dv.sl (2 : Nat) xs7)] ∧
                            ∃ l8 m9 bs10 x11,
                              rf12a = rf12a ∧
                                [AV.bad, AV.bad, AV.bad, AV.bad, AV.bad, AV.bad, AV.bad, AV.bad, AV.bad, AV.ptr (2 : Nat) (0 : Nat), AV.bad, AV.bad, AV.bad,
                                      AV.bad, AV.bad, AV.bad, AV.bad, AV.bad, AV.bad, AV.bad, AV.bad, AV.bad, AV.bad, AV.bad, AV.bad, AV.bad, AV.bad, AV.bad,
                                      AV.bad, AV.bad, AV.bad, AV.bad, AV.bad, AV.bad, AV.fn (Fn.func (38 : Nat)) [] [AV.rptr [Dv.sl (2 : Nat) xs7]], AV.bad,
                                      AV.bad, AV.bad, AV.bad, AV.bad, AV.bad, AV.bad, AV.bad, AV.bad, AV.bad, AV.bad, AV.bad, AV.bad, AV.bad, AV.bad, AV.bad,
                                      AV.bad, AV.bad, AV.bad, AV.bad, AV.bad, AV.bad, AV.bad, AV.bad, AV.bad, AV.bad, AV.bad, AV.bad, AV.bad, AV.bad, AV.bad,
                                      AV.bad, AV.bad, AV.bad, AV.bad, AV.bad, AV.bad, AV.bad, AV.bad, AV.bad, AV.bad, AV.bad, AV.bad, AV.bad, AV.bad, AV.bad,
                                      AV.bad, AV.bad, AV.bad, AV.bad, AV.bad, AV.bad, AV.bad, AV.bad, AV.bad, AV.bad, AV.bad, AV.bad, AV.bad, AV.bad] =
                                    [AV.bad, AV.bad, AV.bad, AV.bad, AV.bad, AV.bad, AV.bad, AV.bad, AV.bad, AV.ptr (2 : Nat) (0 : Nat), AV.bad, AV.bad, AV.bad,
                                      AV.bad, AV.bad, AV.bad, AV.bad, AV.bad, AV.bad, AV.bad, AV.bad, AV.bad, AV.bad, AV.bad, AV.bad, AV.bad, AV.bad, AV.bad,
                                      AV.bad, AV.bad, AV.bad, AV.bad, AV.bad, AV.bad, AV.fn (Fn.func (38 : Nat)) [] [AV.rptr [Dv.sl (2 : Nat) (rowsR l8)]],
                                      AV.bad, AV.bad, AV.bad, AV.bad, AV.bad, AV.bad, AV.bad, AV.bad, AV.bad, AV.bad, AV.bad, AV.bad, AV.bad, AV.bad, AV.bad,
                                      AV.bad, AV.bad, AV.bad, AV.bad, AV.bad, AV.bad, AV.bad, AV.bad, AV.bad, AV.bad, AV.bad, AV.bad, AV.bad, AV.bad, AV.bad,
                                      AV.bad, AV.bad, AV.bad, AV.bad, AV.bad, AV.bad, AV.bad, AV.bad, AV.bad, AV.bad, AV.bad, AV.bad, AV.bad, AV.bad, AV.bad,
                                      AV.bad, AV.bad, AV.bad, AV.bad, AV.bad, AV.bad, AV.bad, AV.bad, AV.bad, AV.bad, AV.bad, AV.bad, AV.bad, AV.bad, AV.bad] ∧
                                  [{ cells := [AV.d (i64 m), AV.d (Dv.sl (1 : Nat) (bytesR p))] }, bq (Prod.fst x6) (Prod.snd x6),
                                        cell (Dv.s (Value.slice none (0 : Nat) (0 : Nat)))] =
                                      [{ cells := [AV.d (i64 m9), AV.d (Dv.sl (1 : Nat) bs10)] }, bq (Prod.fst x11) (Prod.snd x11),
                                        cell (Dv.s (Value.slice none (0 : Nat) (0 : Nat)))] ∧
                                    List.length l8 ≤ (1000000 : Nat) ∧
                                      R (AV.tup [AV.d (Dv.sl (2 : Nat) (rowsR (List.map keepR l8))), AV.d (bo false), AV.d (i64 (0 : Int))]) b)
                        (BIf (Prod.fst x6 == (0 : Int))
                          (R (AV.tup [AV.d (Dv.s (Value.slice none (0 : Nat) (0 : Nat))), AV.d (bo false), AV.d (i64 (12 : Int))]) b)
                          (∃ xs12,
                            [AV.d (Dv.sl (2 : Nat) xs)] = [AV.d (Dv.sl (2 : Nat) xs12)] ∧
                              ∃ l13 m14 bs15 e16 s17,
                                rf12b = rf12b ∧
                                  [AV.bad, AV.bad, AV.bad, AV.bad, AV.bad, AV.bad, AV.bad, AV.ptr (1 : Nat) (0 : Nat), AV.bad, AV.bad, AV.bad,
                                        AV.ptr (2 : Nat) (0 : Nat), AV.ptr (3 : Nat) (0 : Nat), AV.bad, AV.bad, AV.bad, AV.bad, AV.bad, AV.bad, AV.bad, AV.bad,
                                        AV.bad, AV.bad, AV.bad, AV.bad, AV.bad, AV.bad, AV.bad, AV.bad, AV.bad, AV.bad, AV.bad, AV.bad, AV.bad, AV.bad, AV.bad,
                                        AV.bad, AV.bad, AV.bad, AV.bad, AV.bad, AV.bad, AV.bad, AV.bad, AV.bad, AV.bad, AV.bad, AV.bad,
                                        AV.fn (Fn.func (38 : Nat)) [] [AV.rptr [Dv.sl (2 : Nat) xs12]], AV.bad, AV.bad, AV.bad, AV.bad, AV.bad, AV.bad, AV.bad,
                                        AV.bad, AV.bad, AV.bad, AV.bad, AV.bad, AV.bad, AV.bad, AV.bad, AV.bad, AV.bad, AV.bad, AV.bad, AV.bad, AV.bad, AV.bad,
                                        AV.bad, AV.bad, AV.bad, AV.bad, AV.bad, AV.bad, AV.bad, AV.bad, AV.bad, AV.bad, AV.bad, AV.bad, AV.bad, AV.bad, AV.bad,
                                        AV.bad, AV.bad, AV.bad, AV.bad, AV.bad, AV.bad, AV.bad, AV.bad, AV.bad] =
                                      [AV.bad, AV.bad, AV.bad, AV.bad, AV.bad, AV.bad, AV.bad, AV.ptr (1 : Nat) (0 : Nat), AV.bad, AV.bad, AV.bad,
                                        AV.ptr (2 : Nat) (0 : Nat), AV.ptr (3 : Nat) (0 : Nat), AV.bad, AV.bad, AV.bad, AV.bad, AV.bad, AV.bad, AV.bad, AV.bad,
                                        AV.bad, AV.bad, AV.bad, AV.bad, AV.bad, AV.bad, AV.bad, AV.bad, AV.bad, AV.bad, AV.bad, AV.bad, AV.bad, AV.bad, AV.bad,
                                        AV.bad, AV.bad, AV.bad, AV.bad, AV.bad, AV.bad, AV.bad, AV.bad, AV.bad, AV.bad, AV.bad, AV.bad,
                                        AV.fn (Fn.func (38 : Nat)) [] [AV.rptr [Dv.sl (2 : Nat) (rowsR l13)]], AV.bad, AV.bad, AV.bad, AV.bad, AV.bad, AV.bad,
                                        AV.bad, AV.bad, AV.bad, AV.bad, AV.bad, AV.bad, AV.bad, AV.bad, AV.bad, AV.bad, AV.bad, AV.bad, AV.bad, AV.bad, AV.bad,
                                        AV.bad, AV.bad, AV.bad, AV.bad, AV.bad, AV.bad, AV.bad, AV.bad, AV.bad, AV.bad, AV.bad, AV.bad, AV.bad, AV.bad, AV.bad,
                                        AV.bad, AV.bad, AV.bad, AV.bad, AV.bad, AV.bad, AV.bad, AV.bad, AV.bad, AV.bad] ∧
                                    [{ cells := [AV.d (i64 m), AV.d (Dv.sl (1 : Nat) (bytesR p))] }, bq (Prod.fst x6) (Prod.snd x6),
                                          cell (Dv.s (Value.slice none (0 : Nat) (0 : Nat))), cell (bo false)] =
                                        [{ cells := [AV.d (i64 m14), AV.d (Dv.sl (1 : Nat) bs15)] }, bq (Prod.fst e16) (Prod.snd e16),
                                          cell (Dv.s (Value.slice none (0 : Nat) (0 : Nat))), cell (bo false)] ∧
                                      (((1 : Int) ≤ Prod.fst e16 ∧ Prod.fst e16 < (65536 : Int)) ∧
                                          (∀ (r : Row), r ∈ l13 → (1 : Int) ≤ Prod.fst r ∧ Prod.fst r < (65536 : Int)) ∧
                                            (2 : Nat) * List.length l13 ≤ (1000000 : Nat)) ∧
                                        s17 = List.foldl (stepB e16) ([], false) l13 ∧
                                          BIf (!Prod.snd s17)
                                            (∃ m18 p19 q20,
                                              [eqA (Prod.fst e16) (Prod.snd e16)] = [eqA m18 p19] ∧
                                                q20 = bytesR (b16 p19) ∧
                                                  BIf (true && decide ((List.length (rowsR (Prod.fst s17)) + (1 : Nat)) * (32 : Nat) ≤ (140737488355328 : Nat)))
                                                    (R
                                                      (AV.tup
                                                        [AV.d (Dv.sl (2 : Nat) (rowsR (Prod.fst s17) ++ [[i64 m18, Dv.sl (1 : Nat) q20]])), AV.d (bo true),
                                                          AV.d (i64 (0 : Int))])
                                                      b)
                                                    False)
                                            (R (AV.tup [AV.d (Dv.sl (2 : Nat) (rowsR (Prod.fst s17))), AV.d (bo true), AV.d (i64 (0 : Int))]) b)))))) := by kernel_rfl
end
end Go.Proofs.Ytgdeoaiakdkhcaa.Am
