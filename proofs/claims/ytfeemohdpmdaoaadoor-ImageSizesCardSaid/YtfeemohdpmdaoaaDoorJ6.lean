import Derived.Test.YtfeemohdpmdaoaaDoorJ5
set_option linter.unusedSimpArgs false
namespace Go.Proofs.YtfeemohdpmdaoaaDoor.Am
set_option linter.unusedVariables false
open Go Go.RowKit Go.Proofs

theorem half_256 {n : Nat} (h : n ≤ 1000000) : IntKind.wrap IntKind.i64 (Int.tdiv (IntKind.wrap IntKind.i64 ((n : Int) + 255)) 256) = (((n + 255) / 256 : Nat) : Int) := by
  rw [wrap_i64 (x := (n : Int) + 255) (by omega) (by omega), show Int.tdiv ((n : Int) + 255) 256 = (((n + 255) / 256 : Nat) : Int) from rfl, wrap_i64 (by omega) (by omega)]
set_option maxRecDepth 20000 in
theorem pcLaw7 (p : List Int) (n : Int) (h1 : p.length ≤ 9223372036854775807) : PCall Tryd.prog 7 [.d (.sl 1 (bytesR p)), .d (i64 n)] (.d (bo true)) := by
  refine PCall.ofFnW (n := 200) (u := false) (fun _ => wl7) mixed TL3_ok SCallsOk.nil (fun Ev => wl7_ok) Tryd.func7 (by rfl) (by rfl) fun Ev bb => ?_
  rw [f7_nf, bytesR_len]
  refine ⟨rfl, _, rfl, BIf.of (fun _ => rfl) fun g1 => BIf.of (fun _ => rfl) fun g2 => BIf.of (fun _ => rfl) fun g3 => BIf.of (fun _ => rfl) fun g4 => ?_⟩
  have g1 := of_decide_eq_false g1
  have g2 := of_decide_eq_false g2
  have g3 := of_decide_eq_false g3
  have g4 := of_decide_eq_false g4
  obtain ⟨k, rfl⟩ := Int.eq_ofNat_of_zero_le (show 0 ≤ n by omega)
  have hsz : sizedS (p.length : Int) = true := by rw [sized_iff, decide_eq_true (by omega), decide_eq_true (by omega)]; rfl
  have hsk : sizedS (k : Int) = true := by rw [sized_iff, decide_eq_true (by omega), decide_eq_true (by omega)]; rfl
  have he : splitE p = (splitS p, 0) := by rw [splitE, if_pos hsz]
  refine ⟨p, splitS p, 0, rfl, ⟨h1, he.symm⟩, BIf.f rfl (BIf.f ?_ ⟨splitS p, k, (joinS (splitS p) k).1, (joinS (splitS p) k).2, rfl, ⟨(splitE_small he.symm h1).1, rfl⟩, BIf.of (fun g => BIf.t rfl ?_) fun g => ?_⟩)⟩
  · rw [partsR_len, split_len, half_256 (by omega)]; simp
  · rw [partsR_len, split_len, half_256 (by omega)] at g
    have hne : ((splitS p).length : Int) ≠ countS k := by rw [split_len, countS_eq (by omega)]; simp at g; omega
    have : joinS (splitS p) k = ([], 1) := by rw [joinS, if_pos (by rw [show (((splitS p).length : Int) != countS k) = true by simpa using hne]; simp)]
    rw [this]; rfl
  · rw [partsR_len, split_len, half_256 (by omega)] at g
    have hc : (k + 255) / 256 = (p.length + 255) / 256 := by simp at g; omega
    have hj := join_split (p := p) (n := k) hsk hc
    refine ⟨p, k, _, _, _, rfl, rfl, rfl, ⟨by omega, rfl⟩, fun _ => BIf.of (fun gz => ?_) fun gz => ?_⟩
    · have gz : (p.drop k).all (· == 0) = false := by simpa using gz
      rw [hj, if_neg (by rw [gz]; simp)]; rfl
    · have gz : (p.drop k).all (· == 0) = true := by simpa using gz
      rw [hj, if_pos gz]
      have hlk : ((p ++ List.replicate (k - p.length) 0).take k).length = k := by simp; omega
      refine BIf.t rfl (BIf.t (by rw [bytesR_len, hlk]; simp) ?_)
      rw [bytesR_len, bytesR_len, hlk]
      have hm : ∃ z : Nat, (z : Int) = (if (p.length : Int) < (k : Int) then (p.length : Int) else (k : Int)) ∧ z ≤ k ∧ z ≤ p.length ∧ (p ++ List.replicate (k - p.length) 0).take z = p.take z := by
        by_cases h : p.length < k
        · refine ⟨p.length, by rw [if_pos (by omega)], by omega, Nat.le_refl _, ?_⟩
          rw [List.take_left', List.take_length]; rfl
        · refine ⟨k, by rw [if_neg (by omega)], Nat.le_refl _, by omega, ?_⟩
          rw [Nat.sub_eq_zero_of_le (by omega), List.replicate_zero, List.append_nil]
      obtain ⟨z, z1, z2, z3, z4⟩ := hm
      have e1 : List.take (Int.toNat (z : Int) - Int.toNat 0) (List.drop (Int.toNat 0) (bytesR ((p ++ List.replicate (k - p.length) 0).take k))) = bytesR (p.take z) := by
        rw [show Int.toNat 0 = 0 from rfl, Nat.sub_zero, List.drop_zero, Int.toNat_natCast, bytesR_take, List.take_take, Nat.min_eq_left z2, z4]
      have e2 : List.take (Int.toNat (z : Int) - Int.toNat 0) (List.drop (Int.toNat 0) (bytesR p)) = bytesR (p.take z) := by
        rw [show Int.toNat 0 = 0 from rfl, Nat.sub_zero, List.drop_zero, Int.toNat_natCast, bytesR_take]
      refine ⟨z, z1, BIf.t (by simp only [Bool.true_and, decide_eq_true_eq]; omega) ⟨z, z1, BIf.t (by simp only [Bool.true_and, decide_eq_true_eq]; omega) ⟨p.take z, p.take z, true, by rw [e1, e2], ⟨by simp; omega, by simp⟩, rfl⟩⟩⟩
end Go.Proofs.YtfeemohdpmdaoaaDoor.Am

namespace Go.Proofs.YtfeemohdpmdaoaaDoor.Am
set_option linter.unusedVariables false
open Go Go.RowKit Go.Proofs

/-! ### the law Keeps -/
set_option maxRecDepth 20000 in
theorem wr5 {Ev : Env Tryd.prog} {b : Ev.β} {Q : Exit → St Ev.β → Prop} (s u : SprT) (pg pf : List (List Dv)) (n : Nat) (hn : n ≤ 1000000) (h1 : n ≤ s.ps.length ∧ n ≤ s.qs.length ∧ n ≤ u.ps.length ∧ n ≤ u.qs.length) (hp : ∀ i, i < n → nthL u.ps i = nthL s.ps i ∧ nthL u.qs i = nthL s.qs i)
    (hl : (∀ x ∈ u.ps, x.length ≤ 1000000) ∧ ∀ x ∈ u.qs, x.length ≤ 1000000) : ∀ (m k : Nat), n - k = m → k ≤ n →
    (∀ i : Int, Q (.exit 0) ⟨tm5 pg pf n n i, [blkS s, blkS u], b⟩) → WR Ev lp5 (m + 1) ⟨tm5 pg pf n n k, [blkS s, blkS u], b⟩ Q
  | m, k, hm, hk, h => by
    refine WR.ofMaskT [1, 2, 3, 6, 7, 8, 10, 116, 117] mixed (CX.Ok.of (u := false) T5_ok SCallsOk.nil) (k := 100) ?_
    rw [r5]
    refine BIf.of (fun g => ?_) fun g => h _
    have hkn : k < n := by have := of_decide_eq_true g; omega
    obtain ⟨e1, e2⟩ := hp k hkn
    refine BIf.t (by simp) ⟨_, by rw [Int.toNat_natCast]; exact parts_at (by omega), BIf.t (by simp) ⟨_, by rw [Int.toNat_natCast]; exact parts_at (by omega), nthL u.ps k, nthL s.ps k, true, rfl, ⟨by have := hl.1 _ (nthL_mem (p := u.ps) (k := k) (by omega)); omega, by rw [e1]; simp⟩, BIf.f rfl (BIf.t (by simp) ⟨_, by rw [Int.toNat_natCast]; exact proofs_at (by omega), BIf.t (by simp) ⟨_, by rw [Int.toNat_natCast]; exact proofs_at (by omega),
      nthL u.qs k, nthL s.qs k, true, rfl, ⟨by have := hl.2 _ (nthL_mem (p := u.qs) (k := k) (by omega)); omega, by rw [e2]; simp⟩, BIf.f rfl ?_⟩⟩)⟩⟩
    rw [wrap_succ hkn (by omega)]
    cases m with
    | zero => omega
    | succ m => exact wr5 s u pg pf n hn h1 hp hl m (k + 1) (by omega) (by omega) h
def wl5 {β : Type} : WLT β := fun c tm hp b K => ∃ (s u : SprT) (pg pf : List (List Dv)) (n : Nat), c = .loop lp5 ∧ maskTm [1, 2, 3, 7, 8, 10, 116, 117] 0 tm = tm5 pg pf n n 0 ∧ hp = [blkS s, blkS u] ∧
  (n ≤ 1000000 ∧ (n ≤ s.ps.length ∧ n ≤ s.qs.length ∧ n ≤ u.ps.length ∧ n ≤ u.qs.length) ∧ (∀ i, i < n → nthL u.ps i = nthL s.ps i ∧ nthL u.qs i = nthL s.qs i) ∧ (∀ x ∈ u.ps, x.length ≤ 1000000) ∧ ∀ x ∈ u.qs, x.length ≤ 1000000) ∧ ∀ i : Int, K (.exit 0) (tm5 pg pf n n i) [blkS s, blkS u] b
theorem wl5_ok {Ev : Env Tryd.prog} (c : Code) (tm : List AV) (hp : List Blk) (b : Ev.β) (K : Exit → List AV → List Blk → Ev.β → Prop) (h : wl5 c tm hp b K) : W Ev c ⟨tm, hp, b⟩ (fun e s => K e s.tm s.hp s.b) := by
  obtain ⟨s, u, pg, pf, n, rfl, htm, rfl, ⟨hn, h1, h2, h3, h4⟩, hK⟩ := h
  refine W.cast (htm ▸ maskTm_le _ tm 0) (LeH.refl _) ?_
  exact W.rounds (wr5 (Q := fun e s => K e s.tm s.hp s.b) s u pg pf n hn h1 h2 ⟨h3, h4⟩ n 0 rfl (Nat.zero_le _) hK)
def TL5 : List (Nat × (List AV → (AV → Prop) → Prop)) := [(10, cHead), (12, cFew), (26, cRSound), (27, cRCount), (21, cPut), (20, cBytes), (28, cTSame)]
theorem TL5_ok : CallsOk Tryd.prog TL5 := CallsOk.cons cHead_ok (CallsOk.cons cFew_ok (CallsOk.cons cRSound_ok (CallsOk.cons cRCount_ok (CallsOk.cons cPut_ok (CallsOk.cons cBytes_ok (CallsOk.cons cTSame_ok CallsOk.nil))))))
section
variable {β : Type} (wl : WLT β) (y : YieldT β) (b : β) (R : AV → β → Prop) (K : Exit → List AV → List Blk → β → Prop)
set_option maxHeartbeats 0
set_option maxRecDepth 100000
theorem f5_nf (s : SprT) (p q : List (List Dv)) : wpFn Tryd.prog ⟨TL5, [], wl5, y, false⟩ 200 Tryd.f5 [spV s, .d (.sl 1 p), .d (.sl 1 q)] b R = ( ([] : List AV) = [] ∧ ∃ (z0 : Bool), z0 = true ∧ ∃ (s1 : SprT), ∃ (z2 : Bool), [AV.agg [AV.d (i64 (NotT.v (SprT.no s))), AV.d (i64 (NotT.n (SprT.no s))), AV.d (u64 (NotT.r (SprT.no s))), AV.d (i64 (NotT.t (SprT.no s))), AV.d (Dv.sl 1 (partsR (SprT.ps s))), AV.d (Dv.sl 1 (proofsR (SprT.qs s))), AV.d (Dv.sl 2 (SprT.rows s)), AV.d (Dv.sl 1 (digR (SprT.pf s))), AV.d (i64 (SprT.i1 s)), AV.d (i64 (SprT.i2 s)), AV.d (i64 (SprT.i3 s)), AV.d (i64 (SprT.i4 s)), AV.d (i64 (SprT.i5 s))]] = [AV.agg [AV.d (i64 (NotT.v (SprT.no s1))), AV.d (i64 (NotT.n (SprT.no s1))), AV.d (u64 (NotT.r (SprT.no s1))), AV.d (i64 (NotT.t (SprT.no s1))), AV.d (Dv.sl 1 (partsR (SprT.ps s1))), AV.d (Dv.sl 1 (proofsR (SprT.qs s1))), AV.d (Dv.sl 2 (SprT.rows s1)), AV.d (Dv.sl 1 (digR (SprT.pf s1))), AV.d (i64 (SprT.i1 s1)), AV.d (i64 (SprT.i2 s1)), AV.d (i64 (SprT.i3 s1)), AV.d (i64 (SprT.i4 s1)), AV.d (i64 (SprT.i5 s1))]] ∧ ((∀ (r : List Dv), r ∈ SprT.rows s1 → ∃ (m3 : Int), ∃ (xs4 : List (List Dv)), r = [i64 m3, Dv.sl 1 xs4]) ∧ z2 = fewS s1) ∧ BIf (!z2) (R (AV.d (bo z0)) b) (∃ (s5 : SprT), ∃ (z6 : Bool), [AV.agg [AV.d (i64 (NotT.v (SprT.no s))), AV.d (i64 (NotT.n (SprT.no s))), AV.d (u64 (NotT.r (SprT.no s))), AV.d (i64 (NotT.t (SprT.no s))), AV.d (Dv.sl 1 (partsR (SprT.ps s))), AV.d (Dv.sl 1 (proofsR (SprT.qs s))), AV.d (Dv.sl 2 (SprT.rows s)), AV.d (Dv.sl 1 (digR (SprT.pf s))), AV.d (i64 (SprT.i1 s)), AV.d (i64 (SprT.i2 s)), AV.d (i64 (SprT.i3 s)), AV.d (i64 (SprT.i4 s)), AV.d (i64 (SprT.i5 s))]] = [AV.agg [AV.d (i64 (NotT.v (SprT.no s5))), AV.d (i64 (NotT.n (SprT.no s5))), AV.d (u64 (NotT.r (SprT.no s5))), AV.d (i64 (NotT.t (SprT.no s5))), AV.d (Dv.sl 1 (partsR (SprT.ps s5))), AV.d (Dv.sl 1 (proofsR (SprT.qs s5))), AV.d (Dv.sl 2 (SprT.rows s5)), AV.d (Dv.sl 1 (digR (SprT.pf s5))), AV.d (i64 (SprT.i1 s5)), AV.d (i64 (SprT.i2 s5)), AV.d (i64 (SprT.i3 s5)), AV.d (i64 (SprT.i4 s5)), AV.d (i64 (SprT.i5 s5))]] ∧ (List.length (SprT.ps s5) ≤ 9223372036854775807 ∧ z6 = soundS s5) ∧ BIf (!z6) (R (AV.d (bo z0)) b) (BIf (decide (((List.length p : Nat) : Int) > (1000 : Int))) (R (AV.d (bo z0)) b) (BIf (decide (((List.length q : Nat) : Int) > (40 : Int))) (R (AV.d (bo z0)) b) (∃ (s7 : SprT), ∃ (p8 : List Int), ∃ (q9 : List Int), ∃ (z10 : SprT), ∃ (e11 : Int), [AV.agg [AV.d (i64 (NotT.v (SprT.no s))), AV.d (i64 (NotT.n (SprT.no s))), AV.d (u64 (NotT.r (SprT.no s))), AV.d (i64 (NotT.t (SprT.no s))), AV.d (Dv.sl 1 (partsR (SprT.ps s))), AV.d (Dv.sl 1 (proofsR (SprT.qs s))), AV.d (Dv.sl 2 (SprT.rows s)), AV.d (Dv.sl 1 (digR (SprT.pf s))), AV.d (i64 (SprT.i1 s)), AV.d (i64 (SprT.i2 s)), AV.d (i64 (SprT.i3 s)), AV.d (i64 (SprT.i4 s)), AV.d (i64 (SprT.i5 s))], AV.d (Dv.sl 1 p), AV.d (Dv.sl 1 q)] = [AV.agg [AV.d (i64 (NotT.v (SprT.no s7))), AV.d (i64 (NotT.n (SprT.no s7))), AV.d (u64 (NotT.r (SprT.no s7))), AV.d (i64 (NotT.t (SprT.no s7))), AV.d (Dv.sl 1 (partsR (SprT.ps s7))), AV.d (Dv.sl 1 (proofsR (SprT.qs s7))), AV.d (Dv.sl 2 (SprT.rows s7)), AV.d (Dv.sl 1 (digR (SprT.pf s7))), AV.d (i64 (SprT.i1 s7)), AV.d (i64 (SprT.i2 s7)), AV.d (i64 (SprT.i3 s7)), AV.d (i64 (SprT.i4 s7)), AV.d (i64 (SprT.i5 s7))], AV.d (Dv.sl 1 (bytesR p8)), AV.d (Dv.sl 1 (digR q9))] ∧ ((List.length (SprT.ps s7) ≤ 9223372036854775807 ∧ List.length q9 ≤ 1000000 ∧ ∀ (x : List Int), x ∈ SprT.qs s7 → List.length x ≤ 1000000) ∧ (z10, e11) = putS s7 p8 q9) ∧ ∃ (n12 : Int), ∃ (z13 : Int), [AV.d (i64 (NotT.n (SprT.no s)))] = [AV.d (i64 n12)] ∧ z13 = countS n12 ∧ BIf (((List.length (partsR (SprT.ps s)) : Nat) : Int) == z13) (BIf z0 (BIf (e11 == (10 : Int)) (R (AV.d (bo true)) b) (BIf (((List.length p : Nat) : Int) != (256 : Int)) (R (AV.d (bo (e11 == (1 : Int)))) b) (R (AV.d (bo false)) b))) (R (AV.d (bo false)) b)) (BIf (e11 != (0 : Int)) (BIf z0 (R (AV.d (bo (((List.length (partsR (SprT.ps z10)) : Nat) : Int) == (0 : Int)))) b) (R (AV.d (bo false)) b)) (BIf (((List.length (partsR (SprT.ps z10)) : Nat) : Int) != IntKind.wrap IntKind.i64 (((List.length (partsR (SprT.ps s)) : Nat) : Int) + (1 : Int))) (R (AV.d (bo false)) b) (BIf (((List.length (proofsR (SprT.qs z10)) : Nat) : Int) != IntKind.wrap IntKind.i64 (((List.length (partsR (SprT.ps s)) : Nat) : Int) + (1 : Int))) (R (AV.d (bo false)) b) (BIf (!(NotT.v (SprT.no z10) == NotT.v (SprT.no s) && (NotT.n (SprT.no z10) == NotT.n (SprT.no s) && (NotT.r (SprT.no z10) == NotT.r (SprT.no s) && (NotT.t (SprT.no z10) == NotT.t (SprT.no s) && true))))) (R (AV.d (bo false)) b) (BIf (!(SprT.i1 z10 == SprT.i1 s && (SprT.i2 z10 == SprT.i2 s && (SprT.i3 z10 == SprT.i3 s && (SprT.i4 z10 == SprT.i4 s && (SprT.i5 z10 == SprT.i5 s && true)))))) (R (AV.d (bo false)) b) (BIf (IntKind.wrap IntKind.i64 (((List.length (SprT.rows z10) : Nat) : Int) + ((List.length (digR (SprT.pf z10)) : Nat) : Int)) != (0 : Int)) (R (AV.d (bo false)) b) (∃ (s14 : SprT), ∃ (z15 : Bool), [AV.agg [AV.d (i64 (NotT.v (SprT.no z10))), AV.d (i64 (NotT.n (SprT.no z10))), AV.d (u64 (NotT.r (SprT.no z10))), AV.d (i64 (NotT.t (SprT.no z10))), AV.d (Dv.sl 1 (partsR (SprT.ps z10))), AV.d (Dv.sl 1 (proofsR (SprT.qs z10))), AV.d (Dv.sl 2 (SprT.rows z10)), AV.d (Dv.sl 1 (digR (SprT.pf z10))), AV.d (i64 (SprT.i1 z10)), AV.d (i64 (SprT.i2 z10)), AV.d (i64 (SprT.i3 z10)), AV.d (i64 (SprT.i4 z10)), AV.d (i64 (SprT.i5 z10))]] = [AV.agg [AV.d (i64 (NotT.v (SprT.no s14))), AV.d (i64 (NotT.n (SprT.no s14))), AV.d (u64 (NotT.r (SprT.no s14))), AV.d (i64 (NotT.t (SprT.no s14))), AV.d (Dv.sl 1 (partsR (SprT.ps s14))), AV.d (Dv.sl 1 (proofsR (SprT.qs s14))), AV.d (Dv.sl 2 (SprT.rows s14)), AV.d (Dv.sl 1 (digR (SprT.pf s14))), AV.d (i64 (SprT.i1 s14)), AV.d (i64 (SprT.i2 s14)), AV.d (i64 (SprT.i3 s14)), AV.d (i64 (SprT.i4 s14)), AV.d (i64 (SprT.i5 s14))]] ∧ (List.length (SprT.ps s14) ≤ 9223372036854775807 ∧ z15 = soundS s14) ∧ BIf (!z15) (R (AV.d (bo false)) b) (∃ (s16 : SprT), ∃ (u17 : SprT), ∃ (pg18 : List (List Dv)), ∃ (pf19 : List (List Dv)), ∃ (n20 : Nat), Code.loop lp5 = Code.loop lp5 ∧ [AV.bad, AV.d (Dv.sl 1 p), AV.d (Dv.sl 1 q), AV.ptr 0 0, AV.bad, AV.bad, AV.bad, AV.d (bo z0), AV.ptr 1 0, AV.bad, AV.d (i64 ((List.length (partsR (SprT.ps s)) : Nat) : Int)), AV.bad, AV.bad, AV.bad, AV.bad, AV.bad, AV.bad, AV.bad, AV.bad, AV.bad, AV.bad, AV.bad, AV.bad, AV.bad, AV.bad, AV.bad, AV.bad, AV.bad, AV.bad, AV.bad, AV.bad, AV.bad, AV.bad, AV.bad, AV.bad, AV.bad, AV.bad, AV.bad, AV.bad, AV.bad, AV.bad, AV.bad, AV.bad, AV.bad, AV.bad, AV.bad, AV.bad, AV.bad, AV.bad, AV.bad, AV.bad, AV.bad, AV.bad, AV.bad, AV.bad, AV.bad, AV.bad, AV.bad, AV.bad, AV.bad, AV.bad, AV.bad, AV.bad, AV.bad, AV.bad, AV.bad, AV.bad, AV.bad, AV.bad, AV.bad, AV.bad, AV.bad, AV.bad, AV.bad, AV.bad, AV.bad, AV.bad, AV.bad, AV.bad, AV.bad, AV.bad, AV.bad, AV.bad, AV.bad, AV.bad, AV.bad, AV.bad, AV.bad, AV.bad, AV.bad, AV.bad, AV.bad, AV.bad, AV.bad, AV.bad, AV.bad, AV.bad, AV.bad, AV.bad, AV.bad, AV.bad, AV.bad, AV.bad, AV.bad, AV.bad, AV.bad, AV.bad, AV.bad, AV.bad, AV.bad, AV.bad, AV.bad, AV.bad, AV.bad, AV.bad, AV.bad, AV.d (i64 ((List.length (partsR (SprT.ps s)) : Nat) : Int)), AV.d (i64 (0 : Int)), AV.bad, AV.bad, AV.bad, AV.bad, AV.bad, AV.bad, AV.bad, AV.bad, AV.bad, AV.bad, AV.bad, AV.bad, AV.bad, AV.bad, AV.bad, AV.bad, AV.bad, AV.bad, AV.bad, AV.bad, AV.bad, AV.bad, AV.bad, AV.bad, AV.bad, AV.bad, AV.bad, AV.bad, AV.bad, AV.bad, AV.bad, AV.bad, AV.bad, AV.bad, AV.bad, AV.bad, AV.bad, AV.bad, AV.bad, AV.bad, AV.bad, AV.bad, AV.bad, AV.bad, AV.bad, AV.bad, AV.bad, AV.bad] = [AV.bad, AV.d (Dv.sl 1 pg18), AV.d (Dv.sl 1 pf19), AV.ptr 0 0, AV.bad, AV.bad, AV.bad, AV.d (bo true), AV.ptr 1 0, AV.bad, AV.d (i64 (n20 : Int)), AV.bad, AV.bad, AV.bad, AV.bad, AV.bad, AV.bad, AV.bad, AV.bad, AV.bad, AV.bad, AV.bad, AV.bad, AV.bad, AV.bad, AV.bad, AV.bad, AV.bad, AV.bad, AV.bad, AV.bad, AV.bad, AV.bad, AV.bad, AV.bad, AV.bad, AV.bad, AV.bad, AV.bad, AV.bad, AV.bad, AV.bad, AV.bad, AV.bad, AV.bad, AV.bad, AV.bad, AV.bad, AV.bad, AV.bad, AV.bad, AV.bad, AV.bad, AV.bad, AV.bad, AV.bad, AV.bad, AV.bad, AV.bad, AV.bad, AV.bad, AV.bad, AV.bad, AV.bad, AV.bad, AV.bad, AV.bad, AV.bad, AV.bad, AV.bad, AV.bad, AV.bad, AV.bad, AV.bad, AV.bad, AV.bad, AV.bad, AV.bad, AV.bad, AV.bad, AV.bad, AV.bad, AV.bad, AV.bad, AV.bad, AV.bad, AV.bad, AV.bad, AV.bad, AV.bad, AV.bad, AV.bad, AV.bad, AV.bad, AV.bad, AV.bad, AV.bad, AV.bad, AV.bad, AV.bad, AV.bad, AV.bad, AV.bad, AV.bad, AV.bad, AV.bad, AV.bad, AV.bad, AV.bad, AV.bad, AV.bad, AV.bad, AV.bad, AV.bad, AV.bad, AV.bad, AV.d (i64 (n20 : Int)), AV.d (i64 (0 : Int)), AV.bad, AV.bad, AV.bad, AV.bad, AV.bad, AV.bad, AV.bad, AV.bad, AV.bad, AV.bad, AV.bad, AV.bad, AV.bad, AV.bad, AV.bad, AV.bad, AV.bad, AV.bad, AV.bad, AV.bad, AV.bad, AV.bad, AV.bad, AV.bad, AV.bad, AV.bad, AV.bad, AV.bad, AV.bad, AV.bad, AV.bad, AV.bad, AV.bad, AV.bad, AV.bad, AV.bad, AV.bad, AV.bad, AV.bad, AV.bad, AV.bad, AV.bad, AV.bad, AV.bad, AV.bad, AV.bad, AV.bad, AV.bad] ∧ [Blk.mk [AV.d (i64 (NotT.v (SprT.no s))), AV.d (i64 (NotT.n (SprT.no s))), AV.d (u64 (NotT.r (SprT.no s))), AV.d (i64 (NotT.t (SprT.no s))), AV.d (Dv.sl 1 (partsR (SprT.ps s))), AV.d (Dv.sl 1 (proofsR (SprT.qs s))), AV.d (Dv.sl 2 (SprT.rows s)), AV.d (Dv.sl 1 (digR (SprT.pf s))), AV.d (i64 (SprT.i1 s)), AV.d (i64 (SprT.i2 s)), AV.d (i64 (SprT.i3 s)), AV.d (i64 (SprT.i4 s)), AV.d (i64 (SprT.i5 s))] false false 0, Blk.mk [AV.d (i64 (NotT.v (SprT.no z10))), AV.d (i64 (NotT.n (SprT.no z10))), AV.d (u64 (NotT.r (SprT.no z10))), AV.d (i64 (NotT.t (SprT.no z10))), AV.d (Dv.sl 1 (partsR (SprT.ps z10))), AV.d (Dv.sl 1 (proofsR (SprT.qs z10))), AV.d (Dv.sl 2 (SprT.rows z10)), AV.d (Dv.sl 1 (digR (SprT.pf z10))), AV.d (i64 (SprT.i1 z10)), AV.d (i64 (SprT.i2 z10)), AV.d (i64 (SprT.i3 z10)), AV.d (i64 (SprT.i4 z10)), AV.d (i64 (SprT.i5 z10))] false false 0] = [Blk.mk [AV.d (i64 (NotT.v (SprT.no s16))), AV.d (i64 (NotT.n (SprT.no s16))), AV.d (u64 (NotT.r (SprT.no s16))), AV.d (i64 (NotT.t (SprT.no s16))), AV.d (Dv.sl 1 (partsR (SprT.ps s16))), AV.d (Dv.sl 1 (proofsR (SprT.qs s16))), AV.d (Dv.sl 2 (SprT.rows s16)), AV.d (Dv.sl 1 (digR (SprT.pf s16))), AV.d (i64 (SprT.i1 s16)), AV.d (i64 (SprT.i2 s16)), AV.d (i64 (SprT.i3 s16)), AV.d (i64 (SprT.i4 s16)), AV.d (i64 (SprT.i5 s16))] false false 0, Blk.mk [AV.d (i64 (NotT.v (SprT.no u17))), AV.d (i64 (NotT.n (SprT.no u17))), AV.d (u64 (NotT.r (SprT.no u17))), AV.d (i64 (NotT.t (SprT.no u17))), AV.d (Dv.sl 1 (partsR (SprT.ps u17))), AV.d (Dv.sl 1 (proofsR (SprT.qs u17))), AV.d (Dv.sl 2 (SprT.rows u17)), AV.d (Dv.sl 1 (digR (SprT.pf u17))), AV.d (i64 (SprT.i1 u17)), AV.d (i64 (SprT.i2 u17)), AV.d (i64 (SprT.i3 u17)), AV.d (i64 (SprT.i4 u17)), AV.d (i64 (SprT.i5 u17))] false false 0] ∧ (n20 ≤ 1000000 ∧ (n20 ≤ List.length (SprT.ps s16) ∧ n20 ≤ List.length (SprT.qs s16) ∧ n20 ≤ List.length (SprT.ps u17) ∧ n20 ≤ List.length (SprT.qs u17)) ∧ (∀ (i : Nat), i < n20 → nthL (SprT.ps u17) i = nthL (SprT.ps s16) i ∧ nthL (SprT.qs u17) i = nthL (SprT.qs s16) i) ∧ (∀ (x : List Int), x ∈ SprT.ps u17 → List.length x ≤ 1000000) ∧ ∀ (x : List Int), x ∈ SprT.qs u17 → List.length x ≤ 1000000) ∧ ∀ (i : Int), ∃ (xs21 : List (List Dv)), (partsR (SprT.ps u17))[Int.toNat (n20 : Int)]? = some [Dv.sl 1 xs21] ∧ ∃ (a24 : List Int), ∃ (c25 : List Int), ∃ (z26 : Bool), [AV.d (Dv.sl 1 xs21), AV.d (Dv.sl 1 pg18)] = [AV.d (Dv.sl 1 (bytesR a24)), AV.d (Dv.sl 1 (bytesR c25))] ∧ (List.length a24 ≤ 9223372036854775807 ∧ z26 = decide (a24 = c25)) ∧ BIf z26 (∃ (xs27 : List (List Dv)), (proofsR (SprT.qs u17))[Int.toNat (n20 : Int)]? = some [Dv.sl 1 xs27] ∧ ∃ (a30 : List Int), ∃ (c31 : List Int), ∃ (z32 : Bool), [AV.d (Dv.sl 1 xs27), AV.d (Dv.sl 1 pf19)] = [AV.d (Dv.sl 1 (digR a30)), AV.d (Dv.sl 1 (digR c31))] ∧ (List.length a30 ≤ 9223372036854775807 ∧ z32 = decide (a30 = c31)) ∧ R (AV.d (bo z32)) b) (R (AV.d (bo false)) b)))))))))))))) := by kernel_rfl
end
end Go.Proofs.YtfeemohdpmdaoaaDoor.Am

namespace Go.Proofs.YtfeemohdpmdaoaaDoor.Am
set_option linter.unusedVariables false
open Go Go.RowKit Go.Proofs

theorem allP_no (s z : SprT) (h : z.no = s.no) : ∀ (ps qs : List (List Int)) (k : Nat), allP z k ps qs = allP s k ps qs
  | [], qs, k => by rw [allP, allP] <;> (intros; simp_all)
  | p :: ps, [], k => by rw [allP, allP] <;> (intros; simp_all)
  | p :: ps, q :: qs, k => by rw [allP, allP, allP_no s z h ps qs, provedS, provedS, h]
theorem allP_app (s : SprT) (p q : List Int) : ∀ (ps qs : List (List Int)) (k : Nat), ps.length = qs.length → allP s k (ps ++ [p]) (qs ++ [q]) = (allP s k ps qs && provedS s ((k + ps.length : Nat) : Int) p q)
  | [], [], k, h => by
    show (provedS s k p q && allP s (k + 1) [] []) = _
    rw [show allP s (k + 1) [] [] = true from rfl, show allP s k [] [] = true from rfl, Bool.and_true, Bool.true_and]; rfl
  | [], q :: qs, k, h => by simp at h
  | p :: ps, [], k, h => by simp at h
  | a :: ps, c :: qs, k, h => by
    show (provedS s k a c && allP s (k + 1) (ps ++ [p]) (qs ++ [q])) = ((provedS s k a c && allP s (k + 1) ps qs) && _)
    rw [allP_app s p q ps qs (k + 1) (by simpa using h), Bool.and_assoc]
    congr 3
    rw [List.length_cons]; congr 1; omega
theorem sound_put {s : SprT} {p q : List Int} (h : soundS s = true) (hp : p.length = 256) (hc : (s.ps.length : Int) ≠ countS s.no.n) (hq : provedS s s.ps.length p q = true) (z : SprT) (hn : z.no = s.no) (h1 : z.ps = s.ps ++ [p]) (h2 : z.qs = s.qs ++ [q]) : soundS z = true := by
  obtain ⟨f1, f2, f3, f4, f5⟩ := sound_facts h
  simp only [soundS, Bool.and_eq_true] at h
  obtain ⟨g1, g2, g3, g4, g5⟩ := h
  have g2 : ¬ ((s.ps.length : Int) > countS s.no.n) := by simpa using g2
  have g4 : anyOther s.ps = false := by simpa using g4
  have a1 : anyOther (s.ps ++ [p]) = false := by
    rw [anyOther] at g4 ⊢
    rw [List.any_append, g4]
    simp [hp]
  have a2 : allP z 0 (s.ps ++ [p]) (s.qs ++ [q]) = true := by
    rw [allP_no s z hn, allP_app s p q _ _ _ f2.symm, g5, Nat.zero_add, hq]; rfl
  rw [soundS, hn, h1, h2, g1, a1, a2]
  simp [f2]; omega
set_option maxRecDepth 20000 in
theorem pcLaw5 (s : SprT) (p q : List Int) (ho : RowsOk s) :
    PCall Tryd.prog 5 [spV s, .d (.sl 1 (bytesR p)), .d (.sl 1 (digR q))] (.d (bo true)) := by
  refine PCall.ofFnW (n := 200) (u := false) (fun _ => wl5) mixed TL5_ok SCallsOk.nil (fun Ev => wl5_ok) Tryd.func5 (by rfl) (by rfl) fun Ev bb => ?_
  rw [f5_nf]
  refine ⟨rfl, _, rfl, s, _, rfl, ⟨ho, rfl⟩, BIf.of (fun _ => rfl) fun g1 => ?_⟩
  have hf : fewS s = true := by simpa using g1
  obtain ⟨f1, f2, f3, f4, f5⟩ := few_facts hf
  refine ⟨s, _, rfl, ⟨by omega, rfl⟩, BIf.of (fun _ => rfl) fun g2 => BIf.of (fun _ => rfl) fun g3 => BIf.of (fun _ => rfl) fun g4 => ?_⟩
  have hs : soundS s = true := by simpa using g2
  have hnot : ¬ (soundS s = false ∨ p.length ≠ 256) ↔ p.length = 256 := by rw [hs]; simp
  obtain ⟨k1, k2, k3, k4, k5⟩ := sound_facts hs
  rw [bytesR_len] at g3 ⊢
  rw [digR_len] at g4
  have g3 := of_decide_eq_false g3
  have g4 := of_decide_eq_false g4
  rw [partsR_len]
  refine ⟨s, p, q, (putS s p q).1, (putS s p q).2, rfl, ⟨⟨by omega, by omega, fun x hx => by have := f5 x hx; omega⟩, rfl⟩, _, _, rfl, rfl, BIf.of (fun h => BIf.t rfl ?_) fun h => ?_⟩
  · have hc : (s.ps.length : Int) = countS s.no.n := by simpa using h
    by_cases hp : p.length = 256
    · have e : putS s p q = (zeroSp, 10) := by rw [putS, if_neg (hnot.2 hp), if_pos hc]
      rw [e]
      exact BIf.t rfl rfl
    · have e : putS s p q = (zeroSp, 1) := by rw [putS, if_pos (.inr hp)]
      rw [e]
      exact BIf.f rfl (BIf.t (by simp; omega) rfl)
  have hc : (s.ps.length : Int) ≠ countS s.no.n := by simpa using h
  have bad : ∀ e, putS s p q = (zeroSp, e) → e ≠ 0 → BIf ((putS s p q).2 != (0 : Int)) (BIf true ((AV.d (bo (((List.length (partsR (putS s p q).1.ps) : Nat) : Int) == (0 : Int)))) = AV.d (bo true)) (AV.d (bo false) = AV.d (bo true))) False := by
    intro e he hne
    rw [he]
    exact BIf.t (by simpa using hne) (BIf.t rfl rfl)
  by_cases hp : p.length = 256
  · by_cases hq : provedS s s.ps.length p q = true
    · have e : putS s p q = (⟨s.no, s.ps ++ [p], s.qs ++ [q], [], [], s.i1, s.i2, s.i3, s.i4, s.i5⟩, 0) := by
        rw [putS, if_neg (hnot.2 hp), if_neg hc, if_neg (by rw [hq]; simp)]
      rw [e]
      have w : IntKind.wrap IntKind.i64 ((s.ps.length : Int) + 1) = ((s.ps.length + 1 : Nat) : Int) := by rw [wrap_i64 (by omega) (by omega)]; omega
      have hz : soundS ⟨s.no, s.ps ++ [p], s.qs ++ [q], [], [], s.i1, s.i2, s.i3, s.i4, s.i5⟩ = true := sound_put hs hp hc hq _ rfl rfl rfl
      refine BIf.f rfl (BIf.f (by rw [w, partsR_len]; simp) (BIf.f (by rw [w, proofs_len]; simp [k2]) (BIf.f (by simp) (BIf.f (by simp) (BIf.f (by rfl) ⟨_, _, rfl, ⟨by simp; omega, rfl⟩, BIf.f (by rw [hz]; rfl) ?_⟩)))))
      refine ⟨s, _, bytesR p, digR q, s.ps.length, rfl, rfl, rfl, ⟨by omega, ⟨by omega, by omega, by simp, by simp; omega⟩, fun i hi => ⟨?_, ?_⟩, fun x hx => ?_, fun x hx => ?_⟩, fun i => ?_⟩
      · simp [nthL, List.getElem?_append_left hi]
      · simp [nthL, List.getElem?_append_left (show i < s.qs.length by omega)]
      · rcases List.mem_append.1 hx with hx | hx
        · have := f4 x hx; omega
        · simp at hx; subst hx; omega
      · rcases List.mem_append.1 hx with hx | hx
        · have := f5 x hx; omega
        · simp at hx; subst hx; omega
      · have e1 : nthL (s.ps ++ [p]) s.ps.length = p := by simp [nthL]
        have e2 : nthL (s.qs ++ [q]) s.ps.length = q := by simp [nthL, ← k2]
        refine ⟨_, by rw [Int.toNat_natCast]; exact parts_at (by simp), p, p, true, by rw [e1], ⟨by omega, by simp⟩, BIf.t rfl ⟨_, by rw [Int.toNat_natCast]; exact proofs_at (by simp; omega), q, q, true, by rw [e2], ⟨by omega, by simp⟩, rfl⟩⟩
    · have e : putS s p q = (zeroSp, 12) := by rw [putS, if_neg (hnot.2 hp), if_neg hc, if_pos (by simpa using hq)]
      rw [e]
      exact BIf.t rfl (BIf.t rfl rfl)
  · have e : putS s p q = (zeroSp, 1) := by rw [putS, if_pos (.inr hp)]
    rw [e]
    exact BIf.t rfl (BIf.t rfl rfl)
end Go.Proofs.YtfeemohdpmdaoaaDoor.Am

namespace Go.Proofs.YtfeemohdpmdaoaaDoor.Am
set_option linter.unusedVariables false
open Go Go.RowKit Go.Proofs

/-! ### the laws Loads and OnlyRight: their loops -/
noncomputable def lp8 : Code := sub [1, 1, 1, 1, 1, 1, 1, 0, 1, 2, 3] (code Tryd.f8)
noncomputable def lp30 : Code := sub [1, 1, 1, 1, 0, 1, 2, 3] (code Tryd.f30)
def blkN (x : NotT) : Blk := ⟨[.d (i64 x.v), .d (i64 x.n), .d (u64 x.r), .d (i64 x.t)], false, false, 0⟩
def blkZ (x : NotT) : Blk := ⟨[.d (i64 x.v), .d (i64 x.n), .d (u64 x.r), .d (i64 x.t), nilV, nilV, nilV, nilV, .d (i64 0), .d (i64 0), .d (i64 0), .d (i64 0), .d (i64 0)], false, false, 0⟩
def tm8 (pg parts : List (List Dv)) (n i : Int) : List AV := [.d (.sl 1 pg), .bad, .bad, .bad, .bad, .bad, .bad, .d (bo true), .bad, .bad, .d (.sl 1 parts), .bad, .ptr 1 0] ++ List.replicate 30 .bad ++ [.d (.sl 1 parts), .d (i64 n), .d (i64 i)] ++ List.replicate 45 .bad
def tm30 (parts : List (List Dv)) (n e e' i : Int) : List AV := [.bad, .bad, .d (i64 n), .bad, .bad, .bad, .ptr 0 0, .bad, .bad, .bad, .d (i64 e), .d (.sl 1 parts), .d (i64 e'), .ptr 2 0, .d (i64 i)] ++ List.replicate 60 .bad
def T8 : List (Nat × (List AV → (AV → Prop) → Prop)) := [(10, cHead), (17, cAnnounce), (13, cSplitE), (23, cWhole), (29, cProof), (21, cPut), (20, cBytes)]
theorem T8_ok : CallsOk Tryd.prog T8 := CallsOk.cons cHead_ok (CallsOk.cons cAnnounce_ok (CallsOk.cons cSplitE_ok (CallsOk.cons cWhole_ok (CallsOk.cons cProof_ok (CallsOk.cons cPut_ok (CallsOk.cons cBytes_ok CallsOk.nil))))))
section
variable {β : Type} (wl : WLT β) (y : YieldT β) (b : β) (R : AV → β → Prop) (K : Exit → List AV → List Blk → β → Prop)
set_option maxHeartbeats 0
set_option maxRecDepth 100000
theorem r8 (no : NotT) (s : SprT) (pg parts : List (List Dv)) (n i : Int) : wpc Tryd.prog ⟨T8, [], wl, y, false⟩ 100 lp8 (tm8 pg parts n i) [blkN no, blkS s] b (maskK 2 [0, 7, 10, 12, 43, 44, 45] K) = ( BIf (decide (i < n)) (BIf (true && decide ((0 : Int) ≤ i)) (∃ (xs0 : List (List Dv)), parts[Int.toNat i]? = some [Dv.sl 1 xs0] ∧ ∃ (s3 : SprT), ∃ (z4 : List Int), ∃ (e5 : Bool), [AV.agg [AV.d (i64 (NotT.v (SprT.no s))), AV.d (i64 (NotT.n (SprT.no s))), AV.d (u64 (NotT.r (SprT.no s))), AV.d (i64 (NotT.t (SprT.no s))), AV.d (Dv.sl 1 (partsR (SprT.ps s))), AV.d (Dv.sl 1 (proofsR (SprT.qs s))), AV.d (Dv.sl 2 (SprT.rows s)), AV.d (Dv.sl 1 (digR (SprT.pf s))), AV.d (i64 (SprT.i1 s)), AV.d (i64 (SprT.i2 s)), AV.d (i64 (SprT.i3 s)), AV.d (i64 (SprT.i4 s)), AV.d (i64 (SprT.i5 s))]] = [AV.agg [AV.d (i64 (NotT.v (SprT.no s3))), AV.d (i64 (NotT.n (SprT.no s3))), AV.d (u64 (NotT.r (SprT.no s3))), AV.d (i64 (NotT.t (SprT.no s3))), AV.d (Dv.sl 1 (partsR (SprT.ps s3))), AV.d (Dv.sl 1 (proofsR (SprT.qs s3))), AV.d (Dv.sl 2 (SprT.rows s3)), AV.d (Dv.sl 1 (digR (SprT.pf s3))), AV.d (i64 (SprT.i1 s3)), AV.d (i64 (SprT.i2 s3)), AV.d (i64 (SprT.i3 s3)), AV.d (i64 (SprT.i4 s3)), AV.d (i64 (SprT.i5 s3))]] ∧ (List.length (SprT.ps s3) ≤ 9223372036854775807 ∧ (z4, e5) = wholeS s3) ∧ BIf e5 (K Exit.ret [AV.d (Dv.sl 1 pg), AV.bad, AV.bad, AV.bad, AV.bad, AV.bad, AV.bad, AV.d (bo true), AV.bad, AV.bad, AV.d (Dv.sl 1 parts), AV.bad, AV.ptr 1 0, AV.bad, AV.bad, AV.bad, AV.bad, AV.bad, AV.bad, AV.bad, AV.bad, AV.bad, AV.bad, AV.bad, AV.bad, AV.bad, AV.bad, AV.bad, AV.bad, AV.bad, AV.bad, AV.bad, AV.bad, AV.bad, AV.bad, AV.bad, AV.bad, AV.bad, AV.bad, AV.bad, AV.bad, AV.bad, AV.bad, AV.d (Dv.sl 1 parts), AV.d (i64 n), AV.d (i64 i), AV.bad, AV.bad, AV.bad, AV.bad, AV.bad, AV.bad, AV.bad, AV.bad, AV.bad, AV.bad, AV.bad, AV.bad, AV.bad, AV.bad, AV.bad, AV.bad, AV.bad, AV.bad, AV.bad, AV.bad, AV.bad, AV.bad, AV.bad, AV.bad, AV.bad, AV.bad, AV.bad, AV.bad, AV.bad, AV.bad, AV.bad, AV.bad, AV.bad, AV.bad, AV.bad, AV.bad, AV.bad, AV.bad, AV.bad, AV.bad, AV.bad, AV.bad, AV.bad, AV.bad, AV.bad] [Blk.mk [AV.d (i64 (NotT.v no)), AV.d (i64 (NotT.n no)), AV.d (u64 (NotT.r no)), AV.d (i64 (NotT.t no))] false false 0, Blk.mk [AV.d (i64 (NotT.v (SprT.no s))), AV.d (i64 (NotT.n (SprT.no s))), AV.d (u64 (NotT.r (SprT.no s))), AV.d (i64 (NotT.t (SprT.no s))), AV.d (Dv.sl 1 (partsR (SprT.ps s))), AV.d (Dv.sl 1 (proofsR (SprT.qs s))), AV.d (Dv.sl 2 (SprT.rows s)), AV.d (Dv.sl 1 (digR (SprT.pf s))), AV.d (i64 (SprT.i1 s)), AV.d (i64 (SprT.i2 s)), AV.d (i64 (SprT.i3 s)), AV.d (i64 (SprT.i4 s)), AV.d (i64 (SprT.i5 s))] false false 0] b) (∃ (ps6 : List (List Int)), ∃ (i7 : Int), ∃ (z8 : List Int × Int), [AV.d (Dv.sl 1 parts), AV.d (i64 i)] = [AV.d (Dv.sl 1 (partsR ps6)), AV.d (i64 i7)] ∧ z8 = proofS ps6 i7 ∧ ∃ (s9 : SprT), ∃ (p10 : List Int), ∃ (q11 : List Int), ∃ (z12 : SprT), ∃ (e13 : Int), [AV.agg [AV.d (i64 (NotT.v (SprT.no s))), AV.d (i64 (NotT.n (SprT.no s))), AV.d (u64 (NotT.r (SprT.no s))), AV.d (i64 (NotT.t (SprT.no s))), AV.d (Dv.sl 1 (partsR (SprT.ps s))), AV.d (Dv.sl 1 (proofsR (SprT.qs s))), AV.d (Dv.sl 2 (SprT.rows s)), AV.d (Dv.sl 1 (digR (SprT.pf s))), AV.d (i64 (SprT.i1 s)), AV.d (i64 (SprT.i2 s)), AV.d (i64 (SprT.i3 s)), AV.d (i64 (SprT.i4 s)), AV.d (i64 (SprT.i5 s))], AV.d (Dv.sl 1 xs0), AV.d (Dv.sl 1 (digR (Prod.fst z8)))] = [AV.agg [AV.d (i64 (NotT.v (SprT.no s9))), AV.d (i64 (NotT.n (SprT.no s9))), AV.d (u64 (NotT.r (SprT.no s9))), AV.d (i64 (NotT.t (SprT.no s9))), AV.d (Dv.sl 1 (partsR (SprT.ps s9))), AV.d (Dv.sl 1 (proofsR (SprT.qs s9))), AV.d (Dv.sl 2 (SprT.rows s9)), AV.d (Dv.sl 1 (digR (SprT.pf s9))), AV.d (i64 (SprT.i1 s9)), AV.d (i64 (SprT.i2 s9)), AV.d (i64 (SprT.i3 s9)), AV.d (i64 (SprT.i4 s9)), AV.d (i64 (SprT.i5 s9))], AV.d (Dv.sl 1 (bytesR p10)), AV.d (Dv.sl 1 (digR q11))] ∧ ((List.length (SprT.ps s9) ≤ 9223372036854775807 ∧ List.length q11 ≤ 1000000 ∧ ∀ (x : List Int), x ∈ SprT.qs s9 → List.length x ≤ 1000000) ∧ (z12, e13) = putS s9 p10 q11) ∧ BIf (Prod.snd z8 != (0 : Int)) (K Exit.ret [AV.d (Dv.sl 1 pg), AV.bad, AV.bad, AV.bad, AV.bad, AV.bad, AV.bad, AV.d (bo true), AV.bad, AV.bad, AV.d (Dv.sl 1 parts), AV.bad, AV.ptr 1 0, AV.bad, AV.bad, AV.bad, AV.bad, AV.bad, AV.bad, AV.bad, AV.bad, AV.bad, AV.bad, AV.bad, AV.bad, AV.bad, AV.bad, AV.bad, AV.bad, AV.bad, AV.bad, AV.bad, AV.bad, AV.bad, AV.bad, AV.bad, AV.bad, AV.bad, AV.bad, AV.bad, AV.bad, AV.bad, AV.bad, AV.d (Dv.sl 1 parts), AV.d (i64 n), AV.d (i64 i), AV.bad, AV.bad, AV.bad, AV.bad, AV.bad, AV.bad, AV.bad, AV.bad, AV.bad, AV.bad, AV.bad, AV.bad, AV.bad, AV.bad, AV.bad, AV.bad, AV.bad, AV.bad, AV.bad, AV.bad, AV.bad, AV.bad, AV.bad, AV.bad, AV.bad, AV.bad, AV.bad, AV.bad, AV.bad, AV.bad, AV.bad, AV.bad, AV.bad, AV.bad, AV.bad, AV.bad, AV.bad, AV.bad, AV.bad, AV.bad, AV.bad, AV.bad, AV.bad, AV.bad, AV.bad] [Blk.mk [AV.d (i64 (NotT.v no)), AV.d (i64 (NotT.n no)), AV.d (u64 (NotT.r no)), AV.d (i64 (NotT.t no))] false false 0, Blk.mk [AV.d (i64 (NotT.v (SprT.no s))), AV.d (i64 (NotT.n (SprT.no s))), AV.d (u64 (NotT.r (SprT.no s))), AV.d (i64 (NotT.t (SprT.no s))), AV.d (Dv.sl 1 (partsR (SprT.ps s))), AV.d (Dv.sl 1 (proofsR (SprT.qs s))), AV.d (Dv.sl 2 (SprT.rows s)), AV.d (Dv.sl 1 (digR (SprT.pf s))), AV.d (i64 (SprT.i1 s)), AV.d (i64 (SprT.i2 s)), AV.d (i64 (SprT.i3 s)), AV.d (i64 (SprT.i4 s)), AV.d (i64 (SprT.i5 s))] false false 0] b) (BIf (e13 != (0 : Int)) (K Exit.ret [AV.d (Dv.sl 1 pg), AV.bad, AV.bad, AV.bad, AV.bad, AV.bad, AV.bad, AV.d (bo true), AV.bad, AV.bad, AV.d (Dv.sl 1 parts), AV.bad, AV.ptr 1 0, AV.bad, AV.bad, AV.bad, AV.bad, AV.bad, AV.bad, AV.bad, AV.bad, AV.bad, AV.bad, AV.bad, AV.bad, AV.bad, AV.bad, AV.bad, AV.bad, AV.bad, AV.bad, AV.bad, AV.bad, AV.bad, AV.bad, AV.bad, AV.bad, AV.bad, AV.bad, AV.bad, AV.bad, AV.bad, AV.bad, AV.d (Dv.sl 1 parts), AV.d (i64 n), AV.d (i64 i), AV.bad, AV.bad, AV.bad, AV.bad, AV.bad, AV.bad, AV.bad, AV.bad, AV.bad, AV.bad, AV.bad, AV.bad, AV.bad, AV.bad, AV.bad, AV.bad, AV.bad, AV.bad, AV.bad, AV.bad, AV.bad, AV.bad, AV.bad, AV.bad, AV.bad, AV.bad, AV.bad, AV.bad, AV.bad, AV.bad, AV.bad, AV.bad, AV.bad, AV.bad, AV.bad, AV.bad, AV.bad, AV.bad, AV.bad, AV.bad, AV.bad, AV.bad, AV.bad, AV.bad, AV.bad] [Blk.mk [AV.d (i64 (NotT.v no)), AV.d (i64 (NotT.n no)), AV.d (u64 (NotT.r no)), AV.d (i64 (NotT.t no))] false false 0, Blk.mk [AV.d (i64 (NotT.v (SprT.no s))), AV.d (i64 (NotT.n (SprT.no s))), AV.d (u64 (NotT.r (SprT.no s))), AV.d (i64 (NotT.t (SprT.no s))), AV.d (Dv.sl 1 (partsR (SprT.ps s))), AV.d (Dv.sl 1 (proofsR (SprT.qs s))), AV.d (Dv.sl 2 (SprT.rows s)), AV.d (Dv.sl 1 (digR (SprT.pf s))), AV.d (i64 (SprT.i1 s)), AV.d (i64 (SprT.i2 s)), AV.d (i64 (SprT.i3 s)), AV.d (i64 (SprT.i4 s)), AV.d (i64 (SprT.i5 s))] false false 0] b) (K Exit.normal [AV.d (Dv.sl 1 pg), AV.bad, AV.bad, AV.bad, AV.bad, AV.bad, AV.bad, AV.d (bo true), AV.bad, AV.bad, AV.d (Dv.sl 1 parts), AV.bad, AV.ptr 1 0, AV.bad, AV.bad, AV.bad, AV.bad, AV.bad, AV.bad, AV.bad, AV.bad, AV.bad, AV.bad, AV.bad, AV.bad, AV.bad, AV.bad, AV.bad, AV.bad, AV.bad, AV.bad, AV.bad, AV.bad, AV.bad, AV.bad, AV.bad, AV.bad, AV.bad, AV.bad, AV.bad, AV.bad, AV.bad, AV.bad, AV.d (Dv.sl 1 parts), AV.d (i64 n), AV.d (i64 (IntKind.wrap IntKind.i64 (i + (1 : Int)))), AV.bad, AV.bad, AV.bad, AV.bad, AV.bad, AV.bad, AV.bad, AV.bad, AV.bad, AV.bad, AV.bad, AV.bad, AV.bad, AV.bad, AV.bad, AV.bad, AV.bad, AV.bad, AV.bad, AV.bad, AV.bad, AV.bad, AV.bad, AV.bad, AV.bad, AV.bad, AV.bad, AV.bad, AV.bad, AV.bad, AV.bad, AV.bad, AV.bad, AV.bad, AV.bad, AV.bad, AV.bad, AV.bad, AV.bad, AV.bad, AV.bad, AV.bad, AV.bad, AV.bad, AV.bad] [Blk.mk [AV.d (i64 (NotT.v no)), AV.d (i64 (NotT.n no)), AV.d (u64 (NotT.r no)), AV.d (i64 (NotT.t no))] false false 0, Blk.mk [AV.d (i64 (NotT.v (SprT.no z12))), AV.d (i64 (NotT.n (SprT.no z12))), AV.d (u64 (NotT.r (SprT.no z12))), AV.d (i64 (NotT.t (SprT.no z12))), AV.d (Dv.sl 1 (partsR (SprT.ps z12))), AV.d (Dv.sl 1 (proofsR (SprT.qs z12))), AV.d (Dv.sl 2 (SprT.rows z12)), AV.d (Dv.sl 1 (digR (SprT.pf z12))), AV.d (i64 (SprT.i1 z12)), AV.d (i64 (SprT.i2 z12)), AV.d (i64 (SprT.i3 z12)), AV.d (i64 (SprT.i4 z12)), AV.d (i64 (SprT.i5 z12))] false false 0] b)))) False) (K (Exit.exit 0) [AV.d (Dv.sl 1 pg), AV.bad, AV.bad, AV.bad, AV.bad, AV.bad, AV.bad, AV.d (bo true), AV.bad, AV.bad, AV.d (Dv.sl 1 parts), AV.bad, AV.ptr 1 0, AV.bad, AV.bad, AV.bad, AV.bad, AV.bad, AV.bad, AV.bad, AV.bad, AV.bad, AV.bad, AV.bad, AV.bad, AV.bad, AV.bad, AV.bad, AV.bad, AV.bad, AV.bad, AV.bad, AV.bad, AV.bad, AV.bad, AV.bad, AV.bad, AV.bad, AV.bad, AV.bad, AV.bad, AV.bad, AV.bad, AV.d (Dv.sl 1 parts), AV.d (i64 n), AV.d (i64 i), AV.bad, AV.bad, AV.bad, AV.bad, AV.bad, AV.bad, AV.bad, AV.bad, AV.bad, AV.bad, AV.bad, AV.bad, AV.bad, AV.bad, AV.bad, AV.bad, AV.bad, AV.bad, AV.bad, AV.bad, AV.bad, AV.bad, AV.bad, AV.bad, AV.bad, AV.bad, AV.bad, AV.bad, AV.bad, AV.bad, AV.bad, AV.bad, AV.bad, AV.bad, AV.bad, AV.bad, AV.bad, AV.bad, AV.bad, AV.bad, AV.bad, AV.bad, AV.bad, AV.bad, AV.bad] [Blk.mk [AV.d (i64 (NotT.v no)), AV.d (i64 (NotT.n no)), AV.d (u64 (NotT.r no)), AV.d (i64 (NotT.t no))] false false 0, Blk.mk [AV.d (i64 (NotT.v (SprT.no s))), AV.d (i64 (NotT.n (SprT.no s))), AV.d (u64 (NotT.r (SprT.no s))), AV.d (i64 (NotT.t (SprT.no s))), AV.d (Dv.sl 1 (partsR (SprT.ps s))), AV.d (Dv.sl 1 (proofsR (SprT.qs s))), AV.d (Dv.sl 2 (SprT.rows s)), AV.d (Dv.sl 1 (digR (SprT.pf s))), AV.d (i64 (SprT.i1 s)), AV.d (i64 (SprT.i2 s)), AV.d (i64 (SprT.i3 s)), AV.d (i64 (SprT.i4 s)), AV.d (i64 (SprT.i5 s))] false false 0] b)) := by kernel_rfl
theorem r30 (no : NotT) (s : SprT) (parts : List (List Dv)) (n e e' i : Int) : wpc Tryd.prog ⟨T8, [], wl, y, false⟩ 100 lp30 (tm30 parts n e e' i) [blkZ ⟨0, 0, 0, 0⟩, blkN no, blkS s] b (maskK 3 [2, 6, 10, 11, 12, 13, 14] K) = ( BIf (decide (i < n)) (BIf (decide (i < ((List.length parts : Nat) : Int))) (∃ (ps0 : List (List Int)), ∃ (i1 : Int), ∃ (z2 : List Int × Int), [AV.d (Dv.sl 1 parts), AV.d (i64 i)] = [AV.d (Dv.sl 1 (partsR ps0)), AV.d (i64 i1)] ∧ z2 = proofS ps0 i1 ∧ BIf (true && decide ((0 : Int) ≤ i)) (∃ (xs3 : List (List Dv)), parts[Int.toNat i]? = some [Dv.sl 1 xs3] ∧ ∃ (s6 : SprT), ∃ (p7 : List Int), ∃ (q8 : List Int), ∃ (z9 : SprT), ∃ (e10 : Int), [AV.agg [AV.d (i64 (NotT.v (SprT.no s))), AV.d (i64 (NotT.n (SprT.no s))), AV.d (u64 (NotT.r (SprT.no s))), AV.d (i64 (NotT.t (SprT.no s))), AV.d (Dv.sl 1 (partsR (SprT.ps s))), AV.d (Dv.sl 1 (proofsR (SprT.qs s))), AV.d (Dv.sl 2 (SprT.rows s)), AV.d (Dv.sl 1 (digR (SprT.pf s))), AV.d (i64 (SprT.i1 s)), AV.d (i64 (SprT.i2 s)), AV.d (i64 (SprT.i3 s)), AV.d (i64 (SprT.i4 s)), AV.d (i64 (SprT.i5 s))], AV.d (Dv.sl 1 xs3), AV.d (Dv.sl 1 (digR (Prod.fst z2)))] = [AV.agg [AV.d (i64 (NotT.v (SprT.no s6))), AV.d (i64 (NotT.n (SprT.no s6))), AV.d (u64 (NotT.r (SprT.no s6))), AV.d (i64 (NotT.t (SprT.no s6))), AV.d (Dv.sl 1 (partsR (SprT.ps s6))), AV.d (Dv.sl 1 (proofsR (SprT.qs s6))), AV.d (Dv.sl 2 (SprT.rows s6)), AV.d (Dv.sl 1 (digR (SprT.pf s6))), AV.d (i64 (SprT.i1 s6)), AV.d (i64 (SprT.i2 s6)), AV.d (i64 (SprT.i3 s6)), AV.d (i64 (SprT.i4 s6)), AV.d (i64 (SprT.i5 s6))], AV.d (Dv.sl 1 (bytesR p7)), AV.d (Dv.sl 1 (digR q8))] ∧ ((List.length (SprT.ps s6) ≤ 9223372036854775807 ∧ List.length q8 ≤ 1000000 ∧ ∀ (x : List Int), x ∈ SprT.qs s6 → List.length x ≤ 1000000) ∧ (z9, e10) = putS s6 p7 q8) ∧ BIf (Prod.snd z2 != (0 : Int)) (K Exit.ret [AV.bad, AV.bad, AV.d (i64 n), AV.bad, AV.bad, AV.bad, AV.ptr 0 0, AV.bad, AV.bad, AV.bad, AV.d (i64 e), AV.d (Dv.sl 1 parts), AV.d (i64 e'), AV.ptr 2 0, AV.d (i64 i), AV.bad, AV.bad, AV.bad, AV.bad, AV.bad, AV.bad, AV.bad, AV.bad, AV.bad, AV.bad, AV.bad, AV.bad, AV.bad, AV.bad, AV.bad, AV.bad, AV.bad, AV.bad, AV.bad, AV.bad, AV.bad, AV.bad, AV.bad, AV.bad, AV.bad, AV.bad, AV.bad, AV.bad, AV.bad, AV.bad, AV.bad, AV.bad, AV.bad, AV.bad, AV.bad, AV.bad, AV.bad, AV.bad, AV.bad, AV.bad, AV.bad, AV.bad, AV.bad, AV.bad, AV.bad, AV.bad, AV.bad, AV.bad, AV.bad, AV.bad, AV.bad, AV.bad, AV.bad, AV.bad, AV.bad, AV.bad, AV.bad, AV.bad, AV.bad, AV.bad] [Blk.mk [AV.d (i64 (NotT.v (SprT.no s))), AV.d (i64 (NotT.n (SprT.no s))), AV.d (u64 (NotT.r (SprT.no s))), AV.d (i64 (NotT.t (SprT.no s))), AV.d (Dv.sl 1 (partsR (SprT.ps s))), AV.d (Dv.sl 1 (proofsR (SprT.qs s))), AV.d (Dv.sl 2 (SprT.rows s)), AV.d (Dv.sl 1 (digR (SprT.pf s))), AV.d (i64 (SprT.i1 s)), AV.d (i64 (SprT.i2 s)), AV.d (i64 (SprT.i3 s)), AV.d (i64 (SprT.i4 s)), AV.d (i64 (SprT.i5 s))] false false 0, Blk.mk [AV.d (i64 (NotT.v no)), AV.d (i64 (NotT.n no)), AV.d (u64 (NotT.r no)), AV.d (i64 (NotT.t no))] false false 0, Blk.mk [AV.d (i64 (NotT.v (SprT.no s))), AV.d (i64 (NotT.n (SprT.no s))), AV.d (u64 (NotT.r (SprT.no s))), AV.d (i64 (NotT.t (SprT.no s))), AV.d (Dv.sl 1 (partsR (SprT.ps s))), AV.d (Dv.sl 1 (proofsR (SprT.qs s))), AV.d (Dv.sl 2 (SprT.rows s)), AV.d (Dv.sl 1 (digR (SprT.pf s))), AV.d (i64 (SprT.i1 s)), AV.d (i64 (SprT.i2 s)), AV.d (i64 (SprT.i3 s)), AV.d (i64 (SprT.i4 s)), AV.d (i64 (SprT.i5 s))] false false 0] b) (BIf (e10 != (0 : Int)) (K Exit.ret [AV.bad, AV.bad, AV.d (i64 n), AV.bad, AV.bad, AV.bad, AV.ptr 0 0, AV.bad, AV.bad, AV.bad, AV.d (i64 e), AV.d (Dv.sl 1 parts), AV.d (i64 e'), AV.ptr 2 0, AV.d (i64 i), AV.bad, AV.bad, AV.bad, AV.bad, AV.bad, AV.bad, AV.bad, AV.bad, AV.bad, AV.bad, AV.bad, AV.bad, AV.bad, AV.bad, AV.bad, AV.bad, AV.bad, AV.bad, AV.bad, AV.bad, AV.bad, AV.bad, AV.bad, AV.bad, AV.bad, AV.bad, AV.bad, AV.bad, AV.bad, AV.bad, AV.bad, AV.bad, AV.bad, AV.bad, AV.bad, AV.bad, AV.bad, AV.bad, AV.bad, AV.bad, AV.bad, AV.bad, AV.bad, AV.bad, AV.bad, AV.bad, AV.bad, AV.bad, AV.bad, AV.bad, AV.bad, AV.bad, AV.bad, AV.bad, AV.bad, AV.bad, AV.bad, AV.bad, AV.bad, AV.bad] [Blk.mk [AV.d (i64 (NotT.v (SprT.no s))), AV.d (i64 (NotT.n (SprT.no s))), AV.d (u64 (NotT.r (SprT.no s))), AV.d (i64 (NotT.t (SprT.no s))), AV.d (Dv.sl 1 (partsR (SprT.ps s))), AV.d (Dv.sl 1 (proofsR (SprT.qs s))), AV.d (Dv.sl 2 (SprT.rows s)), AV.d (Dv.sl 1 (digR (SprT.pf s))), AV.d (i64 (SprT.i1 s)), AV.d (i64 (SprT.i2 s)), AV.d (i64 (SprT.i3 s)), AV.d (i64 (SprT.i4 s)), AV.d (i64 (SprT.i5 s))] false false 0, Blk.mk [AV.d (i64 (NotT.v no)), AV.d (i64 (NotT.n no)), AV.d (u64 (NotT.r no)), AV.d (i64 (NotT.t no))] false false 0, Blk.mk [AV.d (i64 (NotT.v (SprT.no s))), AV.d (i64 (NotT.n (SprT.no s))), AV.d (u64 (NotT.r (SprT.no s))), AV.d (i64 (NotT.t (SprT.no s))), AV.d (Dv.sl 1 (partsR (SprT.ps s))), AV.d (Dv.sl 1 (proofsR (SprT.qs s))), AV.d (Dv.sl 2 (SprT.rows s)), AV.d (Dv.sl 1 (digR (SprT.pf s))), AV.d (i64 (SprT.i1 s)), AV.d (i64 (SprT.i2 s)), AV.d (i64 (SprT.i3 s)), AV.d (i64 (SprT.i4 s)), AV.d (i64 (SprT.i5 s))] false false 0] b) (K Exit.normal [AV.bad, AV.bad, AV.d (i64 n), AV.bad, AV.bad, AV.bad, AV.ptr 0 0, AV.bad, AV.bad, AV.bad, AV.d (i64 e), AV.d (Dv.sl 1 parts), AV.d (i64 e'), AV.ptr 2 0, AV.d (i64 (IntKind.wrap IntKind.i64 (i + (1 : Int)))), AV.bad, AV.bad, AV.bad, AV.bad, AV.bad, AV.bad, AV.bad, AV.bad, AV.bad, AV.bad, AV.bad, AV.bad, AV.bad, AV.bad, AV.bad, AV.bad, AV.bad, AV.bad, AV.bad, AV.bad, AV.bad, AV.bad, AV.bad, AV.bad, AV.bad, AV.bad, AV.bad, AV.bad, AV.bad, AV.bad, AV.bad, AV.bad, AV.bad, AV.bad, AV.bad, AV.bad, AV.bad, AV.bad, AV.bad, AV.bad, AV.bad, AV.bad, AV.bad, AV.bad, AV.bad, AV.bad, AV.bad, AV.bad, AV.bad, AV.bad, AV.bad, AV.bad, AV.bad, AV.bad, AV.bad, AV.bad, AV.bad, AV.bad, AV.bad, AV.bad] [Blk.mk [AV.d (i64 (0 : Int)), AV.d (i64 (0 : Int)), AV.d (u64 (0 : Int)), AV.d (i64 (0 : Int)), AV.d (Dv.s (Value.slice none 0 0)), AV.d (Dv.s (Value.slice none 0 0)), AV.d (Dv.s (Value.slice none 0 0)), AV.d (Dv.s (Value.slice none 0 0)), AV.d (i64 (0 : Int)), AV.d (i64 (0 : Int)), AV.d (i64 (0 : Int)), AV.d (i64 (0 : Int)), AV.d (i64 (0 : Int))] false false 0, Blk.mk [AV.d (i64 (NotT.v no)), AV.d (i64 (NotT.n no)), AV.d (u64 (NotT.r no)), AV.d (i64 (NotT.t no))] false false 0, Blk.mk [AV.d (i64 (NotT.v (SprT.no z9))), AV.d (i64 (NotT.n (SprT.no z9))), AV.d (u64 (NotT.r (SprT.no z9))), AV.d (i64 (NotT.t (SprT.no z9))), AV.d (Dv.sl 1 (partsR (SprT.ps z9))), AV.d (Dv.sl 1 (proofsR (SprT.qs z9))), AV.d (Dv.sl 2 (SprT.rows z9)), AV.d (Dv.sl 1 (digR (SprT.pf z9))), AV.d (i64 (SprT.i1 z9)), AV.d (i64 (SprT.i2 z9)), AV.d (i64 (SprT.i3 z9)), AV.d (i64 (SprT.i4 z9)), AV.d (i64 (SprT.i5 z9))] false false 0] b))) False) (K (Exit.exit 0) [AV.bad, AV.bad, AV.d (i64 n), AV.bad, AV.bad, AV.bad, AV.ptr 0 0, AV.bad, AV.bad, AV.bad, AV.d (i64 e), AV.d (Dv.sl 1 parts), AV.d (i64 e'), AV.ptr 2 0, AV.d (i64 i), AV.bad, AV.bad, AV.bad, AV.bad, AV.bad, AV.bad, AV.bad, AV.bad, AV.bad, AV.bad, AV.bad, AV.bad, AV.bad, AV.bad, AV.bad, AV.bad, AV.bad, AV.bad, AV.bad, AV.bad, AV.bad, AV.bad, AV.bad, AV.bad, AV.bad, AV.bad, AV.bad, AV.bad, AV.bad, AV.bad, AV.bad, AV.bad, AV.bad, AV.bad, AV.bad, AV.bad, AV.bad, AV.bad, AV.bad, AV.bad, AV.bad, AV.bad, AV.bad, AV.bad, AV.bad, AV.bad, AV.bad, AV.bad, AV.bad, AV.bad, AV.bad, AV.bad, AV.bad, AV.bad, AV.bad, AV.bad, AV.bad, AV.bad, AV.bad, AV.bad] [Blk.mk [AV.d (i64 (0 : Int)), AV.d (i64 (0 : Int)), AV.d (u64 (0 : Int)), AV.d (i64 (0 : Int)), AV.d (Dv.s (Value.slice none 0 0)), AV.d (Dv.s (Value.slice none 0 0)), AV.d (Dv.s (Value.slice none 0 0)), AV.d (Dv.s (Value.slice none 0 0)), AV.d (i64 (0 : Int)), AV.d (i64 (0 : Int)), AV.d (i64 (0 : Int)), AV.d (i64 (0 : Int)), AV.d (i64 (0 : Int))] false false 0, Blk.mk [AV.d (i64 (NotT.v no)), AV.d (i64 (NotT.n no)), AV.d (u64 (NotT.r no)), AV.d (i64 (NotT.t no))] false false 0, Blk.mk [AV.d (i64 (NotT.v (SprT.no s))), AV.d (i64 (NotT.n (SprT.no s))), AV.d (u64 (NotT.r (SprT.no s))), AV.d (i64 (NotT.t (SprT.no s))), AV.d (Dv.sl 1 (partsR (SprT.ps s))), AV.d (Dv.sl 1 (proofsR (SprT.qs s))), AV.d (Dv.sl 2 (SprT.rows s)), AV.d (Dv.sl 1 (digR (SprT.pf s))), AV.d (i64 (SprT.i1 s)), AV.d (i64 (SprT.i2 s)), AV.d (i64 (SprT.i3 s)), AV.d (i64 (SprT.i4 s)), AV.d (i64 (SprT.i5 s))] false false 0] b)) (K (Exit.exit 0) [AV.bad, AV.bad, AV.d (i64 n), AV.bad, AV.bad, AV.bad, AV.ptr 0 0, AV.bad, AV.bad, AV.bad, AV.d (i64 e), AV.d (Dv.sl 1 parts), AV.d (i64 e'), AV.ptr 2 0, AV.d (i64 i), AV.bad, AV.bad, AV.bad, AV.bad, AV.bad, AV.bad, AV.bad, AV.bad, AV.bad, AV.bad, AV.bad, AV.bad, AV.bad, AV.bad, AV.bad, AV.bad, AV.bad, AV.bad, AV.bad, AV.bad, AV.bad, AV.bad, AV.bad, AV.bad, AV.bad, AV.bad, AV.bad, AV.bad, AV.bad, AV.bad, AV.bad, AV.bad, AV.bad, AV.bad, AV.bad, AV.bad, AV.bad, AV.bad, AV.bad, AV.bad, AV.bad, AV.bad, AV.bad, AV.bad, AV.bad, AV.bad, AV.bad, AV.bad, AV.bad, AV.bad, AV.bad, AV.bad, AV.bad, AV.bad, AV.bad, AV.bad, AV.bad, AV.bad, AV.bad, AV.bad] [Blk.mk [AV.d (i64 (0 : Int)), AV.d (i64 (0 : Int)), AV.d (u64 (0 : Int)), AV.d (i64 (0 : Int)), AV.d (Dv.s (Value.slice none 0 0)), AV.d (Dv.s (Value.slice none 0 0)), AV.d (Dv.s (Value.slice none 0 0)), AV.d (Dv.s (Value.slice none 0 0)), AV.d (i64 (0 : Int)), AV.d (i64 (0 : Int)), AV.d (i64 (0 : Int)), AV.d (i64 (0 : Int)), AV.d (i64 (0 : Int))] false false 0, Blk.mk [AV.d (i64 (NotT.v no)), AV.d (i64 (NotT.n no)), AV.d (u64 (NotT.r no)), AV.d (i64 (NotT.t no))] false false 0, Blk.mk [AV.d (i64 (NotT.v (SprT.no s))), AV.d (i64 (NotT.n (SprT.no s))), AV.d (u64 (NotT.r (SprT.no s))), AV.d (i64 (NotT.t (SprT.no s))), AV.d (Dv.sl 1 (partsR (SprT.ps s))), AV.d (Dv.sl 1 (proofsR (SprT.qs s))), AV.d (Dv.sl 2 (SprT.rows s)), AV.d (Dv.sl 1 (digR (SprT.pf s))), AV.d (i64 (SprT.i1 s)), AV.d (i64 (SprT.i2 s)), AV.d (i64 (SprT.i3 s)), AV.d (i64 (SprT.i4 s)), AV.d (i64 (SprT.i5 s))] false false 0] b)) := by kernel_rfl
end
end Go.Proofs.YtfeemohdpmdaoaaDoor.Am

namespace Go.Proofs.YtfeemohdpmdaoaaDoor.Am
set_option linter.unusedVariables false
open Go Go.RowKit Go.Proofs

/-! ### pages laid one by one -/
structure Lays (no : NotT) (ps : List (List Int)) : Prop where
  are : areS ps = true
  two : ∀ p ∈ ps, p.length = 256
  ann : announcedS no.v no.n no.t = true
  cnt : countS no.n = ps.length
  rt : no.r = (rootS ps).1
def proofL (ps : List (List Int)) (i : Nat) : List Int := proofF (levelsS ps) i
def layS (no : NotT) (ps : List (List Int)) (k : Nat) : SprT := ⟨no, ps.take k, (List.range k).map (proofL ps), [], [], 0, 0, 0, 0, 0⟩
theorem lay_len {no : NotT} {ps : List (List Int)} {k : Nat} (hk : k ≤ ps.length) : (layS no ps k).ps.length = k := by simp [layS]; omega
theorem lay_lenq {no : NotT} {ps : List (List Int)} {k : Nat} : (layS no ps k).qs.length = k := by simp [layS]
theorem lay_at {ps : List (List Int)} {i : Nat} (h : i < ps.length) : ps.take (i + 1) = ps.take i ++ [nthL ps i] := by
  rw [nthL, List.getD_eq_getElem?_getD, List.getElem?_eq_getElem h, List.take_add_one, List.getElem?_eq_getElem h]; rfl
theorem lay_proved {no : NotT} {ps : List (List Int)} (h : Lays no ps) {k i : Nat} (hi : i < ps.length) : provedS (layS no ps k) i (nthL ps i) (proofL ps i) = true := by
  obtain ⟨a1, a2, a3⟩ := areS_ok h.are
  show checkS no.r (countS no.n) i _ _ = true
  rw [h.cnt, check_form (by omega) a1 hi (a3 _ (nthL_mem hi)), proofL, check_page h.are hi, h.rt]
  simp [topS]
theorem lay_qs {no : NotT} {ps : List (List Int)} (h : Lays no ps) {k : Nat} (hk : k ≤ ps.length) : ∀ x ∈ (layS no ps k).qs, x.length ≤ 1000000 := by
  intro x hx
  simp only [layS, List.mem_map, List.mem_range] at hx
  obtain ⟨i, hi, rfl⟩ := hx
  have := page_len (i := i) h.are (by omega)
  rw [proofL]; omega
theorem lay_sound {no : NotT} {ps : List (List Int)} (h : Lays no ps) : ∀ k : Nat, k ≤ ps.length → soundS (layS no ps k) = true
  | 0, _ => by
    have e : layS no ps 0 = ⟨no, [], [], [], [], 0, 0, 0, 0, 0⟩ := by simp [layS]
    obtain ⟨a1, a2, a3⟩ := areS_ok h.are
    rw [e, soundS, h.ann, h.cnt]
    simp [anyOther, allP]
  | k + 1, hk => by
    refine sound_put (s := layS no ps k) (p := nthL ps k) (q := proofL ps k) (lay_sound h k (by omega)) (h.two _ (nthL_mem (by omega))) ?_ (by rw [lay_len (by omega)]; exact lay_proved h (by omega)) _ rfl (lay_at (by omega)) ?_
    · rw [lay_len (by omega)]
      show (k : Int) ≠ countS no.n
      rw [h.cnt]; omega
    · show (List.range (k + 1)).map _ = (List.range k).map _ ++ _
      rw [List.range_succ, List.map_append]; rfl
theorem lay_put {no : NotT} {ps : List (List Int)} (h : Lays no ps) {k : Nat} (hk : k < ps.length) : putS (layS no ps k) (nthL ps k) (proofL ps k) = (layS no ps (k + 1), 0) := by
  have h1 := lay_sound h k (by omega)
  have h2 := h.two _ (nthL_mem hk)
  have h3 : provedS (layS no ps k) (layS no ps k).ps.length (nthL ps k) (proofL ps k) = true := by rw [lay_len (by omega)]; exact lay_proved h hk
  rw [putS, if_neg (by rw [h1, h2]; simp), if_neg, if_neg (by rw [h3]; simp)]
  · show (SprT.mk no (ps.take k ++ [nthL ps k]) ((List.range k).map (proofL ps) ++ [proofL ps k]) [] [] 0 0 0 0 0, (0 : Int)) = _
    rw [← lay_at hk, layS, List.range_succ, List.map_append]; rfl
  · rw [lay_len (by omega)]
    show ¬ (k : Int) = countS no.n
    rw [h.cnt]; omega
theorem lay_proof {ps : List (List Int)} (h : areS ps = true) {k : Nat} (hk : k < ps.length) : proofS ps k = (proofL ps k, 0) := by
  rw [proofS, h, if_pos (by simp; omega), Int.toNat_natCast]; rfl
theorem lay_whole {no : NotT} {ps : List (List Int)} (h : Lays no ps) {k : Nat} (hk : k < ps.length) : wholeS (layS no ps k) = ([], false) := by
  have e : joinS (layS no ps k).ps no.n = ([], 1) := by
    rw [joinS, if_pos]
    rw [lay_len (by omega), h.cnt]
    have : ((k : Int) != ps.length) = true := by simp; omega
    rw [this]; simp
  rw [wholeS, if_pos (lay_sound h k (by omega))]
  show ((joinS (layS no ps k).ps no.n).1, (joinS (layS no ps k).ps no.n).2 == 0) = _
  rw [e]; rfl
theorem lay_all {no : NotT} {ps : List (List Int)} (h : Lays no ps) : wholeS (layS no ps ps.length) = ((joinS ps no.n).1, (joinS ps no.n).2 == 0) := by
  rw [wholeS, if_pos (lay_sound h _ (Nat.le_refl _))]
  show ((joinS (ps.take ps.length) no.n).1, (joinS (ps.take ps.length) no.n).2 == 0) = _
  rw [List.take_length]
theorem lays_page {v t : Int} {p : List Int} (h : sizedS p.length = true) (ha : announcedS v p.length t = true) : annS v p t = (⟨v, p.length, (rootS (splitS p)).1, t⟩, 0) ∧ Lays ⟨v, p.length, (rootS (splitS p)).1, t⟩ (splitS p) := by
  have ar := split_are h
  obtain ⟨k, hk, k1, k2⟩ := sized_nat h
  refine ⟨?_, ar, fun x hx => ?_, ha, ?_, rfl⟩
  · rw [annS, if_pos (by rw [h, ha]; rfl), show (rootS (splitS p)).2 = 0 by rw [rootS, if_pos ar]]
  · rw [split_pieces] at hx
    obtain ⟨i, _, rfl⟩ := List.mem_map.1 hx
    exact padS_len (piece_len p i)
  · show countS p.length = _
    rw [countS_eq (by omega), split_len]

/-! ### the loops -/
theorem wr8 {Ev : Env Tryd.prog} {b : Ev.β} {Q : Exit → St Ev.β → Prop} (no : NotT) (pg : List (List Dv)) (ps : List (List Int)) (h : Lays no ps) : ∀ (m k : Nat), ps.length - k = m → k ≤ ps.length →
    (∀ i : Int, Q (.exit 0) ⟨tm8 pg (partsR ps) ps.length i, [blkN no, blkS (layS no ps ps.length)], b⟩) → WR Ev lp8 (m + 1) ⟨tm8 pg (partsR ps) ps.length k, [blkN no, blkS (layS no ps k)], b⟩ Q
  | m, k, hm, hk, hq => by
    obtain ⟨a1, a2, a3⟩ := areS_ok h.are
    refine WR.ofMask [0, 7, 10, 12, 43, 44, 45] mixed (CX.Ok.of (u := false) T8_ok SCallsOk.nil) (k := 100) ?_
    refine Eq.mpr (r8 _ _ _ _ no (layS no ps k) pg (partsR ps) ps.length k) ?_
    refine BIf.of (fun g => ?_) fun g => ?_
    · have hkn : k < ps.length := by have := of_decide_eq_true g; omega
      have e1 := lay_proof h.are hkn
      have e2 := lay_put h hkn
      have e3 := lay_whole h hkn
      have e4 := page_len (i := k) h.are hkn
      have e5 := lay_len (no := no) (ps := ps) hk
      refine BIf.t (by simp) ⟨_, by rw [Int.toNat_natCast]; exact parts_at hkn, layS no ps k, [], false, rfl, ⟨by omega, e3.symm⟩, BIf.f rfl ⟨ps, k, (proofL ps k, 0), rfl, e1.symm, layS no ps k, nthL ps k, proofL ps k, layS no ps (k + 1), 0, rfl, ⟨⟨by omega, by rw [proofL]; omega, lay_qs h hk⟩, e2.symm⟩, BIf.f rfl (BIf.f rfl ?_)⟩⟩
      rw [wrap_succ hkn (by omega)]
      cases m with
      | zero => omega
      | succ m => exact wr8 no pg ps h m (k + 1) (by omega) (by omega) hq
    · have hkn : k = ps.length := by have := of_decide_eq_false g; omega
      subst hkn
      exact hq _
def wl8 {β : Type} : WLT β := fun c tm hp b K => ∃ (no : NotT) (pg : List (List Dv)) (ps : List (List Int)) (z : SprT), c = .loop lp8 ∧ maskTm [0, 7, 10, 12, 43, 44, 45] 0 tm = tm8 pg (partsR ps) (partsR ps).length 0 ∧ hp = [blkN no, blkZ no] ∧ (Lays no ps ∧ z = layS no ps ps.length) ∧ ∀ i : Int, K (.exit 0) (tm8 pg (partsR ps) (partsR ps).length i) [blkN no, blkS z] b
theorem lay_nil (no : NotT) (ps : List (List Int)) : LeH [blkZ no] [blkS (layS no ps 0)] :=
  .cons (.cons .rfl (.cons .rfl (.cons .rfl (.cons .rfl (.cons (.nilSl rfl) (.cons (.nilSl rfl) (.cons (.nilSl rfl) (.cons (.nilSl rfl) (LeL.refl _))))))))) .nil
theorem wl8_ok {Ev : Env Tryd.prog} (c : Code) (tm : List AV) (hp : List Blk) (b : Ev.β) (K : Exit → List AV → List Blk → Ev.β → Prop) (h : wl8 c tm hp b K) : W Ev c ⟨tm, hp, b⟩ (fun e s => K e s.tm s.hp s.b) := by
  obtain ⟨no, pg, ps, z, rfl, htm, rfl, ⟨hl, rfl⟩, hK⟩ := h
  rw [partsR_len] at htm hK
  refine W.cast (htm ▸ maskTm_le _ tm 0) (.cons (LeL.refl _) (lay_nil no ps)) ?_
  exact W.rounds (wr8 (Q := fun e s => K e s.tm s.hp s.b) no pg ps hl _ 0 rfl (Nat.zero_le _) hK)
theorem wr30 {Ev : Env Tryd.prog} {b : Ev.β} {Q : Exit → St Ev.β → Prop} (no : NotT) (ps : List (List Int)) (n : Nat) (e e' : Int) (h : Lays no ps) (hn : n ≤ ps.length) : ∀ (m k : Nat), n - k = m → k ≤ n →
    (Q (.exit 0) ⟨tm30 (partsR ps) n e e' n, [blkZ ⟨0, 0, 0, 0⟩, blkN no, blkS (layS no ps n)], b⟩) → WR Ev lp30 (m + 1) ⟨tm30 (partsR ps) n e e' k, [blkZ ⟨0, 0, 0, 0⟩, blkN no, blkS (layS no ps k)], b⟩ Q
  | m, k, hm, hk, hq => by
    obtain ⟨a1, a2, a3⟩ := areS_ok h.are
    refine WR.ofMask [2, 6, 10, 11, 12, 13, 14] mixed (CX.Ok.of (u := false) T8_ok SCallsOk.nil) (k := 100) ?_
    refine Eq.mpr (r30 _ _ _ _ no (layS no ps k) (partsR ps) n e e' k) ?_
    refine BIf.of (fun g => ?_) fun g => ?_
    · have hkn : k < n := by have := of_decide_eq_true g; omega
      have hkp : k < ps.length := by omega
      have e1 := lay_proof h.are hkp
      have e2 := lay_put h hkp
      have e4 := page_len (i := k) h.are hkp
      have e5 := lay_len (no := no) (ps := ps) (k := k) (by omega)
      refine BIf.t (by rw [partsR_len]; simp; omega) ⟨ps, k, (proofL ps k, 0), rfl, e1.symm, BIf.t (by simp) ⟨_, by rw [Int.toNat_natCast]; exact parts_at hkp, layS no ps k, nthL ps k, proofL ps k, layS no ps (k + 1), 0, rfl, ⟨⟨by omega, by rw [proofL]; omega, lay_qs h (by omega)⟩, e2.symm⟩, BIf.f rfl (BIf.f rfl ?_)⟩⟩
      rw [wrap_succ hkn (by omega)]
      cases m with
      | zero => omega
      | succ m => exact wr30 no ps n e e' h hn m (k + 1) (by omega) (by omega) hq
    · have hkn : k = n := by have := of_decide_eq_false g; omega
      subst hkn
      exact hq
def wl30 {β : Type} : WLT β := fun c tm hp b K => ∃ (no : NotT) (ps : List (List Int)) (n : Nat) (e e' : Int) (z : SprT), c = .loop lp30 ∧ maskTm [2, 6, 10, 11, 12, 13, 14] 0 tm = tm30 (partsR ps) n e e' 0 ∧ hp = [blkZ ⟨0, 0, 0, 0⟩, blkN no, blkZ no] ∧ ((Lays no ps ∧ n ≤ ps.length) ∧ z = layS no ps n) ∧
  K (.exit 0) (tm30 (partsR ps) n e e' n) [blkZ ⟨0, 0, 0, 0⟩, blkN no, blkS z] b
theorem wl30_ok {Ev : Env Tryd.prog} (c : Code) (tm : List AV) (hp : List Blk) (b : Ev.β) (K : Exit → List AV → List Blk → Ev.β → Prop) (h : wl30 c tm hp b K) : W Ev c ⟨tm, hp, b⟩ (fun e s => K e s.tm s.hp s.b) := by
  obtain ⟨no, ps, n, e, e', z, rfl, htm, rfl, ⟨⟨hl, hn⟩, rfl⟩, hK⟩ := h
  refine W.cast (htm ▸ maskTm_le _ tm 0) (.cons (LeL.refl _) (.cons (LeL.refl _) (lay_nil no ps))) ?_
  exact W.rounds (wr30 (Q := fun e s => K e s.tm s.hp s.b) no ps n e e' hl hn _ 0 rfl (Nat.zero_le _) hK)
end Go.Proofs.YtfeemohdpmdaoaaDoor.Am

namespace Go.Proofs.YtfeemohdpmdaoaaDoor.Am
set_option linter.unusedVariables false
open Go Go.RowKit Go.Proofs

/-! ### the law Loads; loaded -/
section
variable {β : Type} (wl : WLT β) (y : YieldT β) (b : β) (R : AV → β → Prop) (K : Exit → List AV → List Blk → β → Prop)
set_option maxHeartbeats 0
set_option maxRecDepth 100000
theorem f8_nf (p : List (List Dv)) (v t : Int) : wpFn Tryd.prog ⟨T8, [], wl8, y, false⟩ 200 Tryd.f8 [.d (.sl 1 p), .d (i64 v), .d (i64 t)] b R = ( ([] : List AV) = [] ∧ ∃ (z0 : Bool), z0 = true ∧ ∃ (v1 : Int), ∃ (t2 : Int), ∃ (p3 : List Int), ∃ (z4 : NotT), ∃ (e5 : Int), [AV.d (i64 v), AV.d (Dv.sl 1 p), AV.d (i64 t)] = [AV.d (i64 v1), AV.d (Dv.sl 1 (bytesR p3)), AV.d (i64 t2)] ∧ (List.length p3 ≤ 9223372036854775807 ∧ (z4, e5) = annS v1 p3 t2) ∧ BIf (e5 != (0 : Int)) (R (AV.d (bo z0)) b) (∃ (p6 : List Int), ∃ (q7 : List (List Int)), ∃ (e8 : Int), [AV.d (Dv.sl 1 p)] = [AV.d (Dv.sl 1 (bytesR p6))] ∧ (List.length p6 ≤ 9223372036854775807 ∧ (q7, e8) = splitE p6) ∧ BIf (e8 != (0 : Int)) (R (AV.d (bo false)) b) (∃ (no9 : NotT), ∃ (pg10 : List (List Dv)), ∃ (ps11 : List (List Int)), ∃ (z12 : SprT), Code.loop lp8 = Code.loop lp8 ∧ [AV.d (Dv.sl 1 p), AV.bad, AV.bad, AV.bad, AV.bad, AV.bad, AV.bad, AV.d (bo z0), AV.bad, AV.bad, AV.d (Dv.sl 1 (partsR q7)), AV.bad, AV.ptr 1 0, AV.bad, AV.bad, AV.bad, AV.bad, AV.bad, AV.bad, AV.bad, AV.bad, AV.bad, AV.bad, AV.bad, AV.bad, AV.bad, AV.bad, AV.bad, AV.bad, AV.bad, AV.bad, AV.bad, AV.bad, AV.bad, AV.bad, AV.bad, AV.bad, AV.bad, AV.bad, AV.bad, AV.bad, AV.bad, AV.bad, AV.d (Dv.sl 1 (partsR q7)), AV.d (i64 ((List.length (partsR q7) : Nat) : Int)), AV.d (i64 (0 : Int)), AV.bad, AV.bad, AV.bad, AV.bad, AV.bad, AV.bad, AV.bad, AV.bad, AV.bad, AV.bad, AV.bad, AV.bad, AV.bad, AV.bad, AV.bad, AV.bad, AV.bad, AV.bad, AV.bad, AV.bad, AV.bad, AV.bad, AV.bad, AV.bad, AV.bad, AV.bad, AV.bad, AV.bad, AV.bad, AV.bad, AV.bad, AV.bad, AV.bad, AV.bad, AV.bad, AV.bad, AV.bad, AV.bad, AV.bad, AV.bad, AV.bad, AV.bad, AV.bad, AV.bad, AV.bad] = [AV.d (Dv.sl 1 pg10), AV.bad, AV.bad, AV.bad, AV.bad, AV.bad, AV.bad, AV.d (bo true), AV.bad, AV.bad, AV.d (Dv.sl 1 (partsR ps11)), AV.bad, AV.ptr 1 0, AV.bad, AV.bad, AV.bad, AV.bad, AV.bad, AV.bad, AV.bad, AV.bad, AV.bad, AV.bad, AV.bad, AV.bad, AV.bad, AV.bad, AV.bad, AV.bad, AV.bad, AV.bad, AV.bad, AV.bad, AV.bad, AV.bad, AV.bad, AV.bad, AV.bad, AV.bad, AV.bad, AV.bad, AV.bad, AV.bad, AV.d (Dv.sl 1 (partsR ps11)), AV.d (i64 ((List.length (partsR ps11) : Nat) : Int)), AV.d (i64 (0 : Int)), AV.bad, AV.bad, AV.bad, AV.bad, AV.bad, AV.bad, AV.bad, AV.bad, AV.bad, AV.bad, AV.bad, AV.bad, AV.bad, AV.bad, AV.bad, AV.bad, AV.bad, AV.bad, AV.bad, AV.bad, AV.bad, AV.bad, AV.bad, AV.bad, AV.bad, AV.bad, AV.bad, AV.bad, AV.bad, AV.bad, AV.bad, AV.bad, AV.bad, AV.bad, AV.bad, AV.bad, AV.bad, AV.bad, AV.bad, AV.bad, AV.bad, AV.bad, AV.bad, AV.bad, AV.bad] ∧ [Blk.mk [AV.d (i64 (NotT.v z4)), AV.d (i64 (NotT.n z4)), AV.d (u64 (NotT.r z4)), AV.d (i64 (NotT.t z4))] false false 0, Blk.mk [AV.d (i64 (NotT.v z4)), AV.d (i64 (NotT.n z4)), AV.d (u64 (NotT.r z4)), AV.d (i64 (NotT.t z4)), AV.d (Dv.s (Value.slice none 0 0)), AV.d (Dv.s (Value.slice none 0 0)), AV.d (Dv.s (Value.slice none 0 0)), AV.d (Dv.s (Value.slice none 0 0)), AV.d (i64 (0 : Int)), AV.d (i64 (0 : Int)), AV.d (i64 (0 : Int)), AV.d (i64 (0 : Int)), AV.d (i64 (0 : Int))] false false 0] = [Blk.mk [AV.d (i64 (NotT.v no9)), AV.d (i64 (NotT.n no9)), AV.d (u64 (NotT.r no9)), AV.d (i64 (NotT.t no9))] false false 0, Blk.mk [AV.d (i64 (NotT.v no9)), AV.d (i64 (NotT.n no9)), AV.d (u64 (NotT.r no9)), AV.d (i64 (NotT.t no9)), AV.d (Dv.s (Value.slice none 0 0)), AV.d (Dv.s (Value.slice none 0 0)), AV.d (Dv.s (Value.slice none 0 0)), AV.d (Dv.s (Value.slice none 0 0)), AV.d (i64 (0 : Int)), AV.d (i64 (0 : Int)), AV.d (i64 (0 : Int)), AV.d (i64 (0 : Int)), AV.d (i64 (0 : Int))] false false 0] ∧ (Lays no9 ps11 ∧ z12 = layS no9 ps11 (List.length ps11)) ∧ ∀ (i : Int), ∃ (s13 : SprT), ∃ (z14 : List Int), ∃ (e15 : Bool), [AV.agg [AV.d (i64 (NotT.v (SprT.no z12))), AV.d (i64 (NotT.n (SprT.no z12))), AV.d (u64 (NotT.r (SprT.no z12))), AV.d (i64 (NotT.t (SprT.no z12))), AV.d (Dv.sl 1 (partsR (SprT.ps z12))), AV.d (Dv.sl 1 (proofsR (SprT.qs z12))), AV.d (Dv.sl 2 (SprT.rows z12)), AV.d (Dv.sl 1 (digR (SprT.pf z12))), AV.d (i64 (SprT.i1 z12)), AV.d (i64 (SprT.i2 z12)), AV.d (i64 (SprT.i3 z12)), AV.d (i64 (SprT.i4 z12)), AV.d (i64 (SprT.i5 z12))]] = [AV.agg [AV.d (i64 (NotT.v (SprT.no s13))), AV.d (i64 (NotT.n (SprT.no s13))), AV.d (u64 (NotT.r (SprT.no s13))), AV.d (i64 (NotT.t (SprT.no s13))), AV.d (Dv.sl 1 (partsR (SprT.ps s13))), AV.d (Dv.sl 1 (proofsR (SprT.qs s13))), AV.d (Dv.sl 2 (SprT.rows s13)), AV.d (Dv.sl 1 (digR (SprT.pf s13))), AV.d (i64 (SprT.i1 s13)), AV.d (i64 (SprT.i2 s13)), AV.d (i64 (SprT.i3 s13)), AV.d (i64 (SprT.i4 s13)), AV.d (i64 (SprT.i5 s13))]] ∧ (List.length (SprT.ps s13) ≤ 9223372036854775807 ∧ (z14, e15) = wholeS s13) ∧ BIf e15 (∃ (a16 : List Int), ∃ (c17 : List Int), ∃ (z18 : Bool), [AV.d (Dv.sl 1 (bytesR z14)), AV.d (Dv.sl 1 pg10)] = [AV.d (Dv.sl 1 (bytesR a16)), AV.d (Dv.sl 1 (bytesR c17))] ∧ (List.length a16 ≤ 9223372036854775807 ∧ z18 = decide (a16 = c17)) ∧ R (AV.d (bo z18)) b) (R (AV.d (bo false)) b)))) := by kernel_rfl
theorem f30_nf (p : List (List Dv)) (v n : Int) : wpFn Tryd.prog ⟨T8, [], wl30, y, false⟩ 200 Tryd.f30 [.d (.sl 1 p), .d (i64 v), .d (i64 n)] b R = ( ∃ (v0 : Int), ∃ (t1 : Int), ∃ (p2 : List Int), ∃ (z3 : NotT), ∃ (e4 : Int), [AV.d (i64 v), AV.d (Dv.sl 1 p), AV.d (i64 (0 : Int))] = [AV.d (i64 v0), AV.d (Dv.sl 1 (bytesR p2)), AV.d (i64 t1)] ∧ (List.length p2 ≤ 9223372036854775807 ∧ (z3, e4) = annS v0 p2 t1) ∧ ∃ (p5 : List Int), ∃ (q6 : List (List Int)), ∃ (e7 : Int), [AV.d (Dv.sl 1 p)] = [AV.d (Dv.sl 1 (bytesR p5))] ∧ (List.length p5 ≤ 9223372036854775807 ∧ (q6, e7) = splitE p5) ∧ ∃ (no8 : NotT), ∃ (ps9 : List (List Int)), ∃ (n10 : Nat), ∃ (e11 : Int), ∃ (e12 : Int), ∃ (z13 : SprT), Code.loop lp30 = Code.loop lp30 ∧ [AV.bad, AV.bad, AV.d (i64 n), AV.bad, AV.bad, AV.bad, AV.ptr 0 0, AV.bad, AV.bad, AV.bad, AV.d (i64 e4), AV.d (Dv.sl 1 (partsR q6)), AV.d (i64 e7), AV.ptr 2 0, AV.d (i64 (0 : Int)), AV.bad, AV.bad, AV.bad, AV.bad, AV.bad, AV.bad, AV.bad, AV.bad, AV.bad, AV.bad, AV.bad, AV.bad, AV.bad, AV.bad, AV.bad, AV.bad, AV.bad, AV.bad, AV.bad, AV.bad, AV.bad, AV.bad, AV.bad, AV.bad, AV.bad, AV.bad, AV.bad, AV.bad, AV.bad, AV.bad, AV.bad, AV.bad, AV.bad, AV.bad, AV.bad, AV.bad, AV.bad, AV.bad, AV.bad, AV.bad, AV.bad, AV.bad, AV.bad, AV.bad, AV.bad, AV.bad, AV.bad, AV.bad, AV.bad, AV.bad, AV.bad, AV.bad, AV.bad, AV.bad, AV.bad, AV.bad, AV.bad, AV.bad, AV.bad, AV.bad] = [AV.bad, AV.bad, AV.d (i64 (n10 : Int)), AV.bad, AV.bad, AV.bad, AV.ptr 0 0, AV.bad, AV.bad, AV.bad, AV.d (i64 e11), AV.d (Dv.sl 1 (partsR ps9)), AV.d (i64 e12), AV.ptr 2 0, AV.d (i64 (0 : Int)), AV.bad, AV.bad, AV.bad, AV.bad, AV.bad, AV.bad, AV.bad, AV.bad, AV.bad, AV.bad, AV.bad, AV.bad, AV.bad, AV.bad, AV.bad, AV.bad, AV.bad, AV.bad, AV.bad, AV.bad, AV.bad, AV.bad, AV.bad, AV.bad, AV.bad, AV.bad, AV.bad, AV.bad, AV.bad, AV.bad, AV.bad, AV.bad, AV.bad, AV.bad, AV.bad, AV.bad, AV.bad, AV.bad, AV.bad, AV.bad, AV.bad, AV.bad, AV.bad, AV.bad, AV.bad, AV.bad, AV.bad, AV.bad, AV.bad, AV.bad, AV.bad, AV.bad, AV.bad, AV.bad, AV.bad, AV.bad, AV.bad, AV.bad, AV.bad, AV.bad] ∧ [Blk.mk [AV.d (i64 (0 : Int)), AV.d (i64 (0 : Int)), AV.d (u64 (0 : Int)), AV.d (i64 (0 : Int)), AV.d (Dv.s (Value.slice none 0 0)), AV.d (Dv.s (Value.slice none 0 0)), AV.d (Dv.s (Value.slice none 0 0)), AV.d (Dv.s (Value.slice none 0 0)), AV.d (i64 (0 : Int)), AV.d (i64 (0 : Int)), AV.d (i64 (0 : Int)), AV.d (i64 (0 : Int)), AV.d (i64 (0 : Int))] false false 0, Blk.mk [AV.d (i64 (NotT.v z3)), AV.d (i64 (NotT.n z3)), AV.d (u64 (NotT.r z3)), AV.d (i64 (NotT.t z3))] false false 0, Blk.mk [AV.d (i64 (NotT.v z3)), AV.d (i64 (NotT.n z3)), AV.d (u64 (NotT.r z3)), AV.d (i64 (NotT.t z3)), AV.d (Dv.s (Value.slice none 0 0)), AV.d (Dv.s (Value.slice none 0 0)), AV.d (Dv.s (Value.slice none 0 0)), AV.d (Dv.s (Value.slice none 0 0)), AV.d (i64 (0 : Int)), AV.d (i64 (0 : Int)), AV.d (i64 (0 : Int)), AV.d (i64 (0 : Int)), AV.d (i64 (0 : Int))] false false 0] = [Blk.mk [AV.d (i64 (0 : Int)), AV.d (i64 (0 : Int)), AV.d (u64 (0 : Int)), AV.d (i64 (0 : Int)), AV.d (Dv.s (Value.slice none 0 0)), AV.d (Dv.s (Value.slice none 0 0)), AV.d (Dv.s (Value.slice none 0 0)), AV.d (Dv.s (Value.slice none 0 0)), AV.d (i64 (0 : Int)), AV.d (i64 (0 : Int)), AV.d (i64 (0 : Int)), AV.d (i64 (0 : Int)), AV.d (i64 (0 : Int))] false false 0, Blk.mk [AV.d (i64 (NotT.v no8)), AV.d (i64 (NotT.n no8)), AV.d (u64 (NotT.r no8)), AV.d (i64 (NotT.t no8))] false false 0, Blk.mk [AV.d (i64 (NotT.v no8)), AV.d (i64 (NotT.n no8)), AV.d (u64 (NotT.r no8)), AV.d (i64 (NotT.t no8)), AV.d (Dv.s (Value.slice none 0 0)), AV.d (Dv.s (Value.slice none 0 0)), AV.d (Dv.s (Value.slice none 0 0)), AV.d (Dv.s (Value.slice none 0 0)), AV.d (i64 (0 : Int)), AV.d (i64 (0 : Int)), AV.d (i64 (0 : Int)), AV.d (i64 (0 : Int)), AV.d (i64 (0 : Int))] false false 0] ∧ ((Lays no8 ps9 ∧ n10 ≤ List.length ps9) ∧ z13 = layS no8 ps9 n10) ∧ BIf (e11 == (0 : Int)) (R (AV.tup [AV.agg [AV.d (i64 (NotT.v (SprT.no z13))), AV.d (i64 (NotT.n (SprT.no z13))), AV.d (u64 (NotT.r (SprT.no z13))), AV.d (i64 (NotT.t (SprT.no z13))), AV.d (Dv.sl 1 (partsR (SprT.ps z13))), AV.d (Dv.sl 1 (proofsR (SprT.qs z13))), AV.d (Dv.sl 2 (SprT.rows z13)), AV.d (Dv.sl 1 (digR (SprT.pf z13))), AV.d (i64 (SprT.i1 z13)), AV.d (i64 (SprT.i2 z13)), AV.d (i64 (SprT.i3 z13)), AV.d (i64 (SprT.i4 z13)), AV.d (i64 (SprT.i5 z13))], AV.d (Dv.sl 1 (partsR ps9)), AV.d (bo (e12 == (0 : Int)))]) b) (R (AV.tup [AV.agg [AV.d (i64 (NotT.v (SprT.no z13))), AV.d (i64 (NotT.n (SprT.no z13))), AV.d (u64 (NotT.r (SprT.no z13))), AV.d (i64 (NotT.t (SprT.no z13))), AV.d (Dv.sl 1 (partsR (SprT.ps z13))), AV.d (Dv.sl 1 (proofsR (SprT.qs z13))), AV.d (Dv.sl 2 (SprT.rows z13)), AV.d (Dv.sl 1 (digR (SprT.pf z13))), AV.d (i64 (SprT.i1 z13)), AV.d (i64 (SprT.i2 z13)), AV.d (i64 (SprT.i3 z13)), AV.d (i64 (SprT.i4 z13)), AV.d (i64 (SprT.i5 z13))], AV.d (Dv.sl 1 (partsR ps9)), AV.d (bo false)]) b)) := by kernel_rfl
end
end Go.Proofs.YtfeemohdpmdaoaaDoor.Am

namespace Go.Proofs.YtfeemohdpmdaoaaDoor.Am
set_option linter.unusedVariables false
open Go Go.RowKit Go.Proofs

set_option maxRecDepth 20000 in
theorem pcLaw8 (p : List Int) (v t : Int) (h1 : p.length ≤ 9223372036854775807) :
    PCall Tryd.prog 8 [.d (.sl 1 (bytesR p)), .d (i64 v), .d (i64 t)] (.d (bo true)) := by
  refine PCall.ofFnW (n := 200) (u := false) (fun _ => wl8) mixed T8_ok SCallsOk.nil (fun Ev => wl8_ok) Tryd.func8 (by rfl) (by rfl) fun Ev bb => ?_
  rw [f8_nf]
  by_cases hg : (sizedS p.length && announcedS v p.length t) = true
  · obtain ⟨g1, g2⟩ := Bool.and_eq_true_iff.1 hg
    obtain ⟨e1, e2⟩ := lays_page g1 g2
    have ar := areS_ok e2.are
    refine ⟨rfl, _, rfl, v, t, p, _, _, rfl, ⟨h1, e1.symm⟩, BIf.f rfl ⟨p, splitS p, 0, rfl, ⟨h1, by rw [splitE, if_pos g1]⟩, BIf.f rfl ⟨_, bytesR p, splitS p, _, rfl, rfl, rfl, ⟨e2, rfl⟩, fun i => ?_⟩⟩⟩
    have e3 := lay_all e2
    have e4 : joinS (splitS p) p.length = (p, 0) := by
      rw [join_split g1 rfl, List.drop_length, List.all_nil, if_pos rfl, Nat.sub_self, List.replicate_zero, List.append_nil, List.take_length]
    rw [show joinS (splitS p) (NotT.mk v p.length (rootS (splitS p)).1 t).n = (p, 0) from e4] at e3
    exact ⟨_, p, true, rfl, ⟨by rw [lay_len (Nat.le_refl _)]; omega, e3.symm⟩, BIf.t rfl ⟨p, p, true, rfl, ⟨h1, by simp⟩, rfl⟩⟩
  · have e1 : annS v p t = (⟨0, 0, 0, 0⟩, 1) := by rw [annS, if_neg hg]
    exact ⟨rfl, _, rfl, v, t, p, _, _, rfl, ⟨h1, e1.symm⟩, BIf.t rfl rfl⟩

/-! ### loaded -/
def loadedS (p : List Int) (v : Int) (n : Nat) : SprT := layS ⟨v, p.length, (rootS (splitS p)).1, 0⟩ (splitS p) n
theorem pcLoaded (p : List Int) (v : Int) (n : Nat) (g1 : sizedS p.length = true) (g2 : announcedS v p.length 0 = true) (hn : n ≤ (splitS p).length) :
    PCall Tryd.prog 30 [.d (.sl 1 (bytesR p)), .d (i64 v), .d (i64 n)] (.tup [spV (loadedS p v n), .d (.sl 1 (partsR (splitS p))), .d (bo true)]) := by
  refine PCall.ofFnW (n := 200) (u := false) (fun _ => wl30) mixed T8_ok SCallsOk.nil (fun Ev => wl30_ok) Tryd.func30 (by rfl) (by rfl) fun Ev bb => ?_
  rw [f30_nf]
  obtain ⟨k, hk, k1, k2⟩ := sized_nat g1
  obtain ⟨e1, e2⟩ := lays_page g1 g2
  have h1 : p.length ≤ 9223372036854775807 := by omega
  exact ⟨v, 0, p, _, _, rfl, ⟨h1, e1.symm⟩, p, splitS p, 0, rfl, ⟨h1, by rw [splitE, if_pos g1]⟩, _, splitS p, n, 0, 0, _, rfl, rfl, rfl, ⟨⟨e2, hn⟩, rfl⟩, BIf.t rfl rfl⟩
def cLoaded (args : List AV) (K : AV → Prop) : Prop := ∃ (p : List Int) (v : Int) (n : Nat) (s : SprT) (ps : List (List Int)), args = [.d (.sl 1 (bytesR p)), .d (i64 v), .d (i64 n)] ∧ ((sizedS p.length = true ∧ announcedS v p.length 0 = true ∧ n ≤ (splitS p).length) ∧ s = loadedS p v n ∧ ps = splitS p) ∧
  K (.tup [spV s, .d (.sl 1 (partsR ps)), .d (bo true)])
theorem cLoaded_ok : ∀ args K, cLoaded args K → ∃ x, PCall Tryd.prog 30 args x ∧ K x := by
  rintro _ K ⟨p, v, n, _, _, rfl, ⟨⟨g1, g2, g3⟩, rfl, rfl⟩, h⟩; exact ⟨_, pcLoaded p v n g1 g2 g3, h⟩
end Go.Proofs.YtfeemohdpmdaoaaDoor.Am

namespace Go.Proofs.YtfeemohdpmdaoaaDoor.Am
set_option linter.unusedVariables false
open Go Go.RowKit Go.Proofs

/-! ### the law OnlyRight -/
def T9 : List (Nat × (List AV → (AV → Prop) → Prop)) := [(10, cHead), (30, cLoaded), (29, cProof), (21, lessC cPut)]
theorem T9_ok : CallsOk Tryd.prog T9 := CallsOk.cons cHead_ok (CallsOk.cons cLoaded_ok (CallsOk.cons cProof_ok (CallsOk.cons (lessC_ok cPut_ok) CallsOk.nil)))
def GWide : List (Nat × (List AV → List Blk → (AV → List Blk → Prop) → Prop)) := [(1000005, fun _ _ _ => False), (1000024, fun _ _ _ => False)]
theorem GWide_ok : SCallsOk Tryd.prog GWide := SCallsOk.cons (fun _ _ _ h => h.elim) (SCallsOk.cons (fun _ _ _ h => h.elim) SCallsOk.nil)
section
variable {β : Type} (wl : WLT β) (y : YieldT β) (b : β) (R : AV → β → Prop) (K : Exit → List AV → List Blk → β → Prop)
set_option maxHeartbeats 0
set_option maxRecDepth 100000
theorem f9_nf (p : List (List Dv)) (u at' x w o : Int) : wpFn Tryd.prog ⟨T9, GWide, wl, y, false⟩ 200 Tryd.f9 [.d (.sl 1 p), .d (u8 u), .d (.s (.int .u16 at')), .d (u8 x), .d (u8 w), .d (u64 o)] b R = ( ([] : List AV) = [] ∧ ∃ (z0 : Bool), z0 = true ∧ BIf (decide (((List.length p : Nat) : Int) < (1 : Int))) (R (AV.d (bo z0)) b) (BIf (decide (((List.length p : Nat) : Int) > (4096 : Int))) (R (AV.d (bo z0)) b) (BIf (x == (0 : Int)) (R (AV.d (bo z0)) b) (BIf (decide (IntKind.wrap IntKind.i64 (Int.tdiv (IntKind.wrap IntKind.i64 (((List.length p : Nat) : Int) + (255 : Int))) (256 : Int)) = (0 : Int)) || false) False (∃ (p1 : List Int), ∃ (v2 : Int), ∃ (n3 : Nat), ∃ (s4 : SprT), ∃ (ps5 : List (List Int)), [AV.d (Dv.sl 1 p), AV.d (i64 (1 : Int)), AV.d (i64 (Int.tmod (IntKind.wrap IntKind.i64 u) (IntKind.wrap IntKind.i64 (Int.tdiv (IntKind.wrap IntKind.i64 (((List.length p : Nat) : Int) + (255 : Int))) (256 : Int)))))] = [AV.d (Dv.sl 1 (bytesR p1)), AV.d (i64 v2), AV.d (i64 (n3 : Int))] ∧ ((sizedS ((List.length p1 : Nat) : Int) = true ∧ announcedS v2 ((List.length p1 : Nat) : Int) (0 : Int) = true ∧ n3 ≤ List.length (splitS p1)) ∧ s4 = loadedS p1 v2 n3 ∧ ps5 = splitS p1) ∧ BIf (decide (Int.tmod (IntKind.wrap IntKind.i64 u) (IntKind.wrap IntKind.i64 (Int.tdiv (IntKind.wrap IntKind.i64 (((List.length p : Nat) : Int) + (255 : Int))) (256 : Int))) ≥ ((List.length (partsR ps5) : Nat) : Int))) (R (AV.d (bo false)) b) (BIf (true && decide ((0 : Int) ≤ Int.tmod (IntKind.wrap IntKind.i64 u) (IntKind.wrap IntKind.i64 (Int.tdiv (IntKind.wrap IntKind.i64 (((List.length p : Nat) : Int) + (255 : Int))) (256 : Int))))) (∃ (xs6 : List (List Dv)), (partsR ps5)[Int.toNat (Int.tmod (IntKind.wrap IntKind.i64 u) (IntKind.wrap IntKind.i64 (Int.tdiv (IntKind.wrap IntKind.i64 (((List.length p : Nat) : Int) + (255 : Int))) (256 : Int))))]? = some [Dv.sl 1 xs6] ∧ BIf (((List.length xs6 : Nat) : Int) != (256 : Int)) (R (AV.d (bo false)) b) (∃ (ps9 : List (List Int)), ∃ (i10 : Int), ∃ (z11 : List Int × Int), [AV.d (Dv.sl 1 (partsR ps5)), AV.d (i64 (Int.tmod (IntKind.wrap IntKind.i64 u) (IntKind.wrap IntKind.i64 (Int.tdiv (IntKind.wrap IntKind.i64 (((List.length p : Nat) : Int) + (255 : Int))) (256 : Int)))))] = [AV.d (Dv.sl 1 (partsR ps9)), AV.d (i64 i10)] ∧ z11 = proofS ps9 i10 ∧ BIf (Prod.snd z11 != (0 : Int)) (R (AV.d (bo false)) b) (BIf (true && decide ((0 : Int) ≤ Int.tmod (IntKind.wrap IntKind.i64 u) (IntKind.wrap IntKind.i64 (Int.tdiv (IntKind.wrap IntKind.i64 (((List.length p : Nat) : Int) + (255 : Int))) (256 : Int))))) (∃ (xs12 : List (List Dv)), (partsR ps5)[Int.toNat (Int.tmod (IntKind.wrap IntKind.i64 u) (IntKind.wrap IntKind.i64 (Int.tdiv (IntKind.wrap IntKind.i64 (((List.length p : Nat) : Int) + (255 : Int))) (256 : Int))))]? = some [Dv.sl 1 xs12] ∧ BIf (true && decide (List.length xs12 * 1 ≤ 140737488355328)) (BIf (decide (0 < List.length xs12)) (0 = 0 ∧ BIf (decide ((0 : Int) ≤ Int.tmod (IntKind.wrap IntKind.i64 at') (256 : Int)) && decide (Int.tmod (IntKind.wrap IntKind.i64 at') (256 : Int) < ((List.length xs12 : Nat) : Int))) (0 = 0 ∧ ∃ (x15 : Int), List.take 1 (List.drop (Int.toNat (Int.tmod (IntKind.wrap IntKind.i64 at') (256 : Int)) * 1) (flatA xs12)) = [AV.d (u8 x15)] ∧ 0 = 0 ∧ BIf (decide ((0 : Int) ≤ Int.tmod (IntKind.wrap IntKind.i64 at') (256 : Int)) && decide (Int.tmod (IntKind.wrap IntKind.i64 at') (256 : Int) < ((List.length xs12 : Nat) : Int))) (0 = 0 ∧ BIf (decide (Int.toNat (Int.tmod (IntKind.wrap IntKind.i64 at') (256 : Int)) * 1 + 1 ≤ List.length (flatA xs12))) (0 = 0 ∧ ∃ (xs16 : List (List Dv)), List.take (Int.toNat (Int.tmod (IntKind.wrap IntKind.i64 at') (256 : Int)) * 1) (flatA xs12) ++ [AV.d (u8 (IntKind.wrap IntKind.u8 ((BitVec.toNat (BitVec.ofInt 8 x15 ^^^ BitVec.ofInt 8 x) : Nat) : Int)))] ++ List.drop (Int.toNat (Int.tmod (IntKind.wrap IntKind.i64 at') (256 : Int)) * 1 + 1) (flatA xs12) = flatA xs16 ∧ List.length xs16 = List.length xs12 ∧ (∀ (r : List Dv), r ∈ xs16 → List.length r = 1) ∧ ∃ (args17 : List AV), LeVs [AV.agg [AV.d (i64 (NotT.v (SprT.no s4))), AV.d (i64 (NotT.n (SprT.no s4))), AV.d (u64 (NotT.r (SprT.no s4))), AV.d (i64 (NotT.t (SprT.no s4))), AV.d (Dv.sl 1 (partsR (SprT.ps s4))), AV.d (Dv.sl 1 (proofsR (SprT.qs s4))), AV.d (Dv.sl 2 (SprT.rows s4)), AV.d (Dv.sl 1 (digR (SprT.pf s4))), AV.d (i64 (SprT.i1 s4)), AV.d (i64 (SprT.i2 s4)), AV.d (i64 (SprT.i3 s4)), AV.d (i64 (SprT.i4 s4)), AV.d (i64 (SprT.i5 s4))], AV.d (Dv.sl 1 xs16), AV.d (Dv.sl 1 (digR (Prod.fst z11)))] args17 ∧ ∃ (s18 : SprT), ∃ (p19 : List Int), ∃ (q20 : List Int), ∃ (z21 : SprT), ∃ (e22 : Int), args17 = [AV.agg [AV.d (i64 (NotT.v (SprT.no s18))), AV.d (i64 (NotT.n (SprT.no s18))), AV.d (u64 (NotT.r (SprT.no s18))), AV.d (i64 (NotT.t (SprT.no s18))), AV.d (Dv.sl 1 (partsR (SprT.ps s18))), AV.d (Dv.sl 1 (proofsR (SprT.qs s18))), AV.d (Dv.sl 2 (SprT.rows s18)), AV.d (Dv.sl 1 (digR (SprT.pf s18))), AV.d (i64 (SprT.i1 s18)), AV.d (i64 (SprT.i2 s18)), AV.d (i64 (SprT.i3 s18)), AV.d (i64 (SprT.i4 s18)), AV.d (i64 (SprT.i5 s18))], AV.d (Dv.sl 1 (bytesR p19)), AV.d (Dv.sl 1 (digR q20))] ∧ ((List.length (SprT.ps s18) ≤ 9223372036854775807 ∧ List.length q20 ≤ 1000000 ∧ ∀ (x : List Int), x ∈ SprT.qs s18 → List.length x ≤ 1000000) ∧ (z21, e22) = putS s18 p19 q20) ∧ BIf (true && decide ((0 : Int) ≤ Int.tmod (IntKind.wrap IntKind.i64 u) (IntKind.wrap IntKind.i64 (Int.tdiv (IntKind.wrap IntKind.i64 (((List.length p : Nat) : Int) + (255 : Int))) (256 : Int))))) (∃ (xs23 : List (List Dv)), (partsR ps5)[Int.toNat (Int.tmod (IntKind.wrap IntKind.i64 u) (IntKind.wrap IntKind.i64 (Int.tdiv (IntKind.wrap IntKind.i64 (((List.length p : Nat) : Int) + (255 : Int))) (256 : Int))))]? = some [Dv.sl 1 xs23] ∧ BIf (true && decide ((0 : Int) ≤ (0 : Int) ∧ (0 : Int) ≤ ((List.length (digR (Prod.fst z11)) : Nat) : Int) ∧ ((List.length (digR (Prod.fst z11)) : Nat) : Int) ≤ ((List.length (digR (Prod.fst z11)) : Nat) : Int) ∧ ((List.length (digR (Prod.fst z11)) : Nat) : Int) ≤ ((List.length (digR (Prod.fst z11)) : Nat) : Int))) (BIf (true && Int.toNat ((List.length (digR (Prod.fst z11)) : Nat) : Int) == Int.toNat ((List.length (digR (Prod.fst z11)) : Nat) : Int)) (BIf (true && decide ((List.length (List.take (Int.toNat ((List.length (digR (Prod.fst z11)) : Nat) : Int) - Int.toNat (0 : Int)) (List.drop (Int.toNat (0 : Int)) (digR (Prod.fst z11)))) + 1) * 8 ≤ 140737488355328)) (∃ (args26 : List AV), LeVs [AV.agg [AV.d (i64 (NotT.v (SprT.no s4))), AV.d (i64 (NotT.n (SprT.no s4))), AV.d (u64 (NotT.r (SprT.no s4))), AV.d (i64 (NotT.t (SprT.no s4))), AV.d (Dv.sl 1 (partsR (SprT.ps s4))), AV.d (Dv.sl 1 (proofsR (SprT.qs s4))), AV.d (Dv.sl 2 (SprT.rows s4)), AV.d (Dv.sl 1 (digR (SprT.pf s4))), AV.d (i64 (SprT.i1 s4)), AV.d (i64 (SprT.i2 s4)), AV.d (i64 (SprT.i3 s4)), AV.d (i64 (SprT.i4 s4)), AV.d (i64 (SprT.i5 s4))], AV.d (Dv.sl 1 xs23), AV.d (Dv.sl 1 (List.take (Int.toNat ((List.length (digR (Prod.fst z11)) : Nat) : Int) - Int.toNat (0 : Int)) (List.drop (Int.toNat (0 : Int)) (digR (Prod.fst z11))) ++ [[u64 o]]))] args26 ∧ ∃ (s27 : SprT), ∃ (p28 : List Int), ∃ (q29 : List Int), ∃ (z30 : SprT), ∃ (e31 : Int), args26 = [AV.agg [AV.d (i64 (NotT.v (SprT.no s27))), AV.d (i64 (NotT.n (SprT.no s27))), AV.d (u64 (NotT.r (SprT.no s27))), AV.d (i64 (NotT.t (SprT.no s27))), AV.d (Dv.sl 1 (partsR (SprT.ps s27))), AV.d (Dv.sl 1 (proofsR (SprT.qs s27))), AV.d (Dv.sl 2 (SprT.rows s27)), AV.d (Dv.sl 1 (digR (SprT.pf s27))), AV.d (i64 (SprT.i1 s27)), AV.d (i64 (SprT.i2 s27)), AV.d (i64 (SprT.i3 s27)), AV.d (i64 (SprT.i4 s27)), AV.d (i64 (SprT.i5 s27))], AV.d (Dv.sl 1 (bytesR p28)), AV.d (Dv.sl 1 (digR q29))] ∧ ((List.length (SprT.ps s27) ≤ 9223372036854775807 ∧ List.length q29 ≤ 1000000 ∧ ∀ (x : List Int), x ∈ SprT.qs s27 → List.length x ≤ 1000000) ∧ (z30, e31) = putS s27 p28 q29) ∧ BIf (e22 != (12 : Int)) (R (AV.d (bo false)) b) (BIf (e31 != (12 : Int)) (R (AV.d (bo false)) b) (BIf (((List.length (digR (Prod.fst z11)) : Nat) : Int) == (0 : Int)) (R (AV.d (bo z0)) b) (BIf (true && decide ((0 : Int) ≤ Int.tmod (IntKind.wrap IntKind.i64 u) (IntKind.wrap IntKind.i64 (Int.tdiv (IntKind.wrap IntKind.i64 (((List.length p : Nat) : Int) + (255 : Int))) (256 : Int))))) (∃ (xs32 : List (List Dv)), (partsR ps5)[Int.toNat (Int.tmod (IntKind.wrap IntKind.i64 u) (IntKind.wrap IntKind.i64 (Int.tdiv (IntKind.wrap IntKind.i64 (((List.length p : Nat) : Int) + (255 : Int))) (256 : Int))))]? = some [Dv.sl 1 xs32] ∧ BIf (true && decide ((0 : Int) ≤ (0 : Int) ∧ (0 : Int) ≤ IntKind.wrap IntKind.i64 (((List.length (digR (Prod.fst z11)) : Nat) : Int) - (1 : Int)) ∧ IntKind.wrap IntKind.i64 (((List.length (digR (Prod.fst z11)) : Nat) : Int) - (1 : Int)) ≤ ((List.length (digR (Prod.fst z11)) : Nat) : Int) ∧ ((List.length (digR (Prod.fst z11)) : Nat) : Int) ≤ ((List.length (digR (Prod.fst z11)) : Nat) : Int))) (∃ (args35 : List AV), LeVs [AV.agg [AV.d (i64 (NotT.v (SprT.no s4))), AV.d (i64 (NotT.n (SprT.no s4))), AV.d (u64 (NotT.r (SprT.no s4))), AV.d (i64 (NotT.t (SprT.no s4))), AV.d (Dv.sl 1 (partsR (SprT.ps s4))), AV.d (Dv.sl 1 (proofsR (SprT.qs s4))), AV.d (Dv.sl 2 (SprT.rows s4)), AV.d (Dv.sl 1 (digR (SprT.pf s4))), AV.d (i64 (SprT.i1 s4)), AV.d (i64 (SprT.i2 s4)), AV.d (i64 (SprT.i3 s4)), AV.d (i64 (SprT.i4 s4)), AV.d (i64 (SprT.i5 s4))], AV.d (Dv.sl 1 xs32), AV.d (Dv.sl 1 (List.take (Int.toNat (IntKind.wrap IntKind.i64 (((List.length (digR (Prod.fst z11)) : Nat) : Int) - (1 : Int))) - Int.toNat (0 : Int)) (List.drop (Int.toNat (0 : Int)) (digR (Prod.fst z11)))))] args35 ∧ ∃ (s36 : SprT), ∃ (p37 : List Int), ∃ (q38 : List Int), ∃ (z39 : SprT), ∃ (e40 : Int), args35 = [AV.agg [AV.d (i64 (NotT.v (SprT.no s36))), AV.d (i64 (NotT.n (SprT.no s36))), AV.d (u64 (NotT.r (SprT.no s36))), AV.d (i64 (NotT.t (SprT.no s36))), AV.d (Dv.sl 1 (partsR (SprT.ps s36))), AV.d (Dv.sl 1 (proofsR (SprT.qs s36))), AV.d (Dv.sl 2 (SprT.rows s36)), AV.d (Dv.sl 1 (digR (SprT.pf s36))), AV.d (i64 (SprT.i1 s36)), AV.d (i64 (SprT.i2 s36)), AV.d (i64 (SprT.i3 s36)), AV.d (i64 (SprT.i4 s36)), AV.d (i64 (SprT.i5 s36))], AV.d (Dv.sl 1 (bytesR p37)), AV.d (Dv.sl 1 (digR q38))] ∧ ((List.length (SprT.ps s36) ≤ 9223372036854775807 ∧ List.length q38 ≤ 1000000 ∧ ∀ (x : List Int), x ∈ SprT.qs s36 → List.length x ≤ 1000000) ∧ (z39, e40) = putS s36 p37 q38) ∧ BIf (true && decide (List.length (digR (Prod.fst z11)) * 8 ≤ 140737488355328)) (BIf (decide (0 < List.length (digR (Prod.fst z11)))) (0 = 0 ∧ BIf (decide (((List.length (digR (Prod.fst z11)) : Nat) : Int) = (0 : Int)) || false) False (0 = 0 ∧ BIf (decide ((0 : Int) ≤ Int.tmod (IntKind.wrap IntKind.i64 w) ((List.length (digR (Prod.fst z11)) : Nat) : Int)) && decide (Int.tmod (IntKind.wrap IntKind.i64 w) ((List.length (digR (Prod.fst z11)) : Nat) : Int) < ((List.length (digR (Prod.fst z11)) : Nat) : Int))) (0 = 0 ∧ ∃ (x41 : Int), List.take 1 (List.drop (Int.toNat (Int.tmod (IntKind.wrap IntKind.i64 w) ((List.length (digR (Prod.fst z11)) : Nat) : Int)) * 1) (flatA (digR (Prod.fst z11)))) = [AV.d (u64 x41)] ∧ BIf (x41 == o) (BIf z0 (R (AV.d (bo (e40 == (12 : Int)))) b) (R (AV.d (bo false)) b)) (0 = 0 ∧ BIf (decide ((0 : Int) ≤ Int.tmod (IntKind.wrap IntKind.i64 w) ((List.length (digR (Prod.fst z11)) : Nat) : Int)) && decide (Int.tmod (IntKind.wrap IntKind.i64 w) ((List.length (digR (Prod.fst z11)) : Nat) : Int) < ((List.length (digR (Prod.fst z11)) : Nat) : Int))) (0 = 0 ∧ BIf (decide (Int.toNat (Int.tmod (IntKind.wrap IntKind.i64 w) ((List.length (digR (Prod.fst z11)) : Nat) : Int)) * 1 + 1 ≤ List.length (flatA (digR (Prod.fst z11))))) (0 = 0 ∧ ∃ (xs42 : List (List Dv)), List.take (Int.toNat (Int.tmod (IntKind.wrap IntKind.i64 w) ((List.length (digR (Prod.fst z11)) : Nat) : Int)) * 1) (flatA (digR (Prod.fst z11))) ++ [AV.d (u64 o)] ++ List.drop (Int.toNat (Int.tmod (IntKind.wrap IntKind.i64 w) ((List.length (digR (Prod.fst z11)) : Nat) : Int)) * 1 + 1) (flatA (digR (Prod.fst z11))) = flatA xs42 ∧ List.length xs42 = List.length (digR (Prod.fst z11)) ∧ (∀ (r : List Dv), r ∈ xs42 → List.length r = 1) ∧ BIf (true && decide ((0 : Int) ≤ Int.tmod (IntKind.wrap IntKind.i64 u) (IntKind.wrap IntKind.i64 (Int.tdiv (IntKind.wrap IntKind.i64 (((List.length p : Nat) : Int) + (255 : Int))) (256 : Int))))) (∃ (xs43 : List (List Dv)), (partsR ps5)[Int.toNat (Int.tmod (IntKind.wrap IntKind.i64 u) (IntKind.wrap IntKind.i64 (Int.tdiv (IntKind.wrap IntKind.i64 (((List.length p : Nat) : Int) + (255 : Int))) (256 : Int))))]? = some [Dv.sl 1 xs43] ∧ ∃ (args46 : List AV), LeVs [AV.agg [AV.d (i64 (NotT.v (SprT.no s4))), AV.d (i64 (NotT.n (SprT.no s4))), AV.d (u64 (NotT.r (SprT.no s4))), AV.d (i64 (NotT.t (SprT.no s4))), AV.d (Dv.sl 1 (partsR (SprT.ps s4))), AV.d (Dv.sl 1 (proofsR (SprT.qs s4))), AV.d (Dv.sl 2 (SprT.rows s4)), AV.d (Dv.sl 1 (digR (SprT.pf s4))), AV.d (i64 (SprT.i1 s4)), AV.d (i64 (SprT.i2 s4)), AV.d (i64 (SprT.i3 s4)), AV.d (i64 (SprT.i4 s4)), AV.d (i64 (SprT.i5 s4))], AV.d (Dv.sl 1 xs43), AV.d (Dv.sl 1 xs42)] args46 ∧ ∃ (s47 : SprT), ∃ (p48 : List Int), ∃ (q49 : List Int), ∃ (z50 : SprT), ∃ (e51 : Int), args46 = [AV.agg [AV.d (i64 (NotT.v (SprT.no s47))), AV.d (i64 (NotT.n (SprT.no s47))), AV.d (u64 (NotT.r (SprT.no s47))), AV.d (i64 (NotT.t (SprT.no s47))), AV.d (Dv.sl 1 (partsR (SprT.ps s47))), AV.d (Dv.sl 1 (proofsR (SprT.qs s47))), AV.d (Dv.sl 2 (SprT.rows s47)), AV.d (Dv.sl 1 (digR (SprT.pf s47))), AV.d (i64 (SprT.i1 s47)), AV.d (i64 (SprT.i2 s47)), AV.d (i64 (SprT.i3 s47)), AV.d (i64 (SprT.i4 s47)), AV.d (i64 (SprT.i5 s47))], AV.d (Dv.sl 1 (bytesR p48)), AV.d (Dv.sl 1 (digR q49))] ∧ ((List.length (SprT.ps s47) ≤ 9223372036854775807 ∧ List.length q49 ≤ 1000000 ∧ ∀ (x : List Int), x ∈ SprT.qs s47 → List.length x ≤ 1000000) ∧ (z50, e51) = putS s47 p48 q49) ∧ BIf z0 (BIf (e40 == (12 : Int)) (R (AV.d (bo (e51 == (12 : Int)))) b) (R (AV.d (bo false)) b)) (R (AV.d (bo false)) b)) False) False) False)) False)) False) False) False) False)))) False) False) False) False) False) False) False) (BIf (true && decide ((0 : Int) ≤ Int.tmod (IntKind.wrap IntKind.i64 at') (256 : Int))) (∃ (x52 : Int), none = some [u8 x52] ∧ BIf (true && decide ((0 : Int) ≤ Int.tmod (IntKind.wrap IntKind.i64 at') (256 : Int))) (∃ (x53 : Int), none = some [u8 x53] ∧ False) False) False)) False) False))) False)))))) := by kernel_rfl
end
end Go.Proofs.YtfeemohdpmdaoaaDoor.Am

namespace Go.Proofs.YtfeemohdpmdaoaaDoor.Am
set_option linter.unusedVariables false
open Go Go.RowKit Go.Proofs

theorem lay_bad {no : NotT} {ps : List (List Int)} (h : Lays no ps) {k : Nat} (hk : k < ps.length) {p q : List Int} (hp : p.length = 256) (ht : topS (rootS ps).1 (checkF (walkS ps.length k) q (leafS p)) = false) :
    putS (layS no ps k) p q = (zeroSp, 12) := by
  obtain ⟨a1, a2, a3⟩ := areS_ok h.are
  have h1 := lay_sound h k (by omega)
  have h3 : provedS (layS no ps k) (layS no ps k).ps.length p q = false := by
    rw [lay_len (by omega)]
    show checkS no.r (countS no.n) k _ _ = false
    rw [h.cnt, check_form (by omega) a1 hk (by omega), h.rt, ht]
  rw [putS, if_neg (by rw [h1, hp]; simp), if_neg, if_pos h3]
  rw [lay_len (by omega)]
  show ¬ (k : Int) = countS no.n
  rw [h.cnt]; omega
theorem top_good {ps : List (List Int)} (h : areS ps = true) {k : Nat} (hk : k < ps.length) : checkF (walkS ps.length k) (proofL ps k) (leafS (nthL ps k)) = some ([], (rootS ps).1) := check_page h hk
theorem top_page {ps : List (List Int)} (h : areS ps = true) {k : Nat} (hk : k < ps.length) {p : List Int} (ho : One (fun a b => a ≠ b) (nthL ps k) p) (h1 : ∀ x ∈ nthL ps k, InR x) (h2 : ∀ x ∈ p, InR x) : topS (rootS ps).1 (checkF (walkS ps.length k) (proofL ps k) (leafS p)) = false := by
  obtain ⟨z', e, hne⟩ := check_inj _ _ _ _ _ _ (leaf_range _) (leaf_range _) (leaf_one ho h1 h2) (top_good h hk)
  rw [e]
  simp [topS, Ne.symm hne]
theorem top_more {ps : List (List Int)} (h : areS ps = true) {k : Nat} (hk : k < ps.length) (o : Int) : topS (rootS ps).1 (checkF (walkS ps.length k) (proofL ps k ++ [o]) (leafS (nthL ps k))) = false := by
  rw [check_more _ _ _ [o] _ _ (top_good h hk)]; rfl
theorem top_less {ps : List (List Int)} (h : areS ps = true) {k : Nat} (hk : k < ps.length) (hq : proofL ps k ≠ []) : topS (rootS ps).1 (checkF (walkS ps.length k) ((proofL ps k).take ((proofL ps k).length - 1)) (leafS (nthL ps k))) = false := by
  have e : (proofL ps k).take ((proofL ps k).length - 1) ++ [(proofL ps k).getLast hq] = proofL ps k := by
    rw [← List.dropLast_eq_take]; exact List.dropLast_concat_getLast hq
  rw [check_less _ _ _ _ _ (by rw [e]; exact top_good h hk)]; rfl
theorem top_one {ps : List (List Int)} (h : areS ps = true) {k : Nat} (hk : k < ps.length) {q : List Int} (ho : One (fun a b => a ≠ b) (proofL ps k) q) (h2 : ∀ x ∈ q, InR x) : topS (rootS ps).1 (checkF (walkS ps.length k) q (leafS (nthL ps k))) = false := by
  obtain ⟨z', e, hne⟩ := check_one _ _ _ _ _ ho page_range h2 (top_good h hk)
  rw [e]
  simp [topS, Ne.symm hne]
theorem flatA_digs : ∀ q : List Int, flatA (digR q) = q.map fun x => AV.d (u64 x)
  | [] => rfl
  | x :: q => by
    have := flatA_digs q
    simp only [flatA, digR, List.map_cons, List.flatten_cons, List.map_append, List.map_nil] at this ⊢
    rw [this]; rfl
theorem flatA_setd {p : List Int} {j : Nat} {y : Int} (hj : j < p.length) : (flatA (digR p)).take (j * 1) ++ [AV.d (u64 y)] ++ (flatA (digR p)).drop (j * 1 + 1) = flatA (digR (p.set j y)) := by
  rw [flatA_digs, flatA_digs, Nat.mul_one, List.map_set, List.set_eq_take_append_cons_drop, if_pos (by simpa using hj)]; simp
theorem dig_row {p : List Int} : ∀ r ∈ digR p, r.length = 1 := by
  intro r hr; simp only [digR, List.mem_map] at hr; obtain ⟨_, _, rfl⟩ := hr; rfl
theorem first_of {α γ : Type} (f : α → γ) {p : List α} {j : Nat} {x : α} (hx : p[j]? = some x) : ((p.map f).drop (j * 1)).take 1 = [f x] := by
  rw [Nat.mul_one]
  apply List.ext_getElem?
  intro i
  rw [List.getElem?_take]
  cases i with
  | zero => simp [hx]
  | succ i => simp
set_option maxRecDepth 20000 in
theorem pcLaw9 (p : List Int) (u a x w o : Int) (h1 : p.length ≤ 9223372036854775807) (hp : ∀ y ∈ p, IsB y) (hu : IsB u) (ha : 0 ≤ a ∧ a < 65536) (hx : IsB x) (hw : IsB w) (ho : InR o) :
    PCall Tryd.prog 9 [.d (.sl 1 (bytesR p)), .d (u8 u), .d (.s (.int .u16 a)), .d (u8 x), .d (u8 w), .d (u64 o)] (.d (bo true)) := by
  refine PCall.ofFn (n := 200) (u := false) mixed T9_ok GWide_ok Tryd.func9 (by rfl) (by rfl) fun Ev bb => ?_
  rw [f9_nf, bytesR_len]
  refine ⟨rfl, _, rfl, BIf.of (fun _ => rfl) fun g1 => BIf.of (fun _ => rfl) fun g2 => BIf.of (fun _ => rfl) fun g3 => ?_⟩
  have g1 := of_decide_eq_false g1
  have g2 := of_decide_eq_false g2
  have g3 : x ≠ 0 := by simpa using g3
  have hsz : sizedS p.length = true := by simp [sizedS]; omega
  have han : announcedS 1 p.length 0 = true := by simp [announcedS, hsz]
  obtain ⟨_, lays⟩ := lays_page hsz han
  have ar := lays.are
  have ec : IntKind.wrap IntKind.i64 (Int.tdiv (IntKind.wrap IntKind.i64 ((p.length : Int) + 255)) 256) = (((p.length + 255) / 256 : Nat) : Int) := by
    have e1 : IntKind.wrap IntKind.i64 ((p.length : Int) + 255) = ((p.length + 255 : Nat) : Int) := by rw [wrap_i64 (by omega) (by omega)]; omega
    rw [e1, show Int.tdiv ((p.length + 255 : Nat) : Int) 256 = (((p.length + 255) / 256 : Nat) : Int) from rfl, wrap_i64 (by omega) (by omega)]
  rw [ec, ← split_len]
  have hc : 0 < (splitS p).length := by rw [split_len]; omega
  obtain ⟨un, rfl⟩ := Int.eq_ofNat_of_zero_le hu.1
  obtain ⟨an, rfl⟩ := Int.eq_ofNat_of_zero_le ha.1
  obtain ⟨wn, rfl⟩ := Int.eq_ofNat_of_zero_le hw.1
  have hu2 := hu.2
  have hw2 := hw.2
  have eIX : Int.tmod (IntKind.wrap IntKind.i64 (un : Int)) ((splitS p).length : Int) = ((un % (splitS p).length : Nat) : Int) := by rw [wrap_i64 (by omega) (by omega)]; rfl
  have eAT : Int.tmod (IntKind.wrap IntKind.i64 (an : Int)) 256 = ((an % 256 : Nat) : Int) := by rw [wrap_i64 (by omega) (by omega)]; rfl
  have hj : un % (splitS p).length < (splitS p).length := Nat.mod_lt _ hc
  have hi : an % 256 < 256 := Nat.mod_lt _ (by decide)
  rw [eIX, eAT]
  rw [Int.toNat_natCast, Int.toNat_natCast]
  generalize un % (splitS p).length = j at hj
  generalize an % 256 = i at hi
  refine BIf.f (by rw [Bool.or_false]; exact decide_eq_false (by omega)) ⟨p, 1, j, _, _, rfl, ⟨⟨hsz, han, by omega⟩, rfl, rfl⟩, ?_⟩
  have hs : loadedS p 1 j = layS ⟨1, p.length, (rootS (splitS p)).1, 0⟩ (splitS p) j := rfl
  rw [partsR_len, parts_at hj]
  have hx256 : (nthL (splitS p) j).length = 256 := lays.two _ (nthL_mem hj)
  have hxB : ∀ y ∈ nthL (splitS p) j, IsB y := split_range hp _ (nthL_mem hj)
  have hqs : ∀ y ∈ (loadedS p 1 j).qs, y.length ≤ 1000000 := lay_qs lays (by omega)
  have hps : (loadedS p 1 j).ps.length ≤ 9223372036854775807 := by rw [hs, lay_len (by omega)]; have := (areS_ok ar).1; omega
  have hql : (proofL (splitS p) j).length ≤ 16 := page_len ar hj
  refine BIf.f (by simp <;> omega) (BIf.t (by simp) ⟨_, rfl, BIf.f (by rw [bytesR_len, hx256]; rfl) ⟨splitS p, j, (proofL (splitS p) j, 0), rfl, (lay_proof ar hj).symm, BIf.f rfl (BIf.t (by simp) ⟨_, rfl, ?_⟩)⟩⟩)
  have hfl : (flatA (bytesR (nthL (splitS p) j))).length = 256 := by rw [flatA_bytes, List.length_map, hx256]
  have hxi : (nthL (splitS p) j)[i]? = some (nth (nthL (splitS p) j) i) := by simp [nth, hx256, hi]
  have hxiB : IsB (nth (nthL (splitS p) j) i) := hxB _ (List.mem_of_getElem? hxi)
  rw [bytesR_len, hx256]
  refine BIf.t (by decide) (BIf.t (by decide) ⟨rfl, BIf.t (by simp <;> omega) ⟨rfl, nth (nthL (splitS p) j) i, ?_, rfl, BIf.t (by simp <;> omega) ⟨rfl, BIf.t (by rw [hfl]; simp <;> omega) ⟨rfl, bytesR ((nthL (splitS p) j).set i (xorB (nth (nthL (splitS p) j) i) x)), flatA_set (by omega), by rw [bytesR_len, List.length_set, hx256], bytes_row, ?_⟩⟩⟩⟩)
  · rw [flatA_bytes]; exact first_of _ hxi
  -- a page that is changed
  have hone : One (fun a b => a ≠ b) (nthL (splitS p) j) ((nthL (splitS p) j).set i (xorB (nth (nthL (splitS p) j) i) x)) := One.set hxi (xorB_ne hxiB hx g3)
  have e1 : putS (loadedS p 1 j) ((nthL (splitS p) j).set i (xorB (nth (nthL (splitS p) j) i) x)) (proofL (splitS p) j) = (zeroSp, 12) := by
    refine lay_bad lays hj (by rw [List.length_set, hx256]) (top_page ar hj hone (fun y hy => (hxB y hy).inR) fun y hy => ?_)
    rcases List.mem_or_eq_of_mem_set hy with hy | rfl
    · exact (hxB y hy).inR
    · exact (xorB_isB _ _).inR
  refine ⟨_, LeVs.refl _, loadedS p 1 j, _, proofL (splitS p) j, zeroSp, 12, rfl, ⟨⟨hps, by omega, hqs⟩, e1.symm⟩, BIf.t (by simp) ⟨_, rfl, ?_⟩⟩
  -- a proof with one more
  have e2 : putS (loadedS p 1 j) (nthL (splitS p) j) (proofL (splitS p) j ++ [o]) = (zeroSp, 12) := lay_bad lays hj hx256 (top_more ar hj o)
  have d2 : List.take (Int.toNat ((digR (proofL (splitS p) j)).length : Int) - Int.toNat 0) (List.drop (Int.toNat 0) (digR (proofL (splitS p) j))) ++ [[u64 o]] = digR (proofL (splitS p) j ++ [o]) := by
    rw [Int.toNat_natCast, show Int.toNat 0 = 0 from rfl, Nat.sub_zero, List.drop_zero, List.take_length]; simp [digR]
  have t2 : List.take (Int.toNat ((digR (proofL (splitS p) j)).length : Int) - Int.toNat 0) (List.drop (Int.toNat 0) (digR (proofL (splitS p) j))) = digR (proofL (splitS p) j) := by
    rw [Int.toNat_natCast, show Int.toNat 0 = 0 from rfl, Nat.sub_zero, List.drop_zero, List.take_length]
  rw [show (Prod.fst (proofL (splitS p) j, (0 : Int))) = proofL (splitS p) j from rfl, d2, t2, digR_len]
  refine BIf.t (by simp) (BIf.t (by simp) (BIf.t (by simp <;> omega) ⟨_, LeVs.refl _, loadedS p 1 j, nthL (splitS p) j, proofL (splitS p) j ++ [o], zeroSp, 12, rfl, ⟨⟨hps, by simp <;> omega, hqs⟩, e2.symm⟩, BIf.f rfl (BIf.f rfl (BIf.of (fun _ => rfl) fun g4 => BIf.t (by simp) ⟨_, rfl, ?_⟩))⟩))
  -- a proof with one less
  have hq0 : proofL (splitS p) j ≠ [] := by intro h; rw [h] at g4; simp at g4
  have hq1 : 0 < (proofL (splitS p) j).length := List.length_pos_iff.2 hq0
  have e3 : putS (loadedS p 1 j) (nthL (splitS p) j) ((proofL (splitS p) j).take ((proofL (splitS p) j).length - 1)) = (zeroSp, 12) := lay_bad lays hj hx256 (top_less ar hj hq0)
  have w3 : IntKind.wrap IntKind.i64 (((proofL (splitS p) j).length : Int) - 1) = (((proofL (splitS p) j).length - 1 : Nat) : Int) := by rw [wrap_i64 (by omega) (by omega)]; omega
  have d3 : List.take (Int.toNat ((((proofL (splitS p) j).length - 1 : Nat)) : Int) - Int.toNat 0) (List.drop (Int.toNat 0) (digR (proofL (splitS p) j))) = digR ((proofL (splitS p) j).take ((proofL (splitS p) j).length - 1)) := by
    rw [Int.toNat_natCast, show Int.toNat 0 = 0 from rfl, Nat.sub_zero, List.drop_zero]; simp [digR, List.map_take]
  rw [w3, d3]
  have eWX : Int.tmod (IntKind.wrap IntKind.i64 (wn : Int)) ((proofL (splitS p) j).length : Int) = ((wn % (proofL (splitS p) j).length : Nat) : Int) := by rw [wrap_i64 (by omega) (by omega)]; rfl
  have hk : wn % (proofL (splitS p) j).length < (proofL (splitS p) j).length := Nat.mod_lt _ hq1
  rw [eWX, Int.toNat_natCast]
  generalize wn % (proofL (splitS p) j).length = k at hk
  have hyk : (proofL (splitS p) j)[k]? = some (nth (proofL (splitS p) j) k) := by simp [nth, hk]
  have hfq : (flatA (digR (proofL (splitS p) j))).length = (proofL (splitS p) j).length := by rw [flatA_digs, List.length_map]
  refine BIf.t (by simp <;> omega) ⟨_, LeVs.refl _, loadedS p 1 j, nthL (splitS p) j, (proofL (splitS p) j).take ((proofL (splitS p) j).length - 1), zeroSp, 12, rfl, ⟨⟨hps, by simp <;> omega, hqs⟩, e3.symm⟩, BIf.t (by simp <;> omega) (BIf.t (by simp <;> omega) ⟨rfl, BIf.f (by simp <;> omega) ⟨rfl, BIf.t (by simp <;> omega) ⟨rfl, nth (proofL (splitS p) j) k, by rw [flatA_digs]; exact first_of _ hyk, BIf.of (fun _ => BIf.t rfl rfl) fun g5 => ⟨rfl, BIf.t (by simp <;> omega) ⟨rfl, BIf.t (by rw [hfq]; simp <;> omega) ⟨rfl, digR ((proofL (splitS p) j).set k o), flatA_setd hk, by rw [digR_len, List.length_set], dig_row, BIf.t (by simp) ⟨_, rfl, ?_⟩⟩⟩⟩⟩⟩⟩)⟩
  -- a proof with one changed
  have g5 : nth (proofL (splitS p) j) k ≠ o := by simpa using g5
  have e4 : putS (loadedS p 1 j) (nthL (splitS p) j) ((proofL (splitS p) j).set k o) = (zeroSp, 12) := by
    refine lay_bad lays hj hx256 (top_one ar hj (One.set hyk g5) fun y hy => ?_)
    rcases List.mem_or_eq_of_mem_set hy with hy | rfl
    · exact page_range y hy
    · exact ho
  exact ⟨_, LeVs.refl _, loadedS p 1 j, nthL (splitS p) j, (proofL (splitS p) j).set k o, zeroSp, 12, rfl, ⟨⟨hps, by simp <;> omega, hqs⟩, e4.symm⟩, BIf.t rfl (BIf.t rfl rfl)⟩
end Go.Proofs.YtfeemohdpmdaoaaDoor.Am
