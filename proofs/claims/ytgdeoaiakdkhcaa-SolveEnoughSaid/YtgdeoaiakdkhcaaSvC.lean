import Derived.Test.YtgdeoaiakdkhcaaSvB
namespace Go.Proofs.Ytgdeoaiakdkhcaa.Am
set_option linter.unusedVariables false
open Go Go.RowKit Go.Proofs

abbrev Row := Int × List Int
def rowD (r : Row) : List Dv := [i64 r.1, .sl 1 (bytesR r.2)]
def rowsR (l : List Row) : List (List Dv) := l.map rowD
def item (r : Row) : List AV := [eqA r.1 (pad r.2), .d (bo (fine r.1 r.2))]

noncomputable def lp38 : Code := inLoop (inBlock (restOf (code Try.f38)))
theorem f38_shape : code Try.f38 = .seq (firstOf (code Try.f38)) (.block 0 (.loop lp38)) := by kernel_rfl
def tm38 (xs : List (List Dv)) (n k : Int) : List AV := [.yl, .rptr [.sl 2 xs], .bad, .bad, .bad, .d (.sl 2 xs), .d (i64 n), .d (i64 k)] ++ List.replicate 11 .bad
section
variable {β : Type} (wl : WLT β) (y : YieldT β) (b : β) (R : AV → β → Prop) (K : Exit → List AV → List Blk → β → Prop)
theorem f38_0 (xs : List (List Dv)) : wpc Try.prog ⟨[(28, c28)], [], wl, y, true⟩ 100 (firstOf (code Try.f38)) (startTm Try.f38 [.yl, .rptr [.sl 2 xs]]) [] b K = K .normal (tm38 xs xs.length 0) [] b := by kernel_rfl
theorem f38_round (xs : List (List Dv)) (n k : Int) : wpc Try.prog ⟨[(28, c28)], [], wl, y, true⟩ 100 lp38 (tm38 xs n k) [] b (maskK 0 [0, 1, 5, 6, 7] K) =
    BIf (decide (k < n)) (BIf (true && decide (0 ≤ k))
      (∃ x0 xs1, xs[k.toNat]? = some [i64 x0, .sl 1 xs1] ∧ ∃ m b5, [AV.agg [.d (i64 x0), .d (.sl 1 xs1)]] = [rowA m b5] ∧
        y b [eqA m (pad b5), .d (bo (fine m b5))] fun c b' => BIf (!c) (K .ret (tm38 xs n k) [] b') (K .normal (tm38 xs n (IntKind.wrap .i64 (k + 1))) [] b')) False)
    (K (.exit 0) (tm38 xs n k) [] b) := by kernel_rfl
end

theorem wr38 {Ev : Env Try.prog} {QQ : Ev.β → Prop} (l : List Row) (hl : l.length ≤ 9223372036854775807) : ∀ (rest : List Row) (k : Nat) (b : Ev.β), l.drop k = rest → YList Ev.Y (rest.map item) b QQ →
    WR Ev lp38 (rest.length + 1) ⟨tm38 (rowsR l) l.length k, [], b⟩ (fun e s => (e = .exit 0 ∨ e = .ret) ∧ QQ s.b)
  | [], k, b, hd, hY => by
    refine WR.ofMask [0, 1, 5, 6, 7] mixed (CX.Ok.of (u := true) (CallsOk.cons c28_ok CallsOk.nil) SCallsOk.nil) (k := 100) ?_
    show wpc _ _ _ _ _ _ _ (maskK 0 _ _)
    rw [f38_round]
    have : l.length ≤ k := List.drop_eq_nil_iff.1 hd
    exact BIf.f (by simpa using this) ⟨.inl rfl, hY⟩
  | r :: rest, k, b, hd, hY => by
    refine WR.ofMask [0, 1, 5, 6, 7] mixed (CX.Ok.of (u := true) (CallsOk.cons c28_ok CallsOk.nil) SCallsOk.nil) (k := 100) ?_
    show wpc _ _ _ _ _ _ _ (maskK 0 _ _)
    rw [f38_round]
    have hk : k < l.length := by
      rcases Nat.lt_or_ge k l.length with h | h
      · exact h
      · rw [List.drop_eq_nil_of_le h] at hd; cases hd
    have hr : l[k]? = some r := by
      have := congrArg (fun x => x[0]?) hd
      simpa using this
    have hd' : l.drop (k + 1) = rest := by
      have := congrArg List.tail hd
      simpa using this
    refine BIf.t (by simpa using hk) (BIf.t (by simp) ⟨r.1, bytesR r.2, by simp [rowsR, hr, rowD], r.1, r.2, rfl, ?_⟩)
    simp only [List.map_cons, YList] at hY
    refine Ev.Ymono hY fun c b' h => ?_
    cases c with
    | false => exact ⟨.inr rfl, h⟩
    | true =>
      have e : IntKind.wrap .i64 ((k : Int) + 1) = ((k + 1 : Nat) : Int) := by rw [wrap_i64 (by omega) (by omega)]; simp
      show WR Ev lp38 _ _ _
      rw [e]
      exact wr38 l hl rest (k + 1) b' hd' h

/-- the iterator of equations -/
theorem ic38 (l : List Row) (hl : l.length ≤ 9223372036854775807) : ICall Try.prog 38 [.yl, .rptr [.sl 2 (rowsR l)]] (fun Y b Q => YList Y (l.map item) b Q) := by
  refine ICall.ofW (c := code Try.f38) Try.func38 (by rfl) (by rfl) fun Ev b Q hQ => ?_
  rw [f38_shape]
  refine W.seq (wpc_sound mixed (CX.Ok.of (u := true) (CallsOk.cons c28_ok CallsOk.nil) SCallsOk.nil) (n := 100) ((f38_0 ..).symm ▸ ?_) (fun e tm hp b h => h))
  rw [show (((rowsR l).length : Nat) : Int) = (l.length : Int) by simp [rowsR]]
  refine W.block (W.mono (W.rounds (wr38 l hl l 0 b rfl hQ)) fun e s h => ?_)
  obtain ⟨rfl | rfl, h⟩ := h
  · exact ⟨.inr rfl, [], rfl, h⟩
  · exact ⟨.inl rfl, [], rfl, h⟩

theorem pc30 (xs : List (List Dv)) : PCall Try.prog 30 [.d (.sl 2 xs)] (.fn (.func 38) [] [.rptr [.sl 2 xs]]) := by
  refine PCall.ofFn (n := 100) (u := true) mixed CallsOk.nil SCallsOk.nil Try.func30 (by rfl) (by rfl) fun Ev bb => ?_
  rw [f30_nf]
def c30 (args : List AV) (K : AV → Prop) : Prop := ∃ xs, args = [.d (.sl 2 xs)] ∧ K (.fn (.func 38) [] [.rptr [.sl 2 xs]])
theorem c30_ok : ∀ args K, c30 args K → ∃ x, PCall Try.prog 30 args x ∧ K x := by
  rintro _ K ⟨xs, rfl, h⟩; exact ⟨_, pc30 xs, h⟩

end Go.Proofs.Ytgdeoaiakdkhcaa.Am
