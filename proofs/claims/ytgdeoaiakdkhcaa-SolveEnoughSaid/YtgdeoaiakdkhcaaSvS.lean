import Derived.Test.YtgdeoaiakdkhcaaSvR
namespace Go.Proofs.Ytgdeoaiakdkhcaa.Am
set_option linter.unusedVariables false
open Go Go.RowKit Go.Proofs

/-! ### SolveEnough -/
noncomputable def lp9 : Code := sub [1, 1, 1, 0, 1, 2, 3] (code Try.f9)
def tm9 (xs : List (List Dv)) (i : Int) : List AV := [.d (.sl 2 xs), .bad, .bad, .d (bo true)] ++ List.replicate 15 .bad ++ [.d (i64 i)] ++ List.replicate 40 .bad
section
variable {β : Type} (wl : WLT β) (y : YieldT β) (b : β) (R : AV → β → Prop) (K : Exit → List AV → List Blk → β → Prop)
theorem f9_round (xs : List (List Dv)) (i : Int) : wpc Try.prog ⟨TL, [], wl, y, false⟩ 200 lp9 (tm9 xs i) [] b (maskK 0 [0, 2, 3, 19] K) = (
  BIf (decide (i < 16)) (∃ (l0 : List Row) (m1 : Int) (x2 : List Int × Bool), [AV.d (Dv.sl 2 xs), AV.d (i64 i)] = [AV.d (Dv.sl 2 (rowsR l0)), AV.d (i64 m1)] ∧ l0.length ≤ 9223372036854775807 ∧ x2 = solvedS l0 m1 ∧
    BIf (decide (i < 0)) False (∃ (l3 : List Row) (m4 : Int) (x5 : List Int × Bool), [AV.d (Dv.sl 2 xs), AV.d (i64 (bit i))] = [AV.d (Dv.sl 2 (rowsR l3)), AV.d (i64 m4)] ∧ l3.length ≤ 9223372036854775807 ∧ x5 = sumS l3 m4 ∧
      BIf (!(x2.2 == x5.2)) (K Exit.ret ((tm9 xs i).set 2 (.d (bo false))) [] b) (∃ (p6 q7 : List Int) (r8 : Bool), [AV.d (Dv.sl 1 (bytesR x2.1)), AV.d (Dv.sl 1 (bytesR x5.1))] = [AV.d (Dv.sl 1 (bytesR p6)), AV.d (Dv.sl 1 (bytesR q7))] ∧ p6.length ≤ 9223372036854775807 ∧ r8 = (p6 == q7) ∧
        BIf (!r8) (K Exit.ret ((tm9 xs i).set 2 (.d (bo false))) [] b) (BIf ((xs.length : Int) == 16) (BIf (!x2.2) (K Exit.ret ((tm9 xs i).set 2 (.d (bo false))) [] b) (K Exit.normal (tm9 xs (IntKind.wrap .i64 (i + 1))) [] b)) (K Exit.normal (tm9 xs (IntKind.wrap .i64 (i + 1))) [] b)))))
    (K (Exit.exit 0) (tm9 xs i) [] b)) := by kernel_rfl
end

theorem sumS_len (l : List Row) (m : Int) : (sumS l m).1.length ≤ 16 := by
  unfold sumS
  split
  · simp
  · dsimp only
    split
    · simp
    · simp [b16_len]
theorem full_sum {l : List Row} (hg : Good l) (hb : ∀ r ∈ l, ∀ x ∈ r.2, 0 ≤ x ∧ x < 256) (hl : l.length = 16) {i : Nat} (hi : i < 16) : (sumS l (two i)).2 = true := by
  rw [← solved_sum hg hb hi]
  obtain ⟨r, hr, he⟩ := hg.full hl hi
  have hv := (validS_good l).2 hg
  unfold solvedS
  rw [decide_eq_false (by omega), decide_eq_false (by omega), hv, find_uniq hg hr hi he]; rfl

theorem wr9 {Ev : Env Try.prog} {b : Ev.β} {Q : Exit → St Ev.β → Prop} (l : List Row) (hl : l.length ≤ 9223372036854775807) (hg : Good l) (hb : ∀ r ∈ l, ∀ x ∈ r.2, 0 ≤ x ∧ x < 256) (hQ : Q (.exit 0) ⟨tm9 (rowsR l) 16, [], b⟩) : ∀ (n i : Nat), i + n = 16 →
    WR Ev lp9 (n + 1) ⟨tm9 (rowsR l) i, [], b⟩ Q
  | 0, i, hi => by
    refine WR.ofMask [0, 2, 3, 19] mixed (CX.Ok.of (u := false) TL_ok SCallsOk.nil) (k := 200) ?_
    show wpc _ _ _ _ _ _ _ (maskK 0 _ _)
    rw [f9_round]
    have e : i = 16 := by omega
    subst e
    exact BIf.f (by simp) hQ
  | n + 1, i, hi => by
    refine WR.ofMask [0, 2, 3, 19] mixed (CX.Ok.of (u := false) TL_ok SCallsOk.nil) (k := 200) ?_
    show wpc _ _ _ _ _ _ _ (maskK 0 _ _)
    rw [f9_round]
    have hi16 : i < 16 := by omega
    have e := solved_sum hg hb hi16
    have hgo : WR Ev lp9 (n + 1) ⟨tm9 (rowsR l) (IntKind.wrap .i64 ((i : Int) + 1)), [], b⟩ Q := by
      rw [wrap_succ (n := 16) hi16 (by omega)]
      exact wr9 l hl hg hb hQ n (i + 1) (by omega)
    refine BIf.t (by simp; omega) ⟨l, (i : Int), _, rfl, hl, rfl, BIf.f (by simp) ⟨l, _, _, rfl, hl, rfl, ?_⟩⟩
    rw [e, bit_two hi16]
    refine BIf.f (by simp) ⟨_, _, _, rfl, by have := sumS_len l (two i); omega, rfl, BIf.f (by simp) (BIf.of (fun h16 => ?_) fun _ => hgo)⟩
    have h16 : l.length = 16 := by simp [rowsR] at h16; omega
    exact BIf.f (by rw [full_sum hg hb h16 hi16]; rfl) hgo

def wl9 {β : Type} : WLT β := fun c tm hp b K => ∃ (l : List Row), c = .loop lp9 ∧ maskTm [0, 3, 19] 0 tm = tm9 (rowsR l) 0 ∧ hp = [] ∧ (l.length ≤ 9223372036854775807 ∧ Good l ∧ ∀ r ∈ l, ∀ x ∈ r.2, 0 ≤ x ∧ x < 256) ∧ K (.exit 0) (tm9 (rowsR l) 16) [] b
theorem wl9_ok {Ev : Env Try.prog} (c : Code) (tm : List AV) (hp : List Blk) (b : Ev.β) (K : Exit → List AV → List Blk → Ev.β → Prop) (h : wl9 c tm hp b K) : W Ev c ⟨tm, hp, b⟩ (fun e s => K e s.tm s.hp s.b) := by
  obtain ⟨l, rfl, htm, rfl, ⟨h0, h1, h2⟩, hK⟩ := h
  refine W.cast (htm ▸ maskTm_le _ tm 0) (LeH.refl _) ?_
  exact W.rounds (wr9 (Q := fun e s => K e s.tm s.hp s.b) l h0 h1 h2 hK 16 0 rfl)
theorem f9_nf {β : Type} (y : YieldT β) (b : β) (R : AV → β → Prop) (xs : List (List Dv)) : wpFn Try.prog ⟨TL, [], wl9, y, false⟩ 200 Try.f9 [.d (.sl 2 xs)] b R = (
  ([] : List AV) = [] ∧ ∃ l0 : List Row, [AV.d (Dv.sl 2 xs)] = [AV.d (Dv.sl 2 (rowsR l0))] ∧ l0.length ≤ 9223372036854775807 ∧ BIf (!fewS l0) (R (AV.d (bo true)) b) (
  ∃ l1 : List Row, [AV.d (Dv.sl 2 xs)] = [AV.d (Dv.sl 2 (rowsR l1))] ∧ l1.length ≤ 9223372036854775807 ∧ BIf (!validR l1) (R (AV.d (bo true)) b) (
  ∃ l : List Row, Code.loop lp9 = Code.loop lp9 ∧ tm9 xs 0 = tm9 (rowsR l) 0 ∧ ([] : List Blk) = [] ∧ (l.length ≤ 9223372036854775807 ∧ Good l ∧ ∀ r ∈ l, ∀ x ∈ r.2, 0 ≤ x ∧ x < 256) ∧
    R (.d (bo (decide (((rowsR l).length : Int) ≤ 16)))) b))) := by kernel_rfl
theorem pc9 (l : List Row) (hl : l.length ≤ 9223372036854775807) (hb : ∀ r ∈ l, ∀ x ∈ r.2, 0 ≤ x ∧ x < 256) : PCall Try.prog 9 [.d (.sl 2 (rowsR l))] (.d (bo true)) := by
  refine PCall.ofFnW (n := 200) (u := false) (fun _ => wl9) mixed TL_ok SCallsOk.nil (fun Ev => wl9_ok) Try.func9 (by rfl) (by rfl) fun Ev b => ?_
  rw [f9_nf]
  refine ⟨rfl, l, rfl, hl, BIf.of (fun _ => rfl) fun _ => ⟨l, rfl, hl, BIf.of (fun _ => rfl) fun hv => ?_⟩⟩
  have hg := (validR_good l).1 (by simpa using hv)
  refine ⟨l, rfl, rfl, rfl, ⟨hl, hg, hb⟩, ?_⟩
  have := hg.len
  rw [decide_eq_true (by simp [rowsR]; omega)]
end Go.Proofs.Ytgdeoaiakdkhcaa.Am
