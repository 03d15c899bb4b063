import Derived.Test.YtgdeoaiakdkhcaaSvK
namespace Go.Proofs.Ytgdeoaiakdkhcaa.Am
set_option linter.unusedVariables false
open Go Go.RowKit Go.Proofs

theorem f25_nf' {β : Type} (wl : WLT β) (y : YieldT β) (b : β) (R : AV → β → Prop) (xs ys : List (List Dv)) : wpFn Try.prog ⟨[], [], wl, y, true⟩ 100 Try.f25 [.d (.sl 1 xs), .d (.sl 1 ys)] b R = (
  ∃ a0, xs[(0 : Nat)]? = some [u8 a0] ∧ ∃ b0, ys[(0 : Nat)]? = some [u8 b0] ∧ ∃ a1, xs[(1 : Nat)]? = some [u8 a1] ∧ ∃ b1, ys[(1 : Nat)]? = some [u8 b1] ∧
  ∃ a2, xs[(2 : Nat)]? = some [u8 a2] ∧ ∃ b2, ys[(2 : Nat)]? = some [u8 b2] ∧ ∃ a3, xs[(3 : Nat)]? = some [u8 a3] ∧ ∃ b3, ys[(3 : Nat)]? = some [u8 b3] ∧
  ∃ a4, xs[(4 : Nat)]? = some [u8 a4] ∧ ∃ b4, ys[(4 : Nat)]? = some [u8 b4] ∧ ∃ a5, xs[(5 : Nat)]? = some [u8 a5] ∧ ∃ b5, ys[(5 : Nat)]? = some [u8 b5] ∧
  ∃ a6, xs[(6 : Nat)]? = some [u8 a6] ∧ ∃ b6, ys[(6 : Nat)]? = some [u8 b6] ∧ ∃ a7, xs[(7 : Nat)]? = some [u8 a7] ∧ ∃ b7, ys[(7 : Nat)]? = some [u8 b7] ∧
  ∃ a8, xs[(8 : Nat)]? = some [u8 a8] ∧ ∃ b8, ys[(8 : Nat)]? = some [u8 b8] ∧ ∃ a9, xs[(9 : Nat)]? = some [u8 a9] ∧ ∃ b9, ys[(9 : Nat)]? = some [u8 b9] ∧
  ∃ a10, xs[(10 : Nat)]? = some [u8 a10] ∧ ∃ b10, ys[(10 : Nat)]? = some [u8 b10] ∧ ∃ a11, xs[(11 : Nat)]? = some [u8 a11] ∧ ∃ b11, ys[(11 : Nat)]? = some [u8 b11] ∧
  ∃ a12, xs[(12 : Nat)]? = some [u8 a12] ∧ ∃ b12, ys[(12 : Nat)]? = some [u8 b12] ∧ ∃ a13, xs[(13 : Nat)]? = some [u8 a13] ∧ ∃ b13, ys[(13 : Nat)]? = some [u8 b13] ∧
  ∃ a14, xs[(14 : Nat)]? = some [u8 a14] ∧ ∃ b14, ys[(14 : Nat)]? = some [u8 b14] ∧ ∃ a15, xs[(15 : Nat)]? = some [u8 a15] ∧ ∃ b15, ys[(15 : Nat)]? = some [u8 b15] ∧
  R (.d (.sl 1 (bytesR [xor8 a0 b0, xor8 a1 b1, xor8 a2 b2, xor8 a3 b3, xor8 a4 b4, xor8 a5 b5, xor8 a6 b6, xor8 a7 b7, xor8 a8 b8, xor8 a9 b9, xor8 a10 b10, xor8 a11 b11, xor8 a12 b12, xor8 a13 b13, xor8 a14 b14, xor8 a15 b15]))) b) := by kernel_rfl

theorem bytesR_at {p : List Int} {i : Nat} (h : i < p.length) : (bytesR p)[i]? = some [u8 (nth p i)] := by
  simp [bytesR, nth, List.getElem?_eq_getElem h]

theorem pc25 (p q : List Int) (hp : 16 ≤ p.length) (hq : 16 ≤ q.length) : PCall Try.prog 25 [.d (.sl 1 (bytesR p)), .d (.sl 1 (bytesR q))] (.d (.sl 1 (bytesR (xorL p q)))) := by
  refine PCall.ofFn (n := 100) (u := true) mixed CallsOk.nil SCallsOk.nil Try.func25 (by rfl) (by rfl) fun Ev b => ?_
  rw [f25_nf']
  refine ⟨_, bytesR_at (by omega), _, bytesR_at (by omega), _, bytesR_at (by omega), _, bytesR_at (by omega), _, bytesR_at (by omega), _, bytesR_at (by omega), _, bytesR_at (by omega), _, bytesR_at (by omega),
    _, bytesR_at (by omega), _, bytesR_at (by omega), _, bytesR_at (by omega), _, bytesR_at (by omega), _, bytesR_at (by omega), _, bytesR_at (by omega), _, bytesR_at (by omega), _, bytesR_at (by omega),
    _, bytesR_at (by omega), _, bytesR_at (by omega), _, bytesR_at (by omega), _, bytesR_at (by omega), _, bytesR_at (by omega), _, bytesR_at (by omega), _, bytesR_at (by omega), _, bytesR_at (by omega),
    _, bytesR_at (by omega), _, bytesR_at (by omega), _, bytesR_at (by omega), _, bytesR_at (by omega), _, bytesR_at (by omega), _, bytesR_at (by omega), _, bytesR_at (by omega), _, bytesR_at (by omega), ?_⟩
  rfl
def c25 (args : List AV) (K : AV → Prop) : Prop := ∃ (p q r : List Int), args = [.d (.sl 1 (bytesR p)), .d (.sl 1 (bytesR q))] ∧ (16 ≤ p.length ∧ 16 ≤ q.length) ∧ r = xorL p q ∧ K (.d (.sl 1 (bytesR r)))
theorem c25_ok : ∀ args K, c25 args K → ∃ x, PCall Try.prog 25 args x ∧ K x := by
  rintro _ K ⟨p, q, _, rfl, ⟨h1, h2⟩, rfl, h⟩; exact ⟨_, pc25 p q h1 h2, h⟩

/-! ### R.Valid -/
noncomputable def lp21a : Code := sub [1, 0, 1, 2, 3] (code Try.f21)
noncomputable def lp21b : Code := sub [1, 1, 0, 1, 2, 3] (code Try.f21)
noncomputable def lp21c : Code := sub [1, 1, 0, 1, 2, 3, 1, 0, 2, 1, 2, 3] (code Try.f21)
def tm21a (xs : List (List Dv)) (i : Int) : List AV := [.d (.sl 2 xs), .bad, .bad, .d (i64 i)] ++ List.replicate 64 .bad
def tm21b (xs : List (List Dv)) (i : Int) : List AV := [.d (.sl 2 xs), .bad, .bad, .bad, .d (i64 i)] ++ List.replicate 63 .bad
def tm21c (xs : List (List Dv)) (i k : Int) : List AV := [.d (.sl 2 xs), .bad, .bad, .bad, .d (i64 i), .d (i64 k)] ++ List.replicate 62 .bad

def vInner (i : Nat) (x : Row) : Nat → List Row → Bool
  | _, [] => true
  | k, r :: l => (decide (i = k) || and64 r.1 (lead x.1) == 0) && vInner i x (k + 1) l
def vOuter (l : List Row) : Nat → List Row → Bool
  | _, [] => true
  | i, x :: r => vInner i x 0 l && vOuter l (i + 1) r
def prevOk (p : Option Row) (m : Int) : Bool := match p with
  | none => true
  | some q => decide (lead m < lead q.1)
def vPrev : Option Row → List Row → Bool
  | _, [] => true
  | p, r :: l => formedS r.1 r.2 && prevOk p r.1 && vPrev (some r) l
def validR (l : List Row) : Bool := vPrev none l && vOuter l 0 l


def T21 : List (Nat × (List AV → (AV → Prop) → Prop)) := [(24, c24), (37, c37)]
theorem T21_ok : CallsOk Try.prog T21 := CallsOk.cons c24_ok (CallsOk.cons c37_ok CallsOk.nil)
section
variable {β : Type} (wl : WLT β) (y : YieldT β) (b : β) (R : AV → β → Prop) (K : Exit → List AV → List Blk → β → Prop)
theorem f21a_round (xs : List (List Dv)) (i : Int) : wpc Try.prog ⟨T21, [], wl, y, false⟩ 100 lp21a (tm21a xs i) [] b (maskK 0 [0, 2, 3] K) = (
  BIf (decide (i < (xs.length : Int))) (BIf (true && decide (0 ≤ i)) (∃ x0 xs1, xs[Int.toNat i]? = some [i64 x0, Dv.sl 1 xs1] ∧ ∃ m4 p5, [AV.agg [AV.d (i64 x0), AV.d (Dv.sl 1 xs1)]] = [rowA m4 p5] ∧
    BIf (!formedS m4 p5) (K Exit.ret ((tm21a xs i).set 2 (.d (bo false))) [] b) (BIf (decide (i > 0))
      (BIf (true && decide (0 ≤ IntKind.wrap IntKind.i64 (i - 1))) (∃ x6 xs7, xs[Int.toNat (IntKind.wrap IntKind.i64 (i - 1))]? = some [i64 x6, Dv.sl 1 xs7] ∧ ∃ m10, [AV.d (i64 x6)] = [AV.d (i64 m10)] ∧ (1 ≤ m10 ∧ m10 < 4611686018427387904) ∧
        BIf (true && decide (0 ≤ i)) (∃ x11 xs12, xs[Int.toNat i]? = some [i64 x11, Dv.sl 1 xs12] ∧ ∃ m15, [AV.d (i64 x11)] = [AV.d (i64 m15)] ∧ (1 ≤ m15 ∧ m15 < 4611686018427387904) ∧
          BIf (decide (lead m10 ≤ lead m15)) (K Exit.ret ((tm21a xs i).set 2 (.d (bo false))) [] b) (K Exit.normal (tm21a xs (IntKind.wrap IntKind.i64 (i + 1))) [] b)) False) False)
      (K Exit.normal (tm21a xs (IntKind.wrap IntKind.i64 (i + 1))) [] b))) False) (K (Exit.exit 0) (tm21a xs i) [] b)) := by kernel_rfl
theorem f21c_round (xs : List (List Dv)) (i k : Int) : wpc Try.prog ⟨T21, [], wl, y, false⟩ 100 lp21c (tm21c xs i k) [] b (maskK 0 [0, 2, 4, 5] K) = (
  BIf (decide (k < (xs.length : Int))) (BIf (i != k) (BIf (true && decide (0 ≤ k)) (∃ x0 xs1, xs[Int.toNat k]? = some [i64 x0, Dv.sl 1 xs1] ∧ BIf (true && decide (0 ≤ i)) (∃ x4 xs5, xs[Int.toNat i]? = some [i64 x4, Dv.sl 1 xs5] ∧
    ∃ m8, [AV.d (i64 x4)] = [AV.d (i64 m8)] ∧ (1 ≤ m8 ∧ m8 < 4611686018427387904) ∧ BIf (and64 x0 (lead m8) != 0) (K Exit.ret ((tm21c xs i k).set 2 (.d (bo false))) [] b) (K Exit.normal (tm21c xs i (IntKind.wrap IntKind.i64 (k + 1))) [] b)) False) False)
    (K Exit.normal (tm21c xs i (IntKind.wrap IntKind.i64 (k + 1))) [] b)) (K (Exit.exit 4) (tm21c xs i k) [] b)) := by kernel_rfl
end

/-- the first loop -/
theorem wr21a {Ev : Env Try.prog} {b : Ev.β} {Q : Exit → St Ev.β → Prop} (l : List Row) (hl : l.length ≤ 9223372036854775807) : ∀ (rest : List Row) (k : Nat) (p : Option Row), l.drop k = rest → (k = 0 ∧ p = none ∨ ∃ j q, k = j + 1 ∧ p = some q ∧ l[j]? = some q ∧ okMask q) →
    BIf (vPrev p rest) (Q (.exit 0) ⟨tm21a (rowsR l) l.length, [], b⟩) (∀ i : Int, Q .ret ⟨(tm21a (rowsR l) i).set 2 (.d (bo false)), [], b⟩) →
    k ≤ l.length → WR Ev lp21a (rest.length + 1) ⟨tm21a (rowsR l) k, [], b⟩ Q
  | [], k, p, hd, _, hQ, hk => by
    refine WR.ofMask [0, 2, 3] mixed (CX.Ok.of (u := false) T21_ok SCallsOk.nil) (k := 100) ?_
    show wpc _ _ _ _ _ _ _ (maskK 0 _ _)
    rw [f21a_round]
    have := drop_nil hd
    have e : k = l.length := by omega
    subst e
    exact BIf.f (by simp [rowsR]) hQ
  | (m, s) :: rest, k, p, hd, hp, hQ, hk => by
    refine WR.ofMask [0, 2, 3] mixed (CX.Ok.of (u := false) T21_ok SCallsOk.nil) (k := 100) ?_
    show wpc _ _ _ _ _ _ _ (maskK 0 _ _)
    rw [f21a_round]
    obtain ⟨hk, hr, hd'⟩ := drop_cons hd
    have g1 : (rowsR l)[Int.toNat k]? = some [i64 m, .sl 1 (bytesR s)] := by simp [rowsR, hr, rowD]
    refine BIf.t (by simpa [rowsR] using hk) (BIf.t (by simp) ⟨_, _, g1, m, s, rfl, BIf.of (fun hf => ?_) fun hf => ?_⟩)
    · have hf : formedS m s = false := by simpa using hf
      exact bif_f hQ (by simp [vPrev, hf]) k
    · have hf : formedS m s = true := by simpa using hf
      have hok : okMask (m, s) := by
        simp only [formedS, Bool.and_eq_true, decide_eq_true_eq] at hf
        exact ⟨hf.1, hf.2.1⟩
      have hgo : prevOk p m = true → WR Ev lp21a (rest.length + 1) ⟨tm21a (rowsR l) (IntKind.wrap .i64 ((k : Int) + 1)), [], b⟩ Q := by
        intro h1
        rw [wrap_succ hk hl]
        refine wr21a l hl rest (k + 1) (some (m, s)) hd' (.inr ⟨k, _, rfl, rfl, hr, hok⟩) ?_ hk
        have e : vPrev p ((m, s) :: rest) = vPrev (some (m, s)) rest := by simp only [vPrev, hf, h1, Bool.true_and]
        rw [e] at hQ; exact hQ
      rcases hp with ⟨rfl, rfl⟩ | ⟨j, q, rfl, rfl, hj, hq⟩
      · exact BIf.f (by simp) (hgo rfl)
      · have e : IntKind.wrap .i64 (((j + 1 : Nat) : Int) - 1) = (j : Int) := by rw [wrap_i64 (by omega) (by omega)]; omega
        rw [e]
        have g2 : (rowsR l)[Int.toNat j]? = some [i64 q.1, .sl 1 (bytesR q.2)] := by simp [rowsR, hj, rowD]
        refine BIf.t (by simp) (BIf.t (by simp) ⟨_, _, g2, q.1, rfl, ⟨hq.1, by have := hq.2; omega⟩, BIf.t (by simp; omega) ⟨_, _, g1, m, rfl, ⟨hok.1, by have := hok.2; simp only at this; omega⟩, BIf.of (fun hc => ?_) fun hc => ?_⟩⟩)
        · have hc : lead q.1 ≤ lead m := by simpa using hc
          refine bif_f hQ ?_ _
          simp only [vPrev, prevOk]
          rw [decide_eq_false (by omega)]; simp
        · have hc : lead m < lead q.1 := by simpa using hc
          exact hgo (by simpa [prevOk] using hc)

/-- the inner loop of the second one -/
theorem wr21c {Ev : Env Try.prog} {b : Ev.β} {Q : Exit → St Ev.β → Prop} (l : List Row) (hl : l.length ≤ 9223372036854775807) (i : Nat) (x : Row) (hx : l[i]? = some x) (hok : okMask x) : ∀ (rest : List Row) (k : Nat), l.drop k = rest →
    BIf (vInner i x k rest) (Q (.exit 4) ⟨tm21c (rowsR l) i l.length, [], b⟩) (∀ k : Int, Q .ret ⟨(tm21c (rowsR l) i k).set 2 (.d (bo false)), [], b⟩) →
    k ≤ l.length → WR Ev lp21c (rest.length + 1) ⟨tm21c (rowsR l) i k, [], b⟩ Q
  | [], k, hd, hQ, hk => by
    refine WR.ofMask [0, 2, 4, 5] mixed (CX.Ok.of (u := false) T21_ok SCallsOk.nil) (k := 100) ?_
    show wpc _ _ _ _ _ _ _ (maskK 0 _ _)
    rw [f21c_round]
    have := drop_nil hd
    have e : k = l.length := by omega
    subst e
    exact BIf.f (by simp [rowsR]) hQ
  | r :: rest, k, hd, hQ, hk => by
    refine WR.ofMask [0, 2, 4, 5] mixed (CX.Ok.of (u := false) T21_ok SCallsOk.nil) (k := 100) ?_
    show wpc _ _ _ _ _ _ _ (maskK 0 _ _)
    rw [f21c_round]
    obtain ⟨hk, hr, hd'⟩ := drop_cons hd
    have g1 : (rowsR l)[Int.toNat k]? = some [i64 r.1, .sl 1 (bytesR r.2)] := by simp [rowsR, hr, rowD]
    have g2 : (rowsR l)[Int.toNat i]? = some [i64 x.1, .sl 1 (bytesR x.2)] := by simp [rowsR, hx, rowD]
    have hgo : (decide (i = k) || and64 r.1 (lead x.1) == 0) = true → WR Ev lp21c (rest.length + 1) ⟨tm21c (rowsR l) i (IntKind.wrap .i64 ((k : Int) + 1)), [], b⟩ Q := by
      intro h
      rw [wrap_succ hk hl]
      refine wr21c l hl i x hx hok rest (k + 1) hd' ?_ hk
      have e : vInner i x k (r :: rest) = vInner i x (k + 1) rest := by simp only [vInner, h, Bool.true_and]
      rw [e] at hQ; exact hQ
    refine BIf.t (by simpa [rowsR] using hk) (BIf.of (fun hne => ?_) fun hne => ?_)
    · have hne : ¬ i = k := by simp [bne] at hne; omega
      refine BIf.t (by simp) ⟨_, _, g1, BIf.t (by simp) ⟨_, _, g2, x.1, rfl, ⟨hok.1, by have := hok.2; omega⟩, BIf.of (fun hc => ?_) fun hc => ?_⟩⟩
      · refine bif_f hQ ?_ _
        have : (and64 r.1 (lead x.1) == 0) = false := by simpa [bne] using hc
        simp only [vInner, this, hne, decide_false, Bool.or_false, Bool.false_and]
      · have : (and64 r.1 (lead x.1) == 0) = true := by simpa [bne] using hc
        exact hgo (by rw [this]; simp)
    · have hne : i = k := by simp [bne] at hne; omega
      exact hgo (by simp [hne])

def wl21c {β : Type} : WLT β := fun c tm hp b K => ∃ (l : List Row) (i : Nat) (x : Row), c = .loop lp21c ∧ maskTm [0, 4, 5] 0 tm = tm21c (rowsR l) i 0 ∧ hp = [] ∧ (l.length ≤ 9223372036854775807 ∧ l[i]? = some x ∧ okMask x) ∧
  BIf (vInner i x 0 l) (K (.exit 4) (tm21c (rowsR l) i l.length) [] b) (∀ k : Int, K .ret ((tm21c (rowsR l) i k).set 2 (.d (bo false))) [] b)
theorem wl21c_ok {Ev : Env Try.prog} (c : Code) (tm : List AV) (hp : List Blk) (b : Ev.β) (K : Exit → List AV → List Blk → Ev.β → Prop) (h : wl21c c tm hp b K) : W Ev c ⟨tm, hp, b⟩ (fun e s => K e s.tm s.hp s.b) := by
  obtain ⟨l, i, x, rfl, htm, rfl, ⟨h0, h1, h2⟩, hK⟩ := h
  refine W.cast (htm ▸ maskTm_le _ tm 0) (LeH.refl _) ?_
  exact W.rounds (wr21c (Q := fun e s => K e s.tm s.hp s.b) l h0 i x h1 h2 l 0 rfl hK (Nat.zero_le _))

section
variable {β : Type} (wl : WLT β) (y : YieldT β) (b : β) (R : AV → β → Prop) (K : Exit → List AV → List Blk → β → Prop)
theorem f21b_round (xs : List (List Dv)) (i : Int) : wpc Try.prog ⟨T21, [], wl21c, y, false⟩ 100 lp21b (tm21b xs i) [] b (maskK 0 [0, 2, 4] K) = (
  BIf (decide (i < (xs.length : Int))) (∃ (l : List Row) (i' : Nat) (x : Row), Code.loop lp21c = Code.loop lp21c ∧ tm21c xs i 0 = tm21c (rowsR l) i' 0 ∧ ([] : List Blk) = [] ∧ (l.length ≤ 9223372036854775807 ∧ l[i']? = some x ∧ okMask x) ∧
    BIf (vInner i' x 0 l) (K .normal (tm21b (rowsR l) (IntKind.wrap .i64 (i' + 1))) [] b) (∀ k : Int, K .ret ((tm21b (rowsR l) i').set 2 (.d (bo false))) [] b)) (K (Exit.exit 2) (tm21b xs i) [] b)) := by kernel_rfl
end

theorem wr21b {Ev : Env Try.prog} {b : Ev.β} {Q : Exit → St Ev.β → Prop} (l : List Row) (hl : l.length ≤ 9223372036854775807) (hok : ∀ r ∈ l, okMask r) : ∀ (rest : List Row) (k : Nat), l.drop k = rest →
    BIf (vOuter l k rest) (Q (.exit 2) ⟨tm21b (rowsR l) l.length, [], b⟩) (∀ i : Int, Q .ret ⟨(tm21b (rowsR l) i).set 2 (.d (bo false)), [], b⟩) →
    k ≤ l.length → WR Ev lp21b (rest.length + 1) ⟨tm21b (rowsR l) k, [], b⟩ Q
  | [], k, hd, hQ, hk => by
    refine WR.ofMask [0, 2, 4] mixed (CX.Ok.ofWl (u := false) T21_ok SCallsOk.nil wl21c_ok) (k := 100) ?_
    show wpc _ _ _ _ _ _ _ (maskK 0 _ _)
    rw [f21b_round]
    have := drop_nil hd
    have e : k = l.length := by omega
    subst e
    exact BIf.f (by simp [rowsR]) hQ
  | x :: rest, k, hd, hQ, hk => by
    refine WR.ofMask [0, 2, 4] mixed (CX.Ok.ofWl (u := false) T21_ok SCallsOk.nil wl21c_ok) (k := 100) ?_
    show wpc _ _ _ _ _ _ _ (maskK 0 _ _)
    rw [f21b_round]
    obtain ⟨hk, hr, hd'⟩ := drop_cons hd
    refine BIf.t (by simpa [rowsR] using hk) ⟨l, k, x, rfl, rfl, rfl, ⟨hl, hr, hok x (List.mem_of_getElem? hr)⟩, BIf.of (fun hc => ?_) fun hc _ => ?_⟩
    · rw [wrap_succ hk hl]
      refine wr21b l hl hok rest (k + 1) hd' ?_ hk
      have e : vOuter l k (x :: rest) = vOuter l (k + 1) rest := by simp only [vOuter, hc, Bool.true_and]
      rw [e] at hQ; exact hQ
    · exact bif_f hQ (by simp only [vOuter, hc, Bool.false_and]) _

theorem vPrev_ok : ∀ {l : List Row} {p : Option Row}, vPrev p l = true → ∀ r ∈ l, okMask r
  | [], _, _, r, hr => by cases hr
  | r0 :: l, p, h, r, hr => by
    simp only [vPrev, Bool.and_eq_true] at h
    rcases List.mem_cons.1 hr with rfl | hr
    · have := h.1.1
      simp only [formedS, Bool.and_eq_true, decide_eq_true_eq] at this
      exact ⟨this.1, this.2.1⟩
    · exact vPrev_ok h.2 r hr

def wl21 {β : Type} : WLT β := fun c tm hp b K => match cidO c with
  | 3 => ∃ (l : List Row), c = .loop lp21a ∧ maskTm [0, 3] 0 tm = tm21a (rowsR l) 0 ∧ hp = [] ∧ l.length ≤ 9223372036854775807 ∧
    BIf (vPrev none l) (K (.exit 0) (tm21a (rowsR l) l.length) [] b) (∀ i : Int, K .ret ((tm21a (rowsR l) i).set 2 (.d (bo false))) [] b)
  | 8 => ∃ (l : List Row), c = .loop lp21b ∧ maskTm [0, 4] 0 tm = tm21b (rowsR l) 0 ∧ hp = [] ∧ (l.length ≤ 9223372036854775807 ∧ ∀ r ∈ l, okMask r) ∧
    BIf (vOuter l 0 l) (K (.exit 2) (tm21b (rowsR l) l.length) [] b) (∀ i : Int, K .ret ((tm21b (rowsR l) i).set 2 (.d (bo false))) [] b)
  | _ => False
theorem wl21_ok {Ev : Env Try.prog} (c : Code) (tm : List AV) (hp : List Blk) (b : Ev.β) (K : Exit → List AV → List Blk → Ev.β → Prop) (h : wl21 c tm hp b K) : W Ev c ⟨tm, hp, b⟩ (fun e s => K e s.tm s.hp s.b) := by
  unfold wl21 at h
  split at h
  · obtain ⟨l, rfl, htm, rfl, h0, hK⟩ := h
    refine W.cast (htm ▸ maskTm_le _ tm 0) (LeH.refl _) ?_
    exact W.rounds (wr21a (Q := fun e s => K e s.tm s.hp s.b) l h0 l 0 none rfl (.inl ⟨rfl, rfl⟩) hK (Nat.zero_le _))
  · obtain ⟨l, rfl, htm, rfl, ⟨h0, h1⟩, hK⟩ := h
    refine W.cast (htm ▸ maskTm_le _ tm 0) (LeH.refl _) ?_
    exact W.rounds (wr21b (Q := fun e s => K e s.tm s.hp s.b) l h0 h1 l 0 rfl hK (Nat.zero_le _))
  · exact h.elim
section
variable {β : Type} (wl : WLT β) (y : YieldT β) (b : β) (R : AV → β → Prop)
theorem f21_nf (xs : List (List Dv)) : wpFn Try.prog ⟨T21, [], wl21, y, false⟩ 100 Try.f21 [.d (.sl 2 xs)] b R = (
  ∃ l : List Row, Code.loop lp21a = Code.loop lp21a ∧ tm21a xs 0 = tm21a (rowsR l) 0 ∧ ([] : List Blk) = [] ∧ l.length ≤ 9223372036854775807 ∧
    BIf (vPrev none l) (∃ l' : List Row, Code.loop lp21b = Code.loop lp21b ∧ tm21b (rowsR l) 0 = tm21b (rowsR l') 0 ∧ ([] : List Blk) = [] ∧ (l'.length ≤ 9223372036854775807 ∧ ∀ r ∈ l', okMask r) ∧
      BIf (vOuter l' 0 l') (R (.d (bo true)) b) (∀ i : Int, R (.d (bo false)) b)) (∀ i : Int, R (.d (bo false)) b)) := by kernel_rfl
end
theorem pc21 (l : List Row) (hl : l.length ≤ 9223372036854775807) : PCall Try.prog 21 [.d (.sl 2 (rowsR l))] (.d (bo (validR l))) := by
  refine PCall.ofFnW (n := 100) (u := false) (fun _ => wl21) mixed T21_ok SCallsOk.nil (fun Ev => wl21_ok) Try.func21 (by rfl) (by rfl) fun Ev bb => ?_
  rw [f21_nf]
  refine ⟨l, rfl, rfl, rfl, hl, BIf.of (fun ha => ⟨l, rfl, rfl, rfl, ⟨hl, vPrev_ok ha⟩, BIf.of (fun hb => ?_) fun hb _ => ?_⟩) fun ha _ => ?_⟩
  · rw [show validR l = true by simp only [validR, ha, hb]; rfl]
  · rw [show validR l = false by simp only [validR, ha, hb]; rfl]
  · rw [show validR l = false by simp only [validR, ha]; rfl]
def c21 (args : List AV) (K : AV → Prop) : Prop := ∃ (l : List Row), args = [.d (.sl 2 (rowsR l))] ∧ l.length ≤ 9223372036854775807 ∧ K (.d (bo (validR l)))
theorem c21_ok : ∀ args K, c21 args K → ∃ x, PCall Try.prog 21 args x ∧ K x := by
  rintro _ K ⟨l, rfl, h1, h⟩; exact ⟨_, pc21 l h1, h⟩
end Go.Proofs.Ytgdeoaiakdkhcaa.Am
