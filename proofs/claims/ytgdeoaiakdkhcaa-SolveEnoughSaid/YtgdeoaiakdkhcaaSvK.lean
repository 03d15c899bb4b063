import Derived.Test.YtgdeoaiakdkhcaaSvJ
namespace Go.Proofs.Ytgdeoaiakdkhcaa.Am
set_option linter.unusedVariables false
open Go Go.RowKit Go.Proofs

theorem drop_cons {α : Type} {l rest : List α} {r : α} {k : Nat} (hd : l.drop k = r :: rest) : k < l.length ∧ l[k]? = some r ∧ l.drop (k + 1) = rest := by
  refine ⟨?_, ?_, ?_⟩
  · rcases Nat.lt_or_ge k l.length with h | h
    · exact h
    · rw [List.drop_eq_nil_of_le h] at hd; cases hd
  · have := congrArg (fun x => x[0]?) hd
    simpa using this
  · have := congrArg List.tail hd
    simpa using this
theorem drop_nil {α : Type} {l : List α} {k : Nat} (hd : l.drop k = []) : l.length ≤ k := List.drop_eq_nil_iff.1 hd
theorem wrap_succ {n k : Nat} (h : k < n) (hn : n ≤ 9223372036854775807) : IntKind.wrap .i64 ((k : Int) + 1) = ((k + 1 : Nat) : Int) := by
  rw [wrap_i64 (by omega) (by omega)]; simp

theorem bif_f {t : Bool} {A B : Prop} (h : BIf t A B) (ht : t = false) : B := by subst ht; exact h
theorem bif_t {t : Bool} {A B : Prop} (h : BIf t A B) (ht : t = true) : A := by subst ht; exact h

/-! ### Leading -/
theorem wr37 {Ev : Env Try.prog} {b : Ev.β} {Q : Exit → St Ev.β → Prop} (m : Int) (h0 : 1 ≤ m) (h1 : m < 4611686018427387904) (hQ : Q (.exit 0) ⟨tm37 m (lead m), [], b⟩) : ∀ (n j : Nat), j + n = m.toNat.log2 →
    WR Ev lp37 (n + 1) ⟨tm37 m ((2 ^ j : Nat) : Int), [], b⟩ Q := by
  intro n
  have hn : m.toNat ≠ 0 := by omega
  obtain ⟨b1, b2⟩ := log2_bounds hn
  have hl : m.toNat.log2 < 62 := (Nat.log2_lt hn).2 (by omega)
  induction n with
  | zero =>
    intro j hj
    refine WR.ofMask [0, 3] mixed (CX.Ok.of (u := false) CallsOk.nil SCallsOk.nil) (k := 100) ?_
    show wpc _ _ _ _ _ _ _ (maskK 0 _ _)
    rw [f37_round]
    have hj' : j = m.toNat.log2 := by omega
    subst hj'
    rw [Nat.pow_succ] at b2
    generalize hz : 2 ^ m.toNat.log2 = z at b1 b2
    rw [wrap_i64 (by omega) (by omega)]
    refine BIf.f (by simp; omega) ?_
    have : ((z : Nat) : Int) = lead m := by unfold lead; rw [hz]
    rw [this]; exact hQ
  | succ n ih =>
    intro j hj
    refine WR.ofMask [0, 3] mixed (CX.Ok.of (u := false) CallsOk.nil SCallsOk.nil) (k := 100) ?_
    show wpc _ _ _ _ _ _ _ (maskK 0 _ _)
    rw [f37_round]
    have hle : 2 ^ (j + 1) ≤ 2 ^ m.toNat.log2 := Nat.pow_le_pow_right (by omega) (by omega)
    have e : ((2 ^ j : Nat) : Int) * 2 = ((2 ^ (j + 1) : Nat) : Int) := by rw [Nat.pow_succ]; simp
    rw [e]
    have hz := ih (j + 1) (by omega)
    generalize 2 ^ (j + 1) = z at hle hz
    rw [wrap_i64 (by omega) (by omega)]
    exact BIf.t (by simp; omega) hz

def wl37 {β : Type} : WLT β := fun c tm hp b K => ∃ (m : Int), c = .loop lp37 ∧ maskTm [0, 3] 0 tm = tm37 m 1 ∧ hp = [] ∧ (1 ≤ m ∧ m < 4611686018427387904) ∧ K (.exit 0) (tm37 m (lead m)) [] b
theorem wl37_ok {Ev : Env Try.prog} (c : Code) (tm : List AV) (hp : List Blk) (b : Ev.β) (K : Exit → List AV → List Blk → Ev.β → Prop) (h : wl37 c tm hp b K) : W Ev c ⟨tm, hp, b⟩ (fun e s => K e s.tm s.hp s.b) := by
  obtain ⟨m, rfl, htm, rfl, ⟨h0, h1⟩, hK⟩ := h
  refine W.cast (htm ▸ maskTm_le _ tm 0) (LeH.refl _) ?_
  exact W.rounds (wr37 m h0 h1 (Q := fun e s => K e s.tm s.hp s.b) hK m.toNat.log2 0 (by omega))
section
variable {β : Type} (wl : WLT β) (y : YieldT β) (b : β) (R : AV → β → Prop)
theorem f37_nf (m : Int) : wpFn Try.prog ⟨[], [], wl37, y, false⟩ 100 Try.f37 [.d (i64 m)] b R = (
  ∃ m0 : Int, Code.loop lp37 = Code.loop lp37 ∧ tm37 m 1 = tm37 m0 1 ∧ ([] : List Blk) = [] ∧ ((1 : Int) ≤ m0 ∧ m0 < (4611686018427387904 : Int)) ∧ R (AV.d (i64 (lead m0))) b) := by kernel_rfl
end
theorem pc37 (m : Int) (h0 : 1 ≤ m) (h1 : m < 4611686018427387904) : PCall Try.prog 37 [.d (i64 m)] (.d (i64 (lead m))) := by
  refine PCall.ofFnW (n := 100) (u := false) (fun _ => wl37) mixed CallsOk.nil SCallsOk.nil (fun Ev => wl37_ok) Try.func37 (by rfl) (by rfl) fun Ev bb => ?_
  rw [f37_nf]
  exact ⟨m, rfl, rfl, rfl, ⟨h0, h1⟩, rfl⟩
def c37 (args : List AV) (K : AV → Prop) : Prop := ∃ (m : Int), args = [.d (i64 m)] ∧ (1 ≤ m ∧ m < 4611686018427387904) ∧ K (.d (i64 (lead m)))
theorem c37_ok : ∀ args K, c37 args K → ∃ x, PCall Try.prog 37 args x ∧ K x := by
  rintro _ K ⟨m, rfl, ⟨h0, h1⟩, h⟩; exact ⟨_, pc37 m h0 h1, h⟩

/-! ### Few -/
def fewS (l : List Row) : Bool := (l.all fun r => decide (r.2.length ≤ 100)) && decide (l.length ≤ 40)
def wl11 {β : Type} : WLT β := fun c tm hp b K => ∃ (l : List Row), c = .loop lp11 ∧ maskTm [0, 3] 0 tm = tm11 (rowsR l) 0 ∧ hp = [] ∧ l.length ≤ 9223372036854775807 ∧
  BIf (l.all fun r => decide (r.2.length ≤ 100)) (K (.exit 0) (tm11 (rowsR l) l.length) [] b) (∀ i : Int, K .ret ((tm11 (rowsR l) i).set 2 (.d (bo false))) [] b)
theorem wr11 {Ev : Env Try.prog} {b : Ev.β} {Q : Exit → St Ev.β → Prop} (l : List Row) (hl : l.length ≤ 9223372036854775807) : ∀ (rest : List Row) (k : Nat), l.drop k = rest →
    BIf (rest.all fun r => decide (r.2.length ≤ 100)) (Q (.exit 0) ⟨tm11 (rowsR l) l.length, [], b⟩) (∀ i : Int, Q .ret ⟨(tm11 (rowsR l) i).set 2 (.d (bo false)), [], b⟩) →
    k ≤ l.length → WR Ev lp11 (rest.length + 1) ⟨tm11 (rowsR l) k, [], b⟩ Q
  | [], k, hd, hQ, hk => by
    refine WR.ofMask [0, 2, 3] mixed (CX.Ok.of (u := false) CallsOk.nil SCallsOk.nil) (k := 100) ?_
    show wpc _ _ _ _ _ _ _ (maskK 0 _ _)
    rw [f11_round]
    have := drop_nil hd
    have e : k = l.length := by omega
    subst e
    exact BIf.f (by simp [rowsR]) hQ
  | r :: rest, k, hd, hQ, hk => by
    refine WR.ofMask [0, 2, 3] mixed (CX.Ok.of (u := false) CallsOk.nil SCallsOk.nil) (k := 100) ?_
    show wpc _ _ _ _ _ _ _ (maskK 0 _ _)
    rw [f11_round]
    obtain ⟨hk, hr, hd'⟩ := drop_cons hd
    refine BIf.t (by simpa [rowsR] using hk) (BIf.t (by simp) ⟨r.1, bytesR r.2, by simp [rowsR, hr, rowD], BIf.of (fun h => ?_) fun h => ?_⟩)
    · have h : 100 < r.2.length := by simp [bytesR] at h; omega
      refine bif_f hQ ?_ k
      simp only [List.all_cons, Bool.and_eq_false_iff, decide_eq_false_iff_not]
      exact .inl (by omega)
    · have h : r.2.length ≤ 100 := by simp [bytesR] at h; omega
      rw [wrap_succ hk hl]
      refine wr11 l hl rest (k + 1) hd' ?_ hk
      simpa only [List.all_cons, h, decide_true, Bool.true_and] using hQ
theorem wl11_ok {Ev : Env Try.prog} (c : Code) (tm : List AV) (hp : List Blk) (b : Ev.β) (K : Exit → List AV → List Blk → Ev.β → Prop) (h : wl11 c tm hp b K) : W Ev c ⟨tm, hp, b⟩ (fun e s => K e s.tm s.hp s.b) := by
  obtain ⟨l, rfl, htm, rfl, h0, hK⟩ := h
  refine W.cast (htm ▸ maskTm_le _ tm 0) (LeH.refl _) ?_
  exact W.rounds (wr11 (Q := fun e s => K e s.tm s.hp s.b) l h0 l 0 rfl hK (Nat.zero_le _))
section
variable {β : Type} (wl : WLT β) (y : YieldT β) (b : β) (R : AV → β → Prop)
theorem f11_nf (xs : List (List Dv)) : wpFn Try.prog ⟨[], [], wl11, y, false⟩ 100 Try.f11 [.d (.sl 2 xs)] b R = (
  ∃ l : List Row, Code.loop lp11 = Code.loop lp11 ∧ tm11 xs 0 = tm11 (rowsR l) 0 ∧ ([] : List Blk) = [] ∧ l.length ≤ (9223372036854775807 : Nat) ∧
    BIf (l.all fun r => decide (r.2.length ≤ 100)) (R (AV.d (bo (decide ((((rowsR l).length : Nat) : Int) ≤ (40 : Int))))) b) (∀ (i : Int), R (AV.d (bo false)) b)) := by kernel_rfl
end
theorem pc11 (l : List Row) (hl : l.length ≤ 9223372036854775807) : PCall Try.prog 11 [.d (.sl 2 (rowsR l))] (.d (bo (fewS l))) := by
  refine PCall.ofFnW (n := 100) (u := false) (fun _ => wl11) mixed CallsOk.nil SCallsOk.nil (fun Ev => wl11_ok) Try.func11 (by rfl) (by rfl) fun Ev bb => ?_
  rw [f11_nf]
  refine ⟨l, rfl, rfl, rfl, hl, BIf.of (fun h => ?_) fun h _ => ?_⟩
  · simp only [fewS, h, Bool.true_and]
    congr 3
    simp [rowsR]; omega
  · simp only [fewS, h, Bool.false_and]
def c11 (args : List AV) (K : AV → Prop) : Prop := ∃ (l : List Row), args = [.d (.sl 2 (rowsR l))] ∧ l.length ≤ 9223372036854775807 ∧ K (.d (bo (fewS l)))
theorem c11_ok : ∀ args K, c11 args K → ∃ x, PCall Try.prog 11 args x ∧ K x := by
  rintro _ K ⟨l, rfl, h1, h⟩; exact ⟨_, pc11 l h1, h⟩

/-! ### Bytes -/
def wl19 {β : Type} : WLT β := fun c tm hp b K => ∃ (p q : List Int), c = .loop lp19 ∧ maskTm [0, 1, 5] 0 tm = tm19 (bytesR p) (bytesR q) 0 ∧ hp = [] ∧ (p.length ≤ 9223372036854775807 ∧ p.length = q.length) ∧
  BIf (p == q) (K (.exit 0) (tm19 (bytesR p) (bytesR q) p.length) [] b) (∀ i : Int, K .ret ((tm19 (bytesR p) (bytesR q) i).set 4 (.d (bo false))) [] b)
theorem wr19 {Ev : Env Try.prog} {b : Ev.β} {Q : Exit → St Ev.β → Prop} (p q : List Int) (hl : p.length ≤ 9223372036854775807) : ∀ (u v : List Int) (k : Nat), p.drop k = u → q.drop k = v → u.length = v.length →
    BIf (u == v) (Q (.exit 0) ⟨tm19 (bytesR p) (bytesR q) p.length, [], b⟩) (∀ i : Int, Q .ret ⟨(tm19 (bytesR p) (bytesR q) i).set 4 (.d (bo false)), [], b⟩) →
    k ≤ p.length → WR Ev lp19 (u.length + 1) ⟨tm19 (bytesR p) (bytesR q) k, [], b⟩ Q
  | [], [], k, hd, _, _, hQ, hk => by
    refine WR.ofMask [0, 1, 4, 5] mixed (CX.Ok.of (u := false) CallsOk.nil SCallsOk.nil) (k := 100) ?_
    show wpc _ _ _ _ _ _ _ (maskK 0 _ _)
    rw [f19_round]
    have := drop_nil hd
    have e : k = p.length := by omega
    subst e
    exact BIf.f (by simp [bytesR]) hQ
  | x :: u, y :: v, k, hd, hd2, hle, hQ, hk => by
    refine WR.ofMask [0, 1, 4, 5] mixed (CX.Ok.of (u := false) CallsOk.nil SCallsOk.nil) (k := 100) ?_
    show wpc _ _ _ _ _ _ _ (maskK 0 _ _)
    rw [f19_round]
    obtain ⟨hk, hr, hd'⟩ := drop_cons hd
    obtain ⟨_, hr2, hd2'⟩ := drop_cons hd2
    refine BIf.t (by simpa [bytesR] using hk) (BIf.t (by simp) ⟨x, by simp [bytesR, hr], BIf.t (by simp) ⟨y, by simp [bytesR, hr2], BIf.of (fun h => ?_) fun h => ?_⟩⟩)
    · have h : x ≠ y := by simpa [bne] using h
      exact bif_f hQ (by simp [h]) k
    · have h : x = y := by simpa [bne] using h
      rw [wrap_succ hk hl]
      refine wr19 p q hl u v (k + 1) hd' hd2' (by simpa using hle) ?_ hk
      subst h
      have e : (x :: u == x :: v) = (u == v) := by simp
      rw [e] at hQ; exact hQ
theorem wl19_ok {Ev : Env Try.prog} (c : Code) (tm : List AV) (hp : List Blk) (b : Ev.β) (K : Exit → List AV → List Blk → Ev.β → Prop) (h : wl19 c tm hp b K) : W Ev c ⟨tm, hp, b⟩ (fun e s => K e s.tm s.hp s.b) := by
  obtain ⟨p, q, rfl, htm, rfl, ⟨h0, h1⟩, hK⟩ := h
  refine W.cast (htm ▸ maskTm_le _ tm 0) (LeH.refl _) ?_
  exact W.rounds (wr19 (Q := fun e s => K e s.tm s.hp s.b) p q h0 p q 0 rfl rfl h1 hK (Nat.zero_le _))
section
variable {β : Type} (wl : WLT β) (y : YieldT β) (b : β) (R : AV → β → Prop)
theorem f19_nf (xs ys : List (List Dv)) : wpFn Try.prog ⟨[], [], wl19, y, false⟩ 100 Try.f19 [.d (.sl 1 xs), .d (.sl 1 ys)] b R = (
  BIf ((xs.length : Int) != (ys.length : Int)) (R (AV.d (bo false)) b)
  (∃ p q : List Int, Code.loop lp19 = Code.loop lp19 ∧ tm19 xs ys 0 = tm19 (bytesR p) (bytesR q) 0 ∧ ([] : List Blk) = [] ∧ (p.length ≤ (9223372036854775807 : Nat) ∧ p.length = q.length) ∧
    BIf (p == q) (R (AV.d (bo true)) b) (∀ (i : Int), R (AV.d (bo false)) b))) := by kernel_rfl
end
theorem pc19 (p q : List Int) (hl : p.length ≤ 9223372036854775807) : PCall Try.prog 19 [.d (.sl 1 (bytesR p)), .d (.sl 1 (bytesR q))] (.d (bo (p == q))) := by
  refine PCall.ofFnW (n := 100) (u := false) (fun _ => wl19) mixed CallsOk.nil SCallsOk.nil (fun Ev => wl19_ok) Try.func19 (by rfl) (by rfl) fun Ev bb => ?_
  rw [f19_nf]
  refine BIf.of (fun h => ?_) fun h => ⟨p, q, rfl, rfl, rfl, ⟨hl, ?_⟩, BIf.of (fun h => ?_) fun h _ => ?_⟩
  · have : (p == q) = false := by
      simp [bytesR] at h
      simp only [beq_eq_false_iff_ne]
      rintro rfl; exact h rfl
    rw [this]
  · simp [bytesR] at h; omega
  · rw [h]
  · rw [h]
def c19 (args : List AV) (K : AV → Prop) : Prop := ∃ (p q : List Int) (r : Bool), args = [.d (.sl 1 (bytesR p)), .d (.sl 1 (bytesR q))] ∧ p.length ≤ 9223372036854775807 ∧ r = (p == q) ∧ K (.d (bo r))
theorem c19_ok : ∀ args K, c19 args K → ∃ x, PCall Try.prog 19 args x ∧ K x := by
  rintro _ K ⟨p, q, _, rfl, h0, rfl, h⟩; exact ⟨_, pc19 p q h0, h⟩

/-! ### Same -/
section
variable {β : Type} (wl : WLT β) (y : YieldT β) (b : β) (R : AV → β → Prop) (K : Exit → List AV → List Blk → β → Prop)
theorem f18_round' (xs ys : List (List Dv)) (i : Int) : wpc Try.prog ⟨[(19, c19)], [], wl, y, false⟩ 100 lp18 (tm18 xs ys i) [] b (maskK 0 [0, 1, 4, 5] K) = (
  BIf (decide (i < (xs.length : Int))) (BIf (true && decide ((0 : Int) ≤ i))
    (∃ x0 xs1, xs[Int.toNat i]? = some [i64 x0, Dv.sl (1 : Nat) xs1] ∧ BIf (true && decide ((0 : Int) ≤ i))
      (∃ x4 xs5, ys[Int.toNat i]? = some [i64 x4, Dv.sl (1 : Nat) xs5] ∧ BIf (x0 != x4) (K Exit.ret ((tm18 xs ys i).set 4 (.d (bo false))) [] b)
        (BIf (true && decide ((0 : Int) ≤ i)) (∃ x8 xs9, xs[Int.toNat i]? = some [i64 x8, Dv.sl (1 : Nat) xs9] ∧ BIf (true && decide ((0 : Int) ≤ i))
          (∃ x12 xs13, ys[Int.toNat i]? = some [i64 x12, Dv.sl (1 : Nat) xs13] ∧ ∃ (p q : List Int) (r : Bool), [AV.d (Dv.sl 1 xs9), AV.d (Dv.sl 1 xs13)] = [AV.d (Dv.sl 1 (bytesR p)), AV.d (Dv.sl 1 (bytesR q))] ∧ p.length ≤ 9223372036854775807 ∧ r = (p == q) ∧
            BIf (!r) (K Exit.ret ((tm18 xs ys i).set 4 (.d (bo false))) [] b) (K Exit.normal (tm18 xs ys (IntKind.wrap IntKind.i64 (i + (1 : Int)))) [] b)) False) False)) False) False)
  (K (Exit.exit (0 : Nat)) (tm18 xs ys i) [] b)) := by kernel_rfl
end
def wl18 {β : Type} : WLT β := fun c tm hp b K => ∃ (p q : List Row), c = .loop lp18 ∧ maskTm [0, 1, 5] 0 tm = tm18 (rowsR p) (rowsR q) 0 ∧ hp = [] ∧ (p.length ≤ 9223372036854775807 ∧ p.length = q.length ∧ ∀ r ∈ p, r.2.length ≤ 9223372036854775807) ∧
  BIf (p == q) (K (.exit 0) (tm18 (rowsR p) (rowsR q) p.length) [] b) (∀ i : Int, K .ret ((tm18 (rowsR p) (rowsR q) i).set 4 (.d (bo false))) [] b)
theorem wr18 {Ev : Env Try.prog} {b : Ev.β} {Q : Exit → St Ev.β → Prop} (p q : List Row) (hl : p.length ≤ 9223372036854775807) : ∀ (u v : List Row) (k : Nat), p.drop k = u → q.drop k = v → u.length = v.length → (∀ r ∈ u, r.2.length ≤ 9223372036854775807) →
    BIf (u == v) (Q (.exit 0) ⟨tm18 (rowsR p) (rowsR q) p.length, [], b⟩) (∀ i : Int, Q .ret ⟨(tm18 (rowsR p) (rowsR q) i).set 4 (.d (bo false)), [], b⟩) →
    k ≤ p.length → WR Ev lp18 (u.length + 1) ⟨tm18 (rowsR p) (rowsR q) k, [], b⟩ Q
  | [], [], k, hd, _, _, _, hQ, hk => by
    refine WR.ofMask [0, 1, 4, 5] mixed (CX.Ok.of (u := false) (CallsOk.cons c19_ok CallsOk.nil) SCallsOk.nil) (k := 100) ?_
    show wpc _ _ _ _ _ _ _ (maskK 0 _ _)
    rw [f18_round']
    have := drop_nil hd
    have e : k = p.length := by omega
    subst e
    exact BIf.f (by simp [rowsR]) hQ
  | (x, s) :: u, (y, t) :: v, k, hd, hd2, hle, hs, hQ, hk => by
    refine WR.ofMask [0, 1, 4, 5] mixed (CX.Ok.of (u := false) (CallsOk.cons c19_ok CallsOk.nil) SCallsOk.nil) (k := 100) ?_
    show wpc _ _ _ _ _ _ _ (maskK 0 _ _)
    rw [f18_round']
    obtain ⟨hk, hr, hd'⟩ := drop_cons hd
    obtain ⟨_, hr2, hd2'⟩ := drop_cons hd2
    have g1 : (rowsR p)[Int.toNat k]? = some [i64 x, .sl 1 (bytesR s)] := by simp [rowsR, hr, rowD]
    have g2 : (rowsR q)[Int.toNat k]? = some [i64 y, .sl 1 (bytesR t)] := by simp [rowsR, hr2, rowD]
    refine BIf.t (by simpa [rowsR] using hk) (BIf.t (by simp) ⟨_, _, g1, BIf.t (by simp) ⟨_, _, g2, BIf.of (fun h => ?_) fun h => BIf.t (by simp) ⟨_, _, g1, BIf.t (by simp) ⟨_, _, g2, s, t, _, rfl, hs _ (List.mem_cons_self ..), rfl, BIf.of (fun h2 => ?_) fun h2 => ?_⟩⟩⟩⟩)
    · have h : x ≠ y := by simpa [bne] using h
      exact bif_f hQ (by simp [h]) k
    · have h2 : s ≠ t := by simpa [bne] using h2
      exact bif_f hQ (by simp [h2]) k
    · have h : x = y := by simpa [bne] using h
      have h2 : s = t := by simpa [bne] using h2
      rw [wrap_succ hk hl]
      refine wr18 p q hl u v (k + 1) hd' hd2' (by simpa using hle) (fun r hr => hs r (List.mem_cons_of_mem _ hr)) ?_ hk
      subst h; subst h2
      have e : ((x, s) :: u == (x, s) :: v) = (u == v) := by simp
      rw [e] at hQ; exact hQ
theorem wl18_ok {Ev : Env Try.prog} (c : Code) (tm : List AV) (hp : List Blk) (b : Ev.β) (K : Exit → List AV → List Blk → Ev.β → Prop) (h : wl18 c tm hp b K) : W Ev c ⟨tm, hp, b⟩ (fun e s => K e s.tm s.hp s.b) := by
  obtain ⟨p, q, rfl, htm, rfl, ⟨h0, h1, h2⟩, hK⟩ := h
  refine W.cast (htm ▸ maskTm_le _ tm 0) (LeH.refl _) ?_
  exact W.rounds (wr18 (Q := fun e s => K e s.tm s.hp s.b) p q h0 p q 0 rfl rfl h1 h2 hK (Nat.zero_le _))
section
variable {β : Type} (wl : WLT β) (y : YieldT β) (b : β) (R : AV → β → Prop)
theorem f18_nf (xs ys : List (List Dv)) : wpFn Try.prog ⟨[(19, c19)], [], wl18, y, false⟩ 100 Try.f18 [.d (.sl 2 xs), .d (.sl 2 ys)] b R = (
  BIf ((xs.length : Int) != (ys.length : Int)) (R (AV.d (bo false)) b)
  (∃ p q : List Row, Code.loop lp18 = Code.loop lp18 ∧ tm18 xs ys 0 = tm18 (rowsR p) (rowsR q) 0 ∧ ([] : List Blk) = [] ∧ (p.length ≤ (9223372036854775807 : Nat) ∧ p.length = q.length ∧ ∀ r ∈ p, r.2.length ≤ 9223372036854775807) ∧
    BIf (p == q) (R (AV.d (bo true)) b) (∀ (i : Int), R (AV.d (bo false)) b))) := by kernel_rfl
end
theorem pc18 (p q : List Row) (hl : p.length ≤ 9223372036854775807) (hs : ∀ r ∈ p, r.2.length ≤ 9223372036854775807) : PCall Try.prog 18 [.d (.sl 2 (rowsR p)), .d (.sl 2 (rowsR q))] (.d (bo (p == q))) := by
  refine PCall.ofFnW (n := 100) (u := false) (fun _ => wl18) mixed (CallsOk.cons c19_ok CallsOk.nil) SCallsOk.nil (fun Ev => wl18_ok) Try.func18 (by rfl) (by rfl) fun Ev bb => ?_
  rw [f18_nf]
  refine BIf.of (fun h => ?_) fun h => ⟨p, q, rfl, rfl, rfl, ⟨hl, ?_, hs⟩, BIf.of (fun h => ?_) fun h _ => ?_⟩
  · have : (p == q) = false := by
      simp [rowsR] at h
      simp only [beq_eq_false_iff_ne]
      rintro rfl; exact h rfl
    rw [this]
  · simp [rowsR] at h; omega
  · rw [h]
  · rw [h]
def c18 (args : List AV) (K : AV → Prop) : Prop := ∃ (p q : List Row) (r : Bool), args = [.d (.sl 2 (rowsR p)), .d (.sl 2 (rowsR q))] ∧ (p.length ≤ 9223372036854775807 ∧ ∀ r ∈ p, r.2.length ≤ 9223372036854775807) ∧ r = (p == q) ∧ K (.d (bo r))
theorem c18_ok : ∀ args K, c18 args K → ∃ x, PCall Try.prog 18 args x ∧ K x := by
  rintro _ K ⟨p, q, _, rfl, ⟨h0, h1⟩, rfl, h⟩; exact ⟨_, pc18 p q h0 h1, h⟩

/-! ### Formed -/
def formedS (m : Int) (p : List Int) : Bool := decide (m ≥ 1) && (decide (m < 65536) && decide (p.length = 16))
theorem f24_nf' {β : Type} (wl : WLT β) (y : YieldT β) (b : β) (R : AV → β → Prop) (m : Int) (xs : List (List Dv)) : wpFn Try.prog ⟨[], [], wl, y, true⟩ 100 Try.f24 [.agg [.d (i64 m), .d (.sl 1 xs)]] b R = (
  BIf (decide (m ≥ (1 : Int))) (BIf (decide (m < (65536 : Int))) (R (AV.d (bo ((xs.length : Int) == (16 : Int)))) b) (R (AV.d (bo false)) b))
  (R (AV.d (bo false)) b)) := by kernel_rfl
theorem pc24 (m : Int) (p : List Int) : PCall Try.prog 24 [rowA m p] (.d (bo (formedS m p))) := by
  refine PCall.ofFn (n := 100) (u := true) mixed CallsOk.nil SCallsOk.nil Try.func24 (by rfl) (by rfl) fun Ev b => ?_
  show wpFn _ _ _ _ [.agg [.d (i64 m), .d (.sl 1 (bytesR p))]] _ _
  rw [f24_nf']
  refine BIf.of (fun h1 => BIf.of (fun h2 => ?_) fun h2 => ?_) fun h1 => ?_
  · simp only [formedS, h1, h2, Bool.true_and]
    congr 3
    simp only [bytesR, List.length_map]
    rw [Bool.eq_iff_iff]; simp; omega
  · simp only [formedS, h1, h2, Bool.true_and, Bool.false_and]
  · simp only [formedS, h1, Bool.false_and]
def c24 (args : List AV) (K : AV → Prop) : Prop := ∃ (m : Int) (p : List Int), args = [rowA m p] ∧ K (.d (bo (formedS m p)))
theorem c24_ok : ∀ args K, c24 args K → ∃ x, PCall Try.prog 24 args x ∧ K x := by
  rintro _ K ⟨m, p, rfl, h⟩; exact ⟨_, pc24 m p, h⟩

/-! ### block -/
def blockS (x : Int) : List Int := List.replicate 16 x
theorem f27_nf' {β : Type} (wl : WLT β) (y : YieldT β) (b : β) (R : AV → β → Prop) (x : Int) : wpFn Try.prog ⟨[], [], wl, y, true⟩ 100 Try.f27 [.d (u8 x)] b R = R (.d (.sl 1 (bytesR (blockS x)))) b := by kernel_rfl
theorem pc27 (x : Int) : PCall Try.prog 27 [.d (u8 x)] (.d (.sl 1 (bytesR (blockS x)))) := by
  refine PCall.ofFn (n := 100) (u := true) mixed CallsOk.nil SCallsOk.nil Try.func27 (by rfl) (by rfl) fun Ev b => ?_
  rw [f27_nf']
def c27 (args : List AV) (K : AV → Prop) : Prop := ∃ (x : Int) (p : List Int), args = [.d (u8 x)] ∧ p = blockS x ∧ K (.d (.sl 1 (bytesR p)))
theorem c27_ok : ∀ args K, c27 args K → ∃ x, PCall Try.prog 27 args x ∧ K x := by
  rintro _ K ⟨x, _, rfl, rfl, h⟩; exact ⟨_, pc27 x, h⟩
theorem f26_nf' {β : Type} (wl : WLT β) (y : YieldT β) (b : β) (R : AV → β → Prop) (m x : Int) : wpFn Try.prog ⟨[(27, c27)], [], wl, y, true⟩ 100 Try.f26 [.d (i64 m), .d (u8 x)] b R = ∃ (x' : Int) (p : List Int), [AV.d (u8 x)] = [.d (u8 x')] ∧ p = blockS x' ∧ R (rowA m p) b := by kernel_rfl
theorem pc26 (m x : Int) : PCall Try.prog 26 [.d (i64 m), .d (u8 x)] (rowA m (blockS x)) := by
  refine PCall.ofFn (n := 100) (u := true) mixed (CallsOk.cons c27_ok CallsOk.nil) SCallsOk.nil Try.func26 (by rfl) (by rfl) fun Ev b => ?_
  rw [f26_nf']
  exact ⟨x, _, rfl, rfl, rfl⟩
def c26 (args : List AV) (K : AV → Prop) : Prop := ∃ (m x : Int) (p : List Int), args = [.d (i64 m), .d (u8 x)] ∧ p = blockS x ∧ K (rowA m p)
theorem c26_ok : ∀ args K, c26 args K → ∃ x, PCall Try.prog 26 args x ∧ K x := by
  rintro _ K ⟨m, x, _, rfl, rfl, h⟩; exact ⟨_, pc26 m x, h⟩
end Go.Proofs.Ytgdeoaiakdkhcaa.Am
