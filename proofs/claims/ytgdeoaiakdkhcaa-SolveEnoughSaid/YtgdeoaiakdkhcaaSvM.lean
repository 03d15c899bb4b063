import Derived.Test.YtgdeoaiakdkhcaaSvL
namespace Go.Proofs.Ytgdeoaiakdkhcaa.Am
set_option linter.unusedVariables false
open Go Go.RowKit Go.Proofs

/-- arguments of which more is known -/
inductive LeX : AV → AV → Prop where
  | le {x y : AV} (h : LeT x y) : LeX x y
  | full (k : Nat) (xs : List (List Dv)) : LeX (.full k xs) (.d (.sl k xs))
theorem LeX.rv {S : Pr} {w : World} {m : List MB} {yv : Option Nat} {x y : AV} {v : Value} (h : LeX x y) (hr : RV S w m yv x v) : RV S w m yv y v := by
  cases h with
  | le h => exact h.rv hr
  | full => cases hr with
    | full h => exact .d h
inductive LeTs : List AV → List AV → Prop where
  | nil : LeTs [] []
  | cons {x y : AV} {xs ys : List AV} (h : LeX x y) (hs : LeTs xs ys) : LeTs (x :: xs) (y :: ys)
theorem LeTs.len {xs ys : List AV} (h : LeTs xs ys) : xs.length = ys.length := by
  induction h with
  | nil => rfl
  | cons _ _ ih => simp [ih]
theorem LeTs.at {xs ys : List AV} (h : LeTs xs ys) : ∀ (i : Nat) (y : AV), ys[i]? = some y → ∃ x, xs[i]? = some x ∧ LeX x y := by
  induction h with
  | nil => intro i y h; simp at h
  | cons h _ ih =>
    intro i y hy
    cases i with
    | zero => simp at hy; subst hy; exact ⟨_, rfl, h⟩
    | succ i => simpa using ih i y (by simpa using hy)
theorem PCall.leArgs {P : Program} {f : Nat} {args args' : List AV} {x : AV} (h : LeTs args args') (hp : PCall P f args' x) : PCall P f args x := by
  refine ⟨hp.1, fun S w vs hl hvs hlt => hp.2 S w vs (h.len ▸ hl) (fun i y v h1 h2 => ?_) hlt⟩
  obtain ⟨x, h3, h4⟩ := h.at i y h1
  exact h4.rv (hvs i x v h3 h2)
theorem LeTs.refl : ∀ xs : List AV, LeTs xs xs
  | [] => .nil
  | _ :: xs => .cons (.le .rfl) (LeTs.refl xs)

/-! ### head -/
def RW (m x : Int) : Row := (m, blockS x)
def H1 : List Row := [RW 3 3]
def H2 : List Row := [RW 5 5, RW 3 3]
def HM : List Row := [RW 4 4, RW 2 2, RW 1 1]
def nilA : AV := .d (.s (.slice none 0 0))
def h12 (args : List AV) (K : AV → Prop) : Prop := match args with
  | [.d (.s _), .agg _] => args = [nilA, rowA 3 (blockS 3)] ∧ K (addR (H1, true, 0))
  | [.d (.sl _ xs), .agg (.d (.s (.int _ m)) :: .d bs :: _)] => match xs.length, m.toNat, bs with
    | 1, _, _ => args = [.d (.sl 2 (rowsR H1)), rowA 6 (blockS 6)] ∧ K (addR (H2, true, 0))
    | 2, _, _ => args = [.d (.sl 2 (rowsR H2)), rowA 2 (blockS 2)] ∧ K (addR (HM, true, 0))
    | _, 5, .sl _ ([.s (.int _ x)] :: _) => match x.toNat with
      | 5 => args = [.d (.sl 2 (rowsR HM)), rowA 5 (blockS 5)] ∧ K (addR (HM, false, 0))
      | _ => args = [.d (.sl 2 (rowsR HM)), rowA 5 (blockS 4)] ∧ K (addR ([], false, 12))
    | _, 1, _ => args = [.d (.sl 2 (rowsR HM)), .agg [.d (i64 1), nilA]] ∧ K (addR ([], false, 1))
    | _, _, _ => False
  | _ => False
def h14 (args : List AV) (K : AV → Prop) : Prop := match args with
  | [.d (.sl _ xs), _] => match xs.length with
    | 2 => args = [.d (.sl 2 (rowsR H2)), .d (i64 0)] ∧ K (bytesB ([], false))
    | _ => args = [.d (.sl 2 (rowsR HM)), .d (i64 0)] ∧ K (bytesB (blockS 1, true))
  | _ => False
def h16 (args : List AV) (K : AV → Prop) : Prop := args = [.d (.sl 2 (rowsR H2)), .d (i64 5)] ∧ K (bytesB (blockS 5, true))
def h26 (args : List AV) (K : AV → Prop) : Prop := match args with
  | [.d (.s (.int _ m)), .d (.s (.int _ x))] => args = [.d (i64 m), .d (u8 x)] ∧ K (rowA m (blockS x))
  | _ => False
def h27 (args : List AV) (K : AV → Prop) : Prop := match args with
  | [.d (.s (.int _ x))] => args = [.d (u8 x)] ∧ K (.d (.sl 1 (bytesR (blockS x))))
  | _ => False
def h19 (args : List AV) (K : AV → Prop) : Prop := match args with
  | [_, .d (.sl _ ([.s (.int _ x)] :: _))] => args = [.d (.sl 1 (bytesR (blockS x))), .d (.sl 1 (bytesR (blockS x)))] ∧ K (.d (bo true))
  | _ => False
def h18 (args : List AV) (K : AV → Prop) : Prop := match args with
  | [.d (.sl _ xs), _] => match xs.length with
    | 2 => args = [.d (.sl 2 (rowsR H2)), .full 2 (rowsR H2)] ∧ K (.d (bo true))
    | _ => args = [.d (.sl 2 (rowsR HM)), .full 2 (rowsR HM)] ∧ K (.d (bo true))
  | _ => False
def HX : List Row := [RW 6 6, RW 3 3, RW 2 2]
def h20 (args : List AV) (K : AV → Prop) : Prop := match args with
  | [.d (.sl _ _)] => args = [.d (.sl 2 (rowsR HM))] ∧ K (.d (bo true))
  | _ => args = [.full 2 (rowsR HX)] ∧ K (.d (bo false))
theorem head_facts : addS [] 3 (blockS 3) = (H1, true, 0) ∧ addS H1 6 (blockS 6) = (H2, true, 0) ∧ addS H2 2 (blockS 2) = (HM, true, 0) ∧ addS HM 5 (blockS 5) = (HM, false, 0) ∧ addS HM 5 (blockS 4) = ([], false, 12) ∧
    addS HM 1 [] = ([], false, 1) ∧ solvedS H2 0 = ([], false) ∧ solvedS HM 0 = (blockS 1, true) ∧ sumS H2 5 = (blockS 5, true) ∧ validS HM = true ∧ validS HX = false := by
  refine ⟨?_, ?_, ?_, ?_, ?_, ?_, ?_, ?_, ?_, ?_, ?_⟩ <;> kernel_rfl

theorem h12_ok : ∀ args K, h12 args K → ∃ x, PCall Try.prog 12 args x ∧ K x := by
  intro args K h
  obtain ⟨f1, f2, f3, f4, f5, f6, _⟩ := head_facts
  unfold h12 at h
  split at h
  · obtain ⟨h1, h⟩ := h
    rw [h1]
    exact ⟨_, (f1 ▸ pc12 [] 3 (blockS 3) (by simp)).leArgs (.cons (.le (.base (LeA.nilSl rfl))) (LeTs.refl _)), h⟩
  · split at h
    · obtain ⟨h1, h⟩ := h
      rw [h1]; exact ⟨_, f2 ▸ pc12 H1 6 (blockS 6) (by simp [H1]), h⟩
    · obtain ⟨h1, h⟩ := h
      rw [h1]; exact ⟨_, f3 ▸ pc12 H2 2 (blockS 2) (by simp [H2]), h⟩
    · split at h
      · obtain ⟨h1, h⟩ := h
        rw [h1]; exact ⟨_, f4 ▸ pc12 HM 5 (blockS 5) (by simp [HM]), h⟩
      · obtain ⟨h1, h⟩ := h
        rw [h1]; exact ⟨_, f5 ▸ pc12 HM 5 (blockS 4) (by simp [HM]), h⟩
    · obtain ⟨h1, h⟩ := h
      rw [h1]
      exact ⟨_, (f6 ▸ pc12 HM 1 [] (by simp [HM])).leArgs (.cons (.le .rfl) (.cons (.le (.agg (.cons .rfl (.cons (LeA.nilSl rfl) .nil)))) .nil)), h⟩
    · exact h.elim
  · exact h.elim
theorem h14_ok : ∀ args K, h14 args K → ∃ x, PCall Try.prog 14 args x ∧ K x := by
  intro args K h
  obtain ⟨_, _, _, _, _, _, f1, f2, _⟩ := head_facts
  unfold h14 at h
  split at h
  · split at h
    · obtain ⟨h1, h⟩ := h
      rw [h1]; exact ⟨_, f1 ▸ pc14 H2 0 (by simp [H2]), h⟩
    · obtain ⟨h1, h⟩ := h
      rw [h1]; exact ⟨_, f2 ▸ pc14 HM 0 (by simp [HM]), h⟩
  · exact h.elim
theorem h16_ok : ∀ args K, h16 args K → ∃ x, PCall Try.prog 16 args x ∧ K x := by
  rintro args K ⟨h1, h⟩
  obtain ⟨_, _, _, _, _, _, _, _, f1, _⟩ := head_facts
  rw [h1]; exact ⟨_, f1 ▸ pc16 H2 5 (by simp [H2]), h⟩
theorem h26_ok : ∀ args K, h26 args K → ∃ x, PCall Try.prog 26 args x ∧ K x := by
  intro args K h
  unfold h26 at h
  split at h
  · obtain ⟨h1, h⟩ := h
    rw [h1]; exact ⟨_, pc26 _ _, h⟩
  · exact h.elim
theorem h27_ok : ∀ args K, h27 args K → ∃ x, PCall Try.prog 27 args x ∧ K x := by
  intro args K h
  unfold h27 at h
  split at h
  · obtain ⟨h1, h⟩ := h
    rw [h1]; exact ⟨_, pc27 _, h⟩
  · exact h.elim
theorem h19_ok : ∀ args K, h19 args K → ∃ x, PCall Try.prog 19 args x ∧ K x := by
  intro args K h
  unfold h19 at h
  split at h
  · obtain ⟨h1, h⟩ := h
    rw [h1]
    refine ⟨_, pc19 _ _ (by simp [blockS]), ?_⟩
    rw [beq_self_eq_true]; exact h
  · exact h.elim
theorem h18_ok : ∀ args K, h18 args K → ∃ x, PCall Try.prog 18 args x ∧ K x := by
  intro args K h
  unfold h18 at h
  split at h
  · split at h
    · obtain ⟨h1, h⟩ := h
      rw [h1]
      refine ⟨_, (pc18 H2 H2 (by simp [H2]) (by simp [H2, RW, blockS])).leArgs (.cons (.le .rfl) (.cons (.full _ _) .nil)), ?_⟩
      rw [beq_self_eq_true]; exact h
    · obtain ⟨h1, h⟩ := h
      rw [h1]
      refine ⟨_, (pc18 HM HM (by simp [HM]) (by simp [HM, RW, blockS])).leArgs (.cons (.le .rfl) (.cons (.full _ _) .nil)), ?_⟩
      rw [beq_self_eq_true]; exact h
  · exact h.elim
theorem h20_ok : ∀ args K, h20 args K → ∃ x, PCall Try.prog 20 args x ∧ K x := by
  intro args K h
  obtain ⟨_, _, _, _, _, _, _, _, _, f1, f2⟩ := head_facts
  unfold h20 at h
  split at h
  · obtain ⟨h1, h⟩ := h
    rw [h1]; exact ⟨_, f1 ▸ pc20 HM (by simp [HM]), h⟩
  · obtain ⟨h1, h⟩ := h
    rw [h1]; exact ⟨_, (f2 ▸ pc20 HX (by simp [HX])).leArgs (.cons (.full _ _) .nil), h⟩
def TH : List (Nat × (List AV → (AV → Prop) → Prop)) := [(12, h12), (14, h14), (16, h16), (26, h26), (27, h27), (19, h19), (18, h18), (20, h20)]
theorem TH_ok : CallsOk Try.prog TH := CallsOk.cons h12_ok (CallsOk.cons h14_ok (CallsOk.cons h16_ok (CallsOk.cons h26_ok (CallsOk.cons h27_ok (CallsOk.cons h19_ok (CallsOk.cons h18_ok (CallsOk.cons h20_ok CallsOk.nil)))))))

def A12 (l : List Row) (m x : Int) : List AV := [.d (.sl 2 (rowsR l)), rowA m (blockS x)]
def A2 (m x : Int) : List AV := [.d (i64 m), .d (u8 x)]
theorem f10_nf {β : Type} (wl : WLT β) (y : YieldT β) (b : β) (R : AV → β → Prop) : wpFn Try.prog ⟨TH, [], wl, y, false⟩ 200 Try.f10 [] b R = (
  A2 3 3 = A2 3 3 ∧ [nilA, rowA 3 (blockS 3)] = [nilA, rowA 3 (blockS 3)] ∧ A2 6 6 = A2 6 6 ∧ A12 H1 6 6 = A12 H1 6 6 ∧ [AV.d (.sl 2 (rowsR H2)), .d (i64 0)] = [AV.d (.sl 2 (rowsR H2)), .d (i64 0)] ∧
  [AV.d (.sl 2 (rowsR H2)), .d (i64 5)] = [AV.d (.sl 2 (rowsR H2)), .d (i64 5)] ∧ A2 2 2 = A2 2 2 ∧ A12 H2 2 2 = A12 H2 2 2 ∧ A2 5 5 = A2 5 5 ∧ A12 HM 5 5 = A12 HM 5 5 ∧ A2 5 4 = A2 5 4 ∧
  [.d (.sl 2 (rowsR HM)), rowA 5 (blockS 4)] = [.d (.sl 2 (rowsR HM)), rowA 5 (blockS 4)] ∧ [AV.d (.sl 2 (rowsR HM)), .agg [.d (i64 1), nilA]] = [AV.d (.sl 2 (rowsR HM)), .agg [.d (i64 1), nilA]] ∧
  [AV.d (.sl 2 (rowsR HM)), .d (i64 0)] = [AV.d (.sl 2 (rowsR HM)), .d (i64 0)] ∧ [AV.d (u8 5)] = [AV.d (u8 5)] ∧ [AV.d (.sl 1 (bytesR (blockS 5))), .d (.sl 1 (bytesR (blockS 5)))] = [AV.d (.sl 1 (bytesR (blockS 5))), .d (.sl 1 (bytesR (blockS 5)))] ∧
  [AV.d (u8 1)] = [AV.d (u8 1)] ∧ [AV.d (.sl 1 (bytesR (blockS 1))), .d (.sl 1 (bytesR (blockS 1)))] = [AV.d (.sl 1 (bytesR (blockS 1))), .d (.sl 1 (bytesR (blockS 1)))] ∧
  A2 5 5 = A2 5 5 ∧ A2 3 3 = A2 3 3 ∧ [AV.d (.sl 2 (rowsR H2)), .full 2 (rowsR H2)] = [AV.d (.sl 2 (rowsR H2)), .full 2 (rowsR H2)] ∧ A2 4 4 = A2 4 4 ∧ A2 2 2 = A2 2 2 ∧ A2 1 1 = A2 1 1 ∧
  [AV.d (.sl 2 (rowsR HM)), .full 2 (rowsR HM)] = [AV.d (.sl 2 (rowsR HM)), .full 2 (rowsR HM)] ∧ [AV.d (.sl 2 (rowsR HM))] = [AV.d (.sl 2 (rowsR HM))] ∧ A2 6 6 = A2 6 6 ∧ A2 3 3 = A2 3 3 ∧ A2 2 2 = A2 2 2 ∧
  [AV.full 2 (rowsR HX)] = [AV.full 2 (rowsR HX)] ∧ R (.d (bo true)) b) := by kernel_rfl
theorem pc10 : PCall Try.prog 10 [] (.d (bo true)) := by
  refine PCall.ofFn (n := 200) (u := false) mixed TH_ok SCallsOk.nil Try.func10 (by rfl) (by rfl) fun Ev b => ?_
  rw [f10_nf]
  refine ⟨rfl, rfl, rfl, rfl, rfl, rfl, rfl, rfl, rfl, rfl, rfl, rfl, rfl, rfl, rfl, rfl, rfl, rfl, rfl, rfl, rfl, rfl, rfl, rfl, rfl, rfl, rfl, rfl, rfl, rfl, rfl⟩
def c10 (args : List AV) (K : AV → Prop) : Prop := args = [] ∧ K (.d (bo true))
theorem c10_ok : ∀ args K, c10 args K → ∃ x, PCall Try.prog 10 args x ∧ K x := by
  rintro _ K ⟨rfl, h⟩; exact ⟨_, pc10, h⟩
end Go.Proofs.Ytgdeoaiakdkhcaa.Am
