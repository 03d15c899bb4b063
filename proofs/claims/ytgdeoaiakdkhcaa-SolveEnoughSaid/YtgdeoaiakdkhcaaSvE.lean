import Derived.Test.YtgdeoaiakdkhcaaSvD
namespace Go.Proofs.Ytgdeoaiakdkhcaa.Am
set_option linter.unusedVariables false
open Go Go.RowKit Go.Proofs

/-! ### Valid -/
abbrev cell (x : Dv) : Blk := ⟨[.d x], false, false, 0⟩

def vA : List Row → Int × Int → (Int × Int) × Bool
  | [], s => (s, true)
  | r :: l, s => if fine r.1 r.2 && decide (lead r.1 < s.2) then vA l (or64 s.1 (lead r.1), lead r.1) else (s, false)
def vB (L : Int) (l : List Row) : Bool := l.all fun r => and64 r.1 L == lead r.1
def validS (l : List Row) : Bool := (vA l (0, 65536)).2 && vB (vA l (0, 65536)).1.1 l

theorem fine_ok {r : Row} (h : fine r.1 r.2 = true) : okMask r := by
  simp only [fine, Bool.and_eq_true, decide_eq_true_eq] at h
  exact ⟨h.1, h.2.1⟩
theorem vA_ok : ∀ {l : List Row} {s : Int × Int}, (vA l s).2 = true → ∀ r ∈ l, fine r.1 r.2 = true
  | [], _, _, r, hr => by cases hr
  | r0 :: l, s, h, r, hr => by
    simp only [vA] at h
    split at h
    · rename_i hc
      simp only [Bool.and_eq_true] at hc
      rcases List.mem_cons.1 hr with rfl | hr
      · exact hc.1
      · exact vA_ok h r hr
    · cases h

noncomputable def rf20a : Code := sub [1, 1, 0, 1, 2] (code Try.f20)
noncomputable def rf20b : Code := sub [1, 1, 1, 0, 1, 2] (code Try.f20)
theorem rf20a_shape : rf20a = .rangeFunc (.tmp 9) #[10, 11] (assignOf rf20a) (bodyOf rf20a) := by kernel_rfl
theorem rf20b_shape : rf20b = .rangeFunc (.tmp 26) #[27, 28] (assignOf rf20b) (bodyOf rf20b) := by kernel_rfl
def tm20a (xs : List (List Dv)) : List AV := [.d (.sl 2 xs), .bad, .ptr 0 0, .ptr 1 0, .ptr 2 0, .bad, .bad, .bad, .bad, .fn (.func 38) [] [.rptr [.sl 2 xs]]] ++ List.replicate 26 .bad
def tm20b (xs : List (List Dv)) : List AV := [.bad, .bad, .ptr 0 0, .ptr 1 0, .ptr 2 0] ++ List.replicate 21 .bad ++ [.fn (.func 38) [] [.rptr [.sl 2 xs]]] ++ List.replicate 9 .bad
def hp20 (v : Bool) (s : Int × Int) : List Blk := [cell (bo v), cell (i64 s.1), cell (i64 s.2)]

def wl20 {β : Type} : WLT β := fun c tm hp b K => match cidO c with
  | 4 => ∃ (l : List Row) (s : Int × Int), c = rf20a ∧ maskTm [0, 2, 3, 4, 9] 0 tm = tm20a (rowsR l) ∧ hp = hp20 false s ∧ l.length ≤ 9223372036854775807 ∧
      BIf (vA l s).2 (K .normal (tm20a (rowsR l)) (hp20 false (vA l s).1) b) (K .ret (tm20a (rowsR l)) (hp20 false (vA l s).1) b)
  | 11 => ∃ (l : List Row) (s : Int × Int), c = rf20b ∧ maskTm [2, 3, 4, 26] 0 tm = tm20b (rowsR l) ∧ hp = hp20 false s ∧ ((∀ r ∈ l, okMask r) ∧ l.length ≤ 9223372036854775807) ∧
      BIf (vB s.1 l) (K .normal (tm20b (rowsR l)) (hp20 false s) b) (K .ret (tm20b (rowsR l)) (hp20 false s) b)
  | _ => False

section
variable {β : Type} (wl : WLT β) (y : YieldT β) (b : β) (R : AV → β → Prop) (K : Exit → List AV → List Blk → β → Prop) (Kh : Exit → List Blk → β → Prop)
theorem f20a_round (xs : List (List Dv)) (m : Int) (p : List Int) (f : Bool) (L P : Int) : wpcY Try.prog ⟨T29, [], wl, y, false⟩ 100 #[10, 11] (assignOf rf20a) (bodyOf rf20a) (tm20a xs) [eqA m p, .d (bo f)] [cell (bo false), cell (i64 L), cell (i64 P)] b (takeK 3 Kh) = (
  BIf (!f) (Kh Exit.ret [cell (bo false), cell (i64 L), cell (i64 P)] b)
  (∃ m0 p1,
    [eqA m p] = [eqA m0 p1] ∧
      ((1 : Int) ≤ m0 ∧ m0 < (65536 : Int)) ∧
        BIf (decide (lead m0 ≥ P)) (Kh Exit.ret [cell (bo false), cell (i64 L), cell (i64 P)] b)
          (∃ m2 p3,
            [eqA m p] = [eqA m2 p3] ∧
              ((1 : Int) ≤ m2 ∧ m2 < (65536 : Int)) ∧
                Kh Exit.normal
                  [cell (bo false), cell (i64 (IntKind.wrap IntKind.i64 ↑(BitVec.toNat (BitVec.ofInt (64 : Nat) L ||| BitVec.ofInt (64 : Nat) (lead m2))))),
                    cell (i64 (lead m2))]
                  b))) := by kernel_rfl
theorem f20b_round (xs : List (List Dv)) (m : Int) (p : List Int) (f : Bool) (L P : Int) : wpcY Try.prog ⟨T29, [], wl, y, false⟩ 100 #[27, 28] (assignOf rf20b) (bodyOf rf20b) (tm20b xs) [eqA m p, .d (bo f)] [cell (bo false), cell (i64 L), cell (i64 P)] b (takeK 3 Kh) = (
  ∃ m0 p1,
  [eqA m p] = [eqA m0 p1] ∧
    ((1 : Int) ≤ m0 ∧ m0 < (65536 : Int)) ∧
      BIf (IntKind.wrap IntKind.i64 ↑(BitVec.toNat (BitVec.ofInt (64 : Nat) m &&& BitVec.ofInt (64 : Nat) L)) != lead m0)
        (Kh Exit.ret [cell (bo false), cell (i64 L), cell (i64 P)] b) (Kh Exit.normal [cell (bo false), cell (i64 L), cell (i64 P)] b)) := by kernel_rfl
theorem f20_nf (xs : List (List Dv)) : wpFn Try.prog ⟨T29, [], wl20, y, false⟩ 100 Try.f20 [.d (.sl 2 xs)] b R = (
  ∃ xs0,
  [AV.d (Dv.sl (2 : Nat) xs)] = [AV.d (Dv.sl (2 : Nat) xs0)] ∧
    ∃ l1 s2,
      rf20a = rf20a ∧
        [AV.d (Dv.sl (2 : Nat) xs), AV.bad, AV.ptr (0 : Nat) (0 : Nat), AV.ptr (1 : Nat) (0 : Nat), AV.ptr (2 : Nat) (0 : Nat), AV.bad, AV.bad, AV.bad, AV.bad,
              AV.fn (Fn.func (38 : Nat)) [] [AV.rptr [Dv.sl (2 : Nat) xs0]], AV.bad, AV.bad, AV.bad, AV.bad, AV.bad, AV.bad, AV.bad, AV.bad, AV.bad, AV.bad,
              AV.bad, AV.bad, AV.bad, AV.bad, AV.bad, AV.bad, AV.bad, AV.bad, AV.bad, AV.bad, AV.bad, AV.bad, AV.bad, AV.bad, AV.bad, AV.bad] =
            [AV.d (Dv.sl (2 : Nat) (rowsR l1)), AV.bad, AV.ptr (0 : Nat) (0 : Nat), AV.ptr (1 : Nat) (0 : Nat), AV.ptr (2 : Nat) (0 : Nat), AV.bad, AV.bad,
              AV.bad, AV.bad, AV.fn (Fn.func (38 : Nat)) [] [AV.rptr [Dv.sl (2 : Nat) (rowsR l1)]], AV.bad, AV.bad, AV.bad, AV.bad, AV.bad, AV.bad, AV.bad,
              AV.bad, AV.bad, AV.bad, AV.bad, AV.bad, AV.bad, AV.bad, AV.bad, AV.bad, AV.bad, AV.bad, AV.bad, AV.bad, AV.bad, AV.bad, AV.bad, AV.bad, AV.bad,
              AV.bad] ∧
          [cell (bo false), cell (i64 (0 : Int)), cell (i64 (65536 : Int))] = [cell (bo false), cell (i64 (Prod.fst s2)), cell (i64 (Prod.snd s2))] ∧
            List.length l1 ≤ (9223372036854775807 : Nat) ∧
              BIf (Prod.snd (vA l1 s2))
                (∃ xs3,
                  [AV.d (Dv.sl (2 : Nat) (rowsR l1))] = [AV.d (Dv.sl (2 : Nat) xs3)] ∧
                    ∃ l4 s5,
                      rf20b = rf20b ∧
                        [AV.bad, AV.bad, AV.ptr (0 : Nat) (0 : Nat), AV.ptr (1 : Nat) (0 : Nat), AV.ptr (2 : Nat) (0 : Nat), AV.bad, AV.bad, AV.bad, AV.bad,
                              AV.bad, AV.bad, AV.bad, AV.bad, AV.bad, AV.bad, AV.bad, AV.bad, AV.bad, AV.bad, AV.bad, AV.bad, AV.bad, AV.bad, AV.bad, AV.bad,
                              AV.bad, AV.fn (Fn.func (38 : Nat)) [] [AV.rptr [Dv.sl (2 : Nat) xs3]], AV.bad, AV.bad, AV.bad, AV.bad, AV.bad, AV.bad, AV.bad,
                              AV.bad, AV.bad] =
                            [AV.bad, AV.bad, AV.ptr (0 : Nat) (0 : Nat), AV.ptr (1 : Nat) (0 : Nat), AV.ptr (2 : Nat) (0 : Nat), AV.bad, AV.bad, AV.bad, AV.bad,
                              AV.bad, AV.bad, AV.bad, AV.bad, AV.bad, AV.bad, AV.bad, AV.bad, AV.bad, AV.bad, AV.bad, AV.bad, AV.bad, AV.bad, AV.bad, AV.bad,
                              AV.bad, AV.fn (Fn.func (38 : Nat)) [] [AV.rptr [Dv.sl (2 : Nat) (rowsR l4)]], AV.bad, AV.bad, AV.bad, AV.bad, AV.bad, AV.bad,
                              AV.bad, AV.bad, AV.bad] ∧
                          [cell (bo false), cell (i64 (Prod.fst (Prod.fst (vA l1 s2)))), cell (i64 (Prod.snd (Prod.fst (vA l1 s2))))] =
                              [cell (bo false), cell (i64 (Prod.fst s5)), cell (i64 (Prod.snd s5))] ∧
                            ((∀ (r : Row), r ∈ l4 → (1 : Int) ≤ Prod.fst r ∧ Prod.fst r < (65536 : Int)) ∧ List.length l4 ≤ (9223372036854775807 : Nat)) ∧
                              BIf (vB (Prod.fst s5) l4) (R (AV.d (bo true)) b) (R (AV.d (bo false)) b))
                (R (AV.d (bo false)) b)) := by kernel_rfl
end

theorem range20a {Ev : Env Try.prog} {b : Ev.β} {Q : Exit → St Ev.β → Prop} (xs : List (List Dv)) : ∀ (l : List Row) (s : Int × Int),
    BIf (vA l s).2 (Q .normal ⟨tm20a xs, hp20 false (vA l s).1, b⟩) (Q .ret ⟨tm20a xs, hp20 false (vA l s).1, b⟩) →
    YList (YBody Ev (tm20a xs) #[10, 11] (assignOf rf20a) (bodyOf rf20a) 3) (l.map item) (hp20 false s, b, none) (rangeQ (tm20a xs) Q)
  | [], s, h => h
  | r :: l, s, h => by
    refine YList.step (X := ⟨T29, [], wlW Ev, Ev.Y, false⟩) (k := 100) mixed (CX.Ok.of T29_ok SCallsOk.nil) rfl ?_
    show wpcY _ _ _ _ _ _ _ [eqA _ _, .d (bo _)] [cell (bo false), cell (i64 _), cell (i64 _)] b (takeK 3 _)
    rw [f20a_round]
    simp only [vA] at h
    refine BIf.of (fun hf => ?_) fun hf => ?_
    · have hf : fine r.1 r.2 = false := by simpa using hf
      rw [hf] at h; exact h
    · have hf : fine r.1 r.2 = true := by simpa using hf
      have hm := fine_ok hf
      refine ⟨_, _, rfl, hm, BIf.of (fun hc => ?_) fun hc => ⟨_, _, rfl, hm, ?_⟩⟩
      · rw [if_neg (by simp only [ge_iff_le, decide_eq_true_eq] at hc; simp [hf]; omega)] at h; exact h
      · rw [if_pos (by simp only [ge_iff_le, decide_eq_false_iff_not] at hc; simp [hf]; omega)] at h
        exact range20a xs l (or64 s.1 (lead r.1), lead r.1) h

theorem range20b {Ev : Env Try.prog} {b : Ev.β} {Q : Exit → St Ev.β → Prop} (xs : List (List Dv)) (s : Int × Int) : ∀ (l : List Row), (∀ r ∈ l, okMask r) →
    BIf (vB s.1 l) (Q .normal ⟨tm20b xs, hp20 false s, b⟩) (Q .ret ⟨tm20b xs, hp20 false s, b⟩) →
    YList (YBody Ev (tm20b xs) #[27, 28] (assignOf rf20b) (bodyOf rf20b) 3) (l.map item) (hp20 false s, b, none) (rangeQ (tm20b xs) Q)
  | [], _, h => h
  | r :: l, hok, h => by
    refine YList.step (X := ⟨T29, [], wlW Ev, Ev.Y, false⟩) (k := 100) mixed (CX.Ok.of T29_ok SCallsOk.nil) rfl ?_
    show wpcY _ _ _ _ _ _ _ [eqA _ _, .d (bo _)] [cell (bo false), cell (i64 _), cell (i64 _)] b (takeK 3 _)
    rw [f20b_round]
    refine ⟨_, _, rfl, hok r (List.mem_cons_self ..), BIf.of (fun hc => ?_) fun hc => ?_⟩
    · change (and64 r.1 s.1 != lead r.1) = true at hc
      have : vB s.1 (r :: l) = false := by
        simp only [vB, List.all_cons]
        rw [show (and64 r.1 s.1 == lead r.1) = false by simpa [bne] using hc]; rfl
      rw [this] at h; exact h
    · change (and64 r.1 s.1 != lead r.1) = false at hc
      refine range20b xs s l (fun r' hr => hok r' (List.mem_cons_of_mem _ hr)) ?_
      have : vB s.1 (r :: l) = vB s.1 l := by
        simp only [vB, List.all_cons]
        rw [show (and64 r.1 s.1 == lead r.1) = true by simpa [bne] using hc]; rfl
      rw [this] at h; exact h

theorem wl20_ok {Ev : Env Try.prog} (c : Code) (tm : List AV) (hp : List Blk) (b : Ev.β) (K : Exit → List AV → List Blk → Ev.β → Prop) (h : wl20 c tm hp b K) : W Ev c ⟨tm, hp, b⟩ (fun e s => K e s.tm s.hp s.b) := by
  unfold wl20 at h
  split at h
  · obtain ⟨l, s, rfl, htm, rfl, hpre, hK⟩ := h
    refine W.cast (htm ▸ maskTm_le _ tm 0) (LeH.refl _) ?_
    rw [rf20a_shape]
    exact W.range (s := ⟨tm20a (rowsR l), _, b⟩) (k := 38) (first := []) (caps := [.rptr [.sl 2 (rowsR l)]]) rfl rfl rfl (ic38 l hpre) (range20a (rowsR l) l s hK)
  · obtain ⟨l, s, rfl, htm, rfl, hpre, hK⟩ := h
    refine W.cast (htm ▸ maskTm_le _ tm 0) (LeH.refl _) ?_
    rw [rf20b_shape]
    exact W.range (s := ⟨tm20b (rowsR l), _, b⟩) (k := 38) (first := []) (caps := [.rptr [.sl 2 (rowsR l)]]) rfl rfl rfl (ic38 l hpre.2) (range20b (rowsR l) s l hpre.1 hK)
  · exact h.elim

theorem pc20 (l : List Row) (hl : l.length ≤ 9223372036854775807) : PCall Try.prog 20 [.d (.sl 2 (rowsR l))] (.d (bo (validS l))) := by
  refine PCall.ofFnW (n := 100) (u := false) (fun _ => wl20) mixed T29_ok SCallsOk.nil (fun Ev => wl20_ok) Try.func20 (by rfl) (by rfl) fun Ev bb => ?_
  rw [f20_nf]
  refine ⟨_, rfl, l, (0, 65536), rfl, rfl, rfl, hl, BIf.of (fun ha => ⟨_, rfl, l, _, rfl, rfl, rfl, ⟨fun r hr => fine_ok (vA_ok ha r hr), hl⟩, BIf.of (fun hb => ?_) fun hb => ?_⟩) fun ha => ?_⟩
  · rw [show validS l = true by simp only [validS, ha, hb]; rfl]
  · rw [show validS l = false by simp only [validS, ha, hb]; rfl]
  · rw [show validS l = false by simp only [validS, ha]; rfl]
def c20 (args : List AV) (K : AV → Prop) : Prop := ∃ (l : List Row), args = [.d (.sl 2 (rowsR l))] ∧ l.length ≤ 9223372036854775807 ∧ K (.d (bo (validS l)))
theorem c20_ok : ∀ args K, c20 args K → ∃ x, PCall Try.prog 20 args x ∧ K x := by
  rintro _ K ⟨l, rfl, h1, h⟩; exact ⟨_, pc20 l h1, h⟩

end Go.Proofs.Ytgdeoaiakdkhcaa.Am
