/- Readings that say less; rounds of loops; ranges over lists. -/
import Derived.Test.YtgdeoaiakdkhcaaAmZe
namespace Go.Proofs.Ytgdeoaiakdkhcaa.Am
set_option linter.unusedVariables false
set_option linter.unusedSimpArgs false
open Go Go.RowKit

/-- y says no more than x -/
def LeA (x y : AV) : Prop := x = y ∨ y = .bad ∨ (isNilSlice x = true ∧ ∃ k, (y = .d (.sl k []) ∨ ∃ e, y = .own e k [])) ∨ y = x.view

theorem LeA.rfl {x : AV} : LeA x x := .inl (Eq.refl x)
theorem LeA.bad {x : AV} : LeA x .bad := .inr (.inl (Eq.refl _))
theorem LeA.nilOwn {x : AV} {e k : Nat} (h : isNilSlice x = true) : LeA x (.own e k []) := .inr (.inr (.inl ⟨h, k, .inr ⟨e, Eq.refl _⟩⟩))
theorem LeA.nilSl {x : AV} {k : Nat} (h : isNilSlice x = true) : LeA x (.d (.sl k [])) := .inr (.inr (.inl ⟨h, k, .inl (Eq.refl _)⟩))
theorem LeA.view {x : AV} : LeA x x.view := .inr (.inr (.inr (Eq.refl _)))
theorem LeA.of_eq {x y : AV} (h : x = y) : LeA x y := .inl h

inductive LeL : List AV → List AV → Prop
  | nil : LeL [] []
  | cons {x y : AV} {xs ys : List AV} (h : LeA x y) (hs : LeL xs ys) : LeL (x :: xs) (y :: ys)

theorem LeL.refl : ∀ (l : List AV), LeL l l
  | [] => .nil
  | _ :: l => .cons .rfl (LeL.refl l)

theorem LeL.len {xs ys : List AV} (h : LeL xs ys) : ys.length = xs.length := by
  induction h with
  | nil => rfl
  | cons _ _ ih => simp [ih]

inductive LeH : List Blk → List Blk → Prop
  | nil : LeH [] []
  | cons {p q : List AV} {f g : Bool} {v : Nat} {ps qs : List Blk} (h : LeL p q) (hs : LeH ps qs) : LeH (⟨p, f, g, v⟩ :: ps) (⟨q, f, g, v⟩ :: qs)

theorem LeH.refl : ∀ (l : List Blk), LeH l l
  | [] => .nil
  | ⟨_, _, _, _⟩ :: l => .cons (.refl _) (LeH.refl l)

theorem LeH.len {xs ys : List Blk} (h : LeH xs ys) : ys.length = xs.length := by
  induction h with
  | nil => rfl
  | cons _ _ ih => simp [ih]

section
variable {P : Program} {S S' S'' X X' V V' Z : Pr} {L : Nat → Prop} {r : Option Nat} {lo : Nat} {yv : Option Nat} {w w' w'' : World} {m m' m'' : List MB} {A A' B C : List (AV × Value)} {hp hp' : List Blk} {tm tm' : List AV} {hv hv' : List (List Value)} {a a' : Act} {Ev : Env P}
  {s s' : St Ev.β} {b : Ev.β} {Q Q' : Exit → St Ev.β → Prop} {c c' : Code}

theorem LeA.rv {x y : AV} {v : Value} (h : LeA x y) (hr : RV S w m yv x v) : RV S w m yv y v := by
  rcases h with rfl | rfl | ⟨h, k, h1⟩ | rfl
  · exact hr
  · exact .bad
  · have hv := isNilSlice_spec h hr
    subst hv
    rcases h1 with rfl | ⟨e, rfl⟩
    · exact .d (.nil k)
    · exact .ownNil
  · exact hr.view

theorem LeA.own {x y : AV} {v : Value} (h : LeA x y) (hr : RV S w m yv x v) : x = y ∨ ownB (y, v) = none := by
  rcases h with rfl | rfl | ⟨h, k, h1⟩ | rfl
  · exact .inl (Eq.refl _)
  · exact .inr (Eq.refl _)
  · have hv := isNilSlice_spec h hr
    subst hv
    rcases h1 with rfl | ⟨e, rfl⟩
    · exact .inr (Eq.refl _)
    · exact .inr (Eq.refl _)
  · exact .inr (ownB_view _ _)

inductive LP : List (AV × Value) → List (AV × Value) → Prop
  | nil : LP [] []
  | cons {x y : AV} {v : Value} {A A' : List (AV × Value)} (h : LeA x y) (hs : LP A A') : LP ((x, v) :: A) ((y, v) :: A')

theorem LP.refl : ∀ (l : List (AV × Value)), LP l l
  | [] => .nil
  | (_, _) :: l => .cons .rfl (LP.refl l)

theorem LP.append {A A' B B' : List (AV × Value)} (h : LP A A') (h' : LP B B') : LP (A ++ B) (A' ++ B') := by
  induction h with
  | nil => exact h'
  | cons h _ ih => exact .cons h ih

theorem LeL.zip {xs ys : List AV} (h : LeL xs ys) : ∀ (vs : List Value), LP (xs.zip vs) (ys.zip vs) := by
  induction h with
  | nil => intro vs; exact .nil
  | cons h _ ih =>
    intro vs
    cases vs with
    | nil => exact .nil
    | cons v vs => exact .cons h (ih vs)

theorem LeH.pairs {ps qs : List Blk} (h : LeH ps qs) : ∀ (hv : List (List Value)), LP (cellPairs ps hv) (cellPairs qs hv) := by
  induction h with
  | nil => intro hv; exact .nil
  | cons h _ ih =>
    intro hv
    cases hv with
    | nil => exact .nil
    | cons v hv =>
      simp only [cellPairs, List.zip_cons_cons, List.flatMap_cons]
      exact (h.zip v).append (ih hv)

theorem Rel.lp (h : LP A A') : ∀ {C : List (AV × Value)}, Rel S X yv w m (A ++ C) hp hv → Rel S X yv w m (A' ++ C) hp hv := by
  induction h with
  | nil => intro C h; exact h
  | @cons x y v A1 A2 h1 _ ih =>
    intro C h
    have h2 : Rel S X yv w m (A1 ++ ((x, v) :: C)) hp hv := h.perm (by simpa using (List.perm_middle (a := (x, v)) (l₁ := A1) (l₂ := C)).symm)
    have h3 := ih h2
    have h4 : Rel S X yv w m ((x, v) :: (A2 ++ C)) hp hv := h3.perm List.perm_middle
    have hr : RV S w m yv x v := h4.rv _ (List.mem_cons_self ..)
    rcases h1.own hr with rfl | hn
    · exact h4
    · exact (h4.sub (List.sublist_cons_self _ _)).cons (h1.rv hr) hn

theorem LeH.get {ps qs : List Blk} (h : LeH ps qs) : ∀ (g : Nat) (q : Blk), qs[g]? = some q → ∃ p, ps[g]? = some p ∧ q.fro = p.fro ∧ q.grow = p.grow ∧ q.ver = p.ver ∧ q.cells.length = p.cells.length := by
  induction h with
  | nil => intro g q hq; simp at hq
  | cons h _ ih =>
    intro g q hq
    cases g with
    | zero => simp at hq; subst hq; exact ⟨_, rfl, rfl, rfl, rfl, h.len⟩
    | succ g => simp at hq; simpa using ih g q hq

theorem Rel.leH (h : LeH hp hp') (hr : Rel S X yv w m A hp hv) : Rel S X yv w m A hp' hv := by
  refine ⟨hr.lt, hr.rv, hr.pw, hr.nm, hr.sp, hr.mnd, hr.ml.trans h.len.symm, hr.hl.trans h.len.symm, fun g blk p vs h1 h2 h3 => ?_⟩
  obtain ⟨blk0, e1, e2, e3, e4, e5⟩ := h.get g blk h1
  obtain ⟨a1, a2, a3, a4, a5, a6, a9, a10⟩ := hr.bl g blk0 p vs e1 h2 h3
  exact ⟨a1.trans e5.symm, a2.trans e3.symm, a3.trans e4.symm, a4, a5, a6, by rw [e2]; exact a9, by rw [e2]; exact a10⟩

theorem Tie.le {pv : List (Nat × Loc)} (h1 : LeL tm tm') (h2 : LeH hp hp') (ht : Tie Ev lo r S X V w m B hv ⟨tm, hp, pv⟩ b a) : Tie Ev lo r S X V w m B hv ⟨tm', hp', []⟩ b a := by
  refine ⟨⟨h1.len.trans ht.rel.1, ?_, by intro p hp; cases hp⟩, ht.sub, ht.env, ht.round, ht.marks, ht.base⟩
  refine Rel.leH h2 ?_
  have := Rel.lp ((h1.zip a.tmps.toList).append ((LP.refl B).append (h2.pairs hv))) (C := []) (by simpa using ht.rel.2.1)
  simpa using this

/-- it is shown of a state that says less -/
theorem W.cast (h1 : LeL tm tm') (h2 : LeH hp hp') (h : W Ev c ⟨tm', hp', b⟩ Q) : W Ev c ⟨tm, hp, b⟩ Q :=
  fun lo r S X V w m B hv a ht => h lo r S X V w m B hv a (ht.le h1 h2)

/-- behind, less may be said -/
theorem W.castPost (h : W Ev c s fun e s' => ∃ tm' hp', LeL s'.tm tm' ∧ LeH s'.hp hp' ∧ Q e ⟨tm', hp', s'.b⟩) : W Ev c s Q := by
  intro lo r S X V w m B hv a ht
  refine wpIn_mono (h lo r S X V w m B hv a ht) ?_
  rintro e a' w' ⟨s', S', X', V', m', hv', ⟨tm', hp', h1, h2, hq⟩, h3, ht'⟩
  exact ⟨_, S', X', V', m', hv', hq, h3, ht'.le h1 h2⟩

/-! ### rounds -/
theorem WR.cast {n : Nat} (h1 : LeL tm tm') (h2 : LeH hp hp') (h : WR Ev c n ⟨tm', hp', b⟩ Q) : WR Ev c n ⟨tm, hp, b⟩ Q := by
  cases n with
  | zero => exact h.elim
  | succ n => exact W.cast h1 h2 h

theorem WR.ofWp {X : CX Ev.β} {n k : Nat} (hm : P.follows .mixedOrders = true) (hX : X.Ok) (h : wpc P X k c tm hp b (thenK (fun tm hp b => WR Ev c n ⟨tm, hp, b⟩ Q) fun e tm hp b => Q e ⟨tm, hp, b⟩)) : WR Ev c (n + 1) ⟨tm, hp, b⟩ Q :=
  wpc_sound hm hX h fun e tm hp b hK => by cases e <;> exact hK

/-- blocks that were laid last are forgotten -/
def scratchK {β : Type} (n : Nat) (K : Exit → List AV → List Blk → β → Prop) : Exit → List AV → List Blk → β → Prop := fun e tm hp b => BIf (lowHp n hp) (K e (lowTm n tm) (hp.take n) b) False

theorem W.ofScratch {X : CX Ev.β} {k : Nat} {K : Exit → List AV → List Blk → Ev.β → Prop} (hm : P.follows .mixedOrders = true) (hX : X.Ok) (h : wpc P X k c tm hp b (scratchK hp.length K)) (hq : ∀ e tm hp b, K e tm hp b → Q e ⟨tm, hp, b⟩) : W Ev c ⟨tm, hp, b⟩ Q := by
  refine W.scratch (wpc_sound hm hX h fun e tm' hp' b' hK => ?_)
  obtain ⟨h1, h2⟩ := hK.elim'
  exact ⟨h1, hq _ _ _ _ h2⟩

/-- a round, whose new blocks are forgotten -/
theorem WR.ofScratch {X : CX Ev.β} {n k : Nat} (hm : P.follows .mixedOrders = true) (hX : X.Ok) (h : wpc P X k c tm hp b (scratchK hp.length (thenK (fun tm hp b => WR Ev c n ⟨tm, hp, b⟩ Q) fun e tm hp b => Q e ⟨tm, hp, b⟩))) : WR Ev c (n + 1) ⟨tm, hp, b⟩ Q :=
  W.ofScratch hm hX h fun e tm hp b hK => by cases e <;> exact hK

/-- of the temporaries, those that are wanted -/
def maskTm (keep : List Nat) : Nat → List AV → List AV
  | _, [] => []
  | i, x :: l => (if keep.contains i then x else .bad) :: maskTm keep (i + 1) l

theorem maskTm_le (keep : List Nat) : ∀ (l : List AV) (i : Nat), LeL l (maskTm keep i l)
  | [], _ => .nil
  | x :: l, i => .cons (by split; exact .rfl; exact .bad) (maskTm_le keep l (i + 1))

/-- blocks that were laid last are forgotten, and temporaries that are not wanted -/
def maskK {β : Type} (n : Nat) (keep : List Nat) (K : Exit → List AV → List Blk → β → Prop) : Exit → List AV → List Blk → β → Prop := fun e tm hp b => BIf (lowHp n hp) (K e (maskTm keep 0 (lowTm n tm)) (hp.take n) b) False

theorem W.ofMask {X : CX Ev.β} {k : Nat} {keep : List Nat} {K : Exit → List AV → List Blk → Ev.β → Prop} (hm : P.follows .mixedOrders = true) (hX : X.Ok) (h : wpc P X k c tm hp b (maskK hp.length keep K)) (hq : ∀ e tm hp b, K e tm hp b → Q e ⟨tm, hp, b⟩) : W Ev c ⟨tm, hp, b⟩ Q := by
  refine W.castPost (W.scratch (wpc_sound hm hX h fun e tm' hp' b' hK => ?_))
  obtain ⟨h1, h2⟩ := hK.elim'
  exact ⟨h1, _, _, maskTm_le keep _ 0, LeH.refl _, hq _ _ _ _ h2⟩

/-- a round, whose new blocks are forgotten -/
theorem WR.ofMask {X : CX Ev.β} {n k : Nat} (keep : List Nat) (hm : P.follows .mixedOrders = true) (hX : X.Ok) (h : wpc P X k c tm hp b (maskK hp.length keep (thenK (fun tm hp b => WR Ev c n ⟨tm, hp, b⟩ Q) fun e tm hp b => Q e ⟨tm, hp, b⟩))) : WR Ev c (n + 1) ⟨tm, hp, b⟩ Q :=
  W.ofMask hm hX h fun e tm hp b hK => by cases e <;> exact hK

/-! ### ranges -/
variable {ι : Type}

/-- what goes on behind a round of a range -/
def rangeC (Ev : Env P) (tm : List AV) (Q : Exit → St Ev.β → Prop) (K : List Blk → Ev.β → Prop) : Exit → List Blk → Ev.β → Prop
  | .normal, hp, b => K hp b
  | .ret, hp, b => Q .ret ⟨tm, hp, b⟩
  | .exit id, hp, b => Q (.exit id) ⟨tm, hp, b⟩
  | .goto t, hp, b => Q (.goto t) ⟨tm, hp, b⟩
  | _, _, _ => False

/-- the round's blocks are forgotten -/
def takeK {β : Type} (n : Nat) (K : Exit → List Blk → β → Prop) : Exit → List AV → List Blk → β → Prop := fun e _ hp b => BIf (lowHp n hp) (K e (hp.take n) b) False

/-- a round of a range -/
def wpcY {β : Type} (P : Program) (X : CX β) (k : Nat) (ps : Array Tmp) (assign body : Code) (tm : List AV) (args : List AV) (hp : List Blk) (b : β) (K : Exit → List AV → List Blk → β → Prop) : Prop :=
  wpc P X k assign (setParams (tm.map AV.view) ps (args.map AV.view)) hp b fun e tm' hp' b' => BIf (match e with | .normal => true | _ => false) (wpc P X k body tm' hp' b' K) False

theorem YBody.ofWp {X : CX Ev.β} {k n : Nat} {ps : Array Tmp} {assign body : Code} {args : List AV} {Qy : Bool → List Blk × Ev.β × Option Exit → Prop} {K : Exit → List AV → List Blk → Ev.β → Prop} (hm : P.follows .mixedOrders = true) (hX : X.Ok) (hl : args.length = ps.size)
    (h : wpcY P X k ps assign body tm args hp b K) (hK : ∀ e tm' hp' b', K e tm' hp' b' → lowHp n hp' = true ∧ match e with
      | .normal => Qy true (hp'.take n, b', none)
      | .ret => Qy false (hp'.take n, b', some .ret)
      | .exit id => Qy false (hp'.take n, b', some (.exit id))
      | .goto t => Qy false (hp'.take n, b', some (.goto t))
      | _ => False) : YBody Ev tm ps assign body n (hp, b, none) args Qy := by
  refine ⟨rfl, hl, wpc_sound hm hX h fun e tm' hp' b' h1 => ?_⟩
  obtain ⟨he, h1⟩ := h1.elim'
  refine ⟨by cases e <;> simp at he ⊢, wpc_sound hm hX h1 fun e tm' hp' b' h2 => hK e tm' hp' b' h2⟩

/-- one more round of a range over a list -/
theorem YList.step {X : CX Ev.β} {k n : Nat} {ps : Array Tmp} {assign body : Code} {x : List AV} {xs : List (List AV)} (hm : P.follows .mixedOrders = true) (hX : X.Ok) (hl : x.length = ps.size)
    (h : wpcY P X k ps assign body tm x hp b (takeK n (rangeC Ev tm Q fun hp' b' => YList (YBody Ev tm ps assign body n) xs (hp', b', none) (rangeQ tm Q)))) : YList (YBody Ev tm ps assign body n) (x :: xs) (hp, b, none) (rangeQ tm Q) := by
  simp only [YList]
  refine YBody.ofWp (k := k) hm hX hl h fun e tm' hp' b' h1 => ?_
  obtain ⟨h1, h2⟩ := h1.elim'
  refine ⟨h1, ?_⟩
  cases e with
  | normal => simpa [rangeC] using h2
  | ret => simpa [rangeQ, rangeC] using h2
  | exit id => simpa [rangeQ, rangeC] using h2
  | goto t => simpa [rangeQ, rangeC] using h2
  | panic ch => exact h2.elim
  | outgrown => exact h2.elim

/-- a range over a list may begin at blocks of which less is said -/
theorem YList.cast {n : Nat} {ps : Array Tmp} {assign body : Code} {xs : List (List AV)} (hh : LeH hp hp') (hx : xs ≠ []) (h : YList (YBody Ev tm ps assign body n) xs (hp', b, none) (rangeQ tm Q)) : YList (YBody Ev tm ps assign body n) xs (hp, b, none) (rangeQ tm Q) := by
  cases xs with
  | nil => exact absurd rfl hx
  | cons x xs =>
    simp only [YList] at h ⊢
    exact ⟨h.1, h.2.1, W.cast (LeL.refl _) hh h.2.2⟩

/-- a function's contract -/
theorem PCall.ofFn {f n : Nat} {fn : Func} {args : List AV} {x : AV} {T : List (Nat × (List AV → (AV → Prop) → Prop))} {U : List (Nat × (List AV → List Blk → (AV → List Blk → Prop) → Prop))} {u : Bool} (hm : P.follows .mixedOrders = true)
    (hT : CallsOk P T) (hS : SCallsOk P U) (hf : P.funcs[f]? = some fn) (hn : (fn.name == "runtime.NumGoroutine") = false) (hargs : args.map AV.view = args)
    (h : ∀ (Ev : Env P) (b : Ev.β), wpFn P ⟨T, U, wlW Ev, Ev.Y, u⟩ n fn args b (fun y _ => y = x)) : PCall P f args x := by
  cases hb : fn.body with
  | some c => exact PCall.ofWp hm hT hS hf hb hn hargs fun Ev b => by have := h Ev b; unfold wpFn at this; rw [hb] at this; exact this
  | none =>
    have := h (Env.none P none) ()
    unfold wpFn at this
    rw [hb] at this
    exact this.elim

/-- results of which less is said -/
inductive LeT : AV → AV → Prop
  | base {x y : AV} (h : LeA x y) : LeT x y
  | tup {xs ys : List AV} (h : LeL xs ys) : LeT (.tup xs) (.tup ys)
  | agg {xs ys : List AV} (h : LeL xs ys) : LeT (.agg xs) (.agg ys)

theorem LeL.rvs {xs ys : List AV} (h : LeL xs ys) : ∀ (vs : List Value), xs.length = vs.length → (∀ (i : Nat) (c : AV) (v : Value), xs[i]? = some c → vs[i]? = some v → RV S w m yv c v) → ∀ (i : Nat) (c : AV) (v : Value), ys[i]? = some c → vs[i]? = some v → RV S w m yv c v := by
  induction h with
  | nil => intro vs _ _ i c v hc; simp at hc
  | cons h _ ih =>
    intro vs hl hr i c v hc hv
    cases vs with
    | nil => simp at hl
    | cons v0 vs =>
      cases i with
      | zero => simp at hc hv; subst hc; subst hv; exact h.rv (hr 0 _ _ rfl rfl)
      | succ i => simp at hc hv; exact ih vs (by simpa using hl) (fun i c v h1 h2 => hr (i + 1) c v (by simpa using h1) (by simpa using h2)) i c v hc hv

theorem LeT.rv {x y : AV} {v : Value} (h : LeT x y) (hr : RV S w m yv x v) : RV S w m yv y v := by
  cases h with
  | base h => exact h.rv hr
  | tup h =>
    cases hr with
    | tup hl hr => exact .tup (h.len.trans hl) fun i c v h1 h2 => h.rvs _ (by rw [Array.length_toList]; exact hl) (fun i c v h1 h2 => hr i c v h1 (by simpa using h2)) i c v h1 (by simpa using h2)
  | agg h =>
    cases hr with
    | agg hl hr => exact .agg (h.len.trans hl) fun i c v h1 h2 => h.rvs _ (by rw [Array.length_toList]; exact hl) (fun i c v h1 h2 => hr i c v h1 (by simpa using h2)) i c v h1 (by simpa using h2)

theorem LeT.rfl {x : AV} : LeT x x := .base .rfl

theorem PCall.le {f : Nat} {args : List AV} {x y : AV} (h : LeT x y) (hv : x.view = x) (hp : PCall P f args x) : PCall P f args y := by
  refine ⟨hp.1, fun S w vs hl hvs hlt => CallsIn.mono (hp.2 S w vs hl hvs hlt) ?_⟩
  rintro e w' ⟨v, S', h1, h2, h3, h4, h5⟩
  rw [hv] at h5
  exact ⟨v, S', h1, h2, h3, h4, (h.rv h5).view⟩

/-- a function that turns nothing of its callers'; less is said of its result -/
theorem PCall.ofWL {f : Nat} {fn : Func} {c : Code} {args : List AV} {x : AV} (hf : P.funcs[f]? = some fn) (hb : fn.body = some c) (hn : (fn.name == "runtime.NumGoroutine") = false) (hargs : args.map AV.view = args)
    (hW : ∀ (Ev : Env P) (b : Ev.β), W Ev c ⟨startTm fn args, [], b⟩ (FnPost P fn fun y hp _ => ∃ z, sealV hp y = some z ∧ LeT z x)) : PCall P f args x := by
  refine ⟨enter_ok hf hb hn, fun S w vs hl hvs hlt => ?_⟩
  have hrel : Rel S (fun b _ => b < w.heap.size) none w [] (args.zip vs ++ ([] ++ cellPairs [] [])) [] [] := by
    have h0 : Rel S (fun b _ => b < w.heap.size) none w [] [] [] [] := ⟨fun b i h => h.elim (hlt b i) id, by simp, List.Pairwise.nil, by simp, by simp, by simp, rfl, rfl, by simp⟩
    have := h0.pushAll (args.zip vs) (fun p hp => by
      obtain ⟨j, hj⟩ := List.mem_iff_getElem?.1 hp
      rw [List.getElem?_zip_eq_some] at hj
      refine ⟨hvs j p.1 p.2 hj.1 hj.2, ?_⟩
      have hp1 : p.1.view = p.1 := by
        have h1 : (args.map AV.view)[j]? = some p.1.view := by simp [hj.1]
        rw [hargs, hj.1] at h1; exact (Option.some.inj h1).symm
      obtain ⟨p1, p2⟩ := p
      simp only at hp1
      rw [← hp1]; exact ownB_view _ _)
    simpa [cellPairs] using this
  refine calls_of_W (Ev := Env.none P none) (V := fun _ _ => False) (b := (() : Unit)) hf hb hl (hW (Env.none P _) (() : Unit)) hrel (fun _ _ h => h.elim) trivial (Nat.zero_le _) ?_
  intro y S' X' V' w' m' hv' hp' v b' hyz htr0 hxs hm hr _ hyv
  obtain ⟨z, hy, hz⟩ := hyz
  have htr : Tr (fun b i => ¬ b < w.heap.size) (fun _ => False) S w S' w' := htr0.mono (fun b i h => h.resolve_right id) (fun _ h => h)
  refine ⟨v, withBlocks S' m', rfl, below_of_tr htr (fun b i hb hz => hz hb) (fun _ h => h), fun b i hs => .inl (htr.up b i hs), fun b i hs => ?_, (hz.rv (seal_sound (B := []) (by simpa using hr) hyv hy)).view⟩
  rcases hs with hs | ⟨g, p, hg, rfl, hi⟩
  · rcases htr.new b i hs with h1 | h1 | h1
    · exact .inl h1
    · exact .inr ⟨Nat.le_of_not_lt h1, htr.lt b i hs⟩
    · exact .inr ⟨h1, htr.lt b i hs⟩
  · have hr' : Rel S' X' none w' m' (([] : List (AV × Value)) ++ cellPairs hp' hv') hp' hv' := hr
    obtain ⟨blk, us, cur, e, g1, g2, g3, g4, g5, g6, g7, g8, g9, g10, g11, g12⟩ := hr'.block hg
    have hlt' : p.b < w'.heap.size := (Array.getElem?_eq_some_iff.1 g8).1
    cases hfr : blk.fro with
    | true =>
      have hs := g12 hfr i hi
      rcases htr.new _ _ hs with h1 | h1 | h1
      · exact .inl h1
      · exact .inr ⟨Nat.le_of_not_lt h1, hlt'⟩
      · exact .inr ⟨h1, hlt'⟩
    | false =>
      refine .inr ⟨Nat.le_of_not_lt fun hb => ?_, hlt'⟩
      exact (g11 hfr i).2 (hxs _ _ hb)

theorem CX.Ok.ofWl {Ev : Env P} {T : List (Nat × (List AV → (AV → Prop) → Prop))} {U : List (Nat × (List AV → List Blk → (AV → List Blk → Prop) → Prop))} {u : Bool} {wl : WLT Ev.β} (hT : CallsOk P T) (hS : SCallsOk P U)
    (hwl : ∀ c tm hp b K, wl c tm hp b K → W Ev c ⟨tm, hp, b⟩ (fun e s => K e s.tm s.hp s.b)) : CX.Ok Ev ⟨T, U, wl, Ev.Y, u⟩ := ⟨hT, hS, hwl, rfl⟩

/-- a function's contract, with what its loops come to -/
theorem PCall.ofFnW {f n : Nat} {fn : Func} {args : List AV} {x : AV} {T : List (Nat × (List AV → (AV → Prop) → Prop))} {U : List (Nat × (List AV → List Blk → (AV → List Blk → Prop) → Prop))} {u : Bool} (wl : ∀ β : Type, WLT β) (hm : P.follows .mixedOrders = true)
    (hT : CallsOk P T) (hS : SCallsOk P U) (hwl : ∀ (Ev : Env P) c tm hp b K, wl Ev.β c tm hp b K → W Ev c ⟨tm, hp, b⟩ (fun e s => K e s.tm s.hp s.b)) (hf : P.funcs[f]? = some fn) (hn : (fn.name == "runtime.NumGoroutine") = false) (hargs : args.map AV.view = args)
    (h : ∀ (Ev : Env P) (b : Ev.β), wpFn P ⟨T, U, wl Ev.β, Ev.Y, u⟩ n fn args b (fun y _ => y = x)) : PCall P f args x := by
  cases hb : fn.body with
  | some c =>
    refine PCall.ofW hf hb hn hargs fun Ev b => ?_
    have h1 := h Ev b
    unfold wpFn at h1
    rw [hb] at h1
    refine wpc_sound hm (CX.Ok.ofWl hT hS (hwl Ev)) h1 fun e tm hp b hK => ?_
    obtain ⟨g1, ys, g2, z, g3, rfl⟩ := fnK_sound hK
    exact ⟨g1, ys, g2, g3⟩
  | none =>
    have := h (Env.none P none) ()
    unfold wpFn at this
    rw [hb] at this
    exact this.elim

/-- a function's contract, with what its loops come to; less is said of its result -/
theorem PCall.ofFnL {f n : Nat} {fn : Func} {args : List AV} {x : AV} {T : List (Nat × (List AV → (AV → Prop) → Prop))} {U : List (Nat × (List AV → List Blk → (AV → List Blk → Prop) → Prop))} {u : Bool} (wl : ∀ β : Type, WLT β) (hm : P.follows .mixedOrders = true)
    (hT : CallsOk P T) (hS : SCallsOk P U) (hwl : ∀ (Ev : Env P) c tm hp b K, wl Ev.β c tm hp b K → W Ev c ⟨tm, hp, b⟩ (fun e s => K e s.tm s.hp s.b)) (hf : P.funcs[f]? = some fn) (hn : (fn.name == "runtime.NumGoroutine") = false) (hargs : args.map AV.view = args)
    (h : ∀ (Ev : Env P) (b : Ev.β), wpFn P ⟨T, U, wl Ev.β, Ev.Y, u⟩ n fn args b (fun y _ => LeT y x)) : PCall P f args x := by
  cases hb : fn.body with
  | some c =>
    refine PCall.ofWL hf hb hn hargs fun Ev b => ?_
    have h1 := h Ev b
    unfold wpFn at h1
    rw [hb] at h1
    refine wpc_sound hm (CX.Ok.ofWl hT hS (hwl Ev)) h1 fun e tm hp b hK => ?_
    exact fnK_sound hK
  | none =>
    have := h (Env.none P none) ()
    unfold wpFn at this
    rw [hb] at this
    exact this.elim

/-- no loops but such as are run round by round -/
def wlNo (β : Type) : WLT β := fun _ _ _ _ _ => False
theorem wlNo_ok (Ev : Env P) : ∀ c tm hp b K, wlNo Ev.β c tm hp b K → W Ev c ⟨tm, hp, b⟩ (fun e s => K e s.tm s.hp s.b) := fun _ _ _ _ _ h => h.elim

end
end Go.Proofs.Ytgdeoaiakdkhcaa.Am
