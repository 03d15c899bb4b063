import Derived.Test.YtfeemohdpmdaoaaDoorJ2
import Derived.ChangeArms
import Derived.OpenShut
import Derived.ChangeShapes
import Derived.Carry
import Derived.ProofKit
import Derived.LaidMore
import Derived.FnData
import Derived.Test.YtfeemohdpmdaoaaDoorProg
set_option linter.unusedSimpArgs false
/- Readings that say less; rounds of loops; ranges over lists. -/
namespace Go.Proofs.YtfeemohdpmdaoaaDoor.Am
set_option linter.unusedVariables false
set_option linter.unusedSimpArgs false
open Go Go.RowKit

/-- y says no more than x -/
def LeA (x y : AV) : Prop := x = y ∨ y = .bad ∨ (isNilSlice x = true ∧ ∃ k, (y = .d (.sl k []) ∨ ∃ e, y = .own e k [])) ∨ y = x.view

theorem LeA.rfl {x : AV} : LeA x x := .inl (Eq.refl x)
theorem LeA.bad {x : AV} : LeA x .bad := .inr (.inl (Eq.refl _))
theorem LeA.nilOwn {x : AV} {e k : Nat} (h : isNilSlice x = true) : LeA x (.own e k []) := .inr (.inr (.inl ⟨h, k, .inr ⟨e, Eq.refl _⟩⟩))
theorem LeA.nilSl {x : AV} {k : Nat} (h : isNilSlice x = true) : LeA x (.d (.sl k [])) := .inr (.inr (.inl ⟨h, k, .inl (Eq.refl _)⟩))
theorem LeA.view {x : AV} : LeA x x.view := .inr (.inr (.inr (Eq.refl _)))
theorem LeA.of_eq {x y : AV} (h : x = y) : LeA x y := .inl h

inductive LeL : List AV → List AV → Prop
  | nil : LeL [] []
  | cons {x y : AV} {xs ys : List AV} (h : LeA x y) (hs : LeL xs ys) : LeL (x :: xs) (y :: ys)

theorem LeL.refl : ∀ (l : List AV), LeL l l
  | [] => .nil
  | _ :: l => .cons .rfl (LeL.refl l)

theorem LeL.len {xs ys : List AV} (h : LeL xs ys) : ys.length = xs.length := by
  induction h with
  | nil => rfl
  | cons _ _ ih => simp [ih]

inductive LeH : List Blk → List Blk → Prop
  | nil : LeH [] []
  | cons {p q : List AV} {f g : Bool} {v : Nat} {ps qs : List Blk} (h : LeL p q) (hs : LeH ps qs) : LeH (⟨p, f, g, v⟩ :: ps) (⟨q, f, g, v⟩ :: qs)

theorem LeH.refl : ∀ (l : List Blk), LeH l l
  | [] => .nil
  | ⟨_, _, _, _⟩ :: l => .cons (.refl _) (LeH.refl l)

theorem LeH.len {xs ys : List Blk} (h : LeH xs ys) : ys.length = xs.length := by
  induction h with
  | nil => rfl
  | cons _ _ ih => simp [ih]

section
variable {P : Program} {S S' S'' X X' V V' Z : Pr} {L : Nat → Prop} {r : Option Nat} {lo : Nat} {yv : Option Nat} {w w' w'' : World} {m m' m'' : List MB} {A A' B C : List (AV × Value)} {hp hp' : List Blk} {tm tm' : List AV} {hv hv' : List (List Value)} {a a' : Act} {Ev : Env P}
  {s s' : St Ev.β} {b : Ev.β} {Q Q' : Exit → St Ev.β → Prop} {c c' : Code}

theorem LeA.rv {x y : AV} {v : Value} (h : LeA x y) (hr : RV S w m yv x v) : RV S w m yv y v := by
  rcases h with rfl | rfl | ⟨h, k, h1⟩ | rfl
  · exact hr
  · exact .bad
  · have hv := isNilSlice_spec h hr
    subst hv
    rcases h1 with rfl | ⟨e, rfl⟩
    · exact .d (.nil k)
    · exact .ownNil
  · exact hr.view

theorem LeA.own {x y : AV} {v : Value} (h : LeA x y) (hr : RV S w m yv x v) : x = y ∨ ownB (y, v) = none := by
  rcases h with rfl | rfl | ⟨h, k, h1⟩ | rfl
  · exact .inl (Eq.refl _)
  · exact .inr (Eq.refl _)
  · have hv := isNilSlice_spec h hr
    subst hv
    rcases h1 with rfl | ⟨e, rfl⟩
    · exact .inr (Eq.refl _)
    · exact .inr (Eq.refl _)
  · exact .inr (ownB_view _ _)

inductive LP : List (AV × Value) → List (AV × Value) → Prop
  | nil : LP [] []
  | cons {x y : AV} {v : Value} {A A' : List (AV × Value)} (h : LeA x y) (hs : LP A A') : LP ((x, v) :: A) ((y, v) :: A')

theorem LP.refl : ∀ (l : List (AV × Value)), LP l l
  | [] => .nil
  | (_, _) :: l => .cons .rfl (LP.refl l)

theorem LP.append {A A' B B' : List (AV × Value)} (h : LP A A') (h' : LP B B') : LP (A ++ B) (A' ++ B') := by
  induction h with
  | nil => exact h'
  | cons h _ ih => exact .cons h ih

theorem LeL.zip {xs ys : List AV} (h : LeL xs ys) : ∀ (vs : List Value), LP (xs.zip vs) (ys.zip vs) := by
  induction h with
  | nil => intro vs; exact .nil
  | cons h _ ih =>
    intro vs
    cases vs with
    | nil => exact .nil
    | cons v vs => exact .cons h (ih vs)

theorem LeH.pairs {ps qs : List Blk} (h : LeH ps qs) : ∀ (hv : List (List Value)), LP (cellPairs ps hv) (cellPairs qs hv) := by
  induction h with
  | nil => intro hv; exact .nil
  | cons h _ ih =>
    intro hv
    cases hv with
    | nil => exact .nil
    | cons v hv =>
      simp only [cellPairs, List.zip_cons_cons, List.flatMap_cons]
      exact (h.zip v).append (ih hv)

theorem Rel.lp (h : LP A A') : ∀ {C : List (AV × Value)}, Rel S X yv w m (A ++ C) hp hv → Rel S X yv w m (A' ++ C) hp hv := by
  induction h with
  | nil => intro C h; exact h
  | @cons x y v A1 A2 h1 _ ih =>
    intro C h
    have h2 : Rel S X yv w m (A1 ++ ((x, v) :: C)) hp hv := h.perm (by simpa using (List.perm_middle (a := (x, v)) (l₁ := A1) (l₂ := C)).symm)
    have h3 := ih h2
    have h4 : Rel S X yv w m ((x, v) :: (A2 ++ C)) hp hv := h3.perm List.perm_middle
    have hr : RV S w m yv x v := h4.rv _ (List.mem_cons_self ..)
    rcases h1.own hr with rfl | hn
    · exact h4
    · exact (h4.sub (List.sublist_cons_self _ _)).cons (h1.rv hr) hn

theorem LeH.get {ps qs : List Blk} (h : LeH ps qs) : ∀ (g : Nat) (q : Blk), qs[g]? = some q → ∃ p, ps[g]? = some p ∧ q.fro = p.fro ∧ q.grow = p.grow ∧ q.ver = p.ver ∧ q.cells.length = p.cells.length := by
  induction h with
  | nil => intro g q hq; simp at hq
  | cons h _ ih =>
    intro g q hq
    cases g with
    | zero => simp at hq; subst hq; exact ⟨_, rfl, rfl, rfl, rfl, h.len⟩
    | succ g => simp at hq; simpa using ih g q hq

theorem Rel.leH (h : LeH hp hp') (hr : Rel S X yv w m A hp hv) : Rel S X yv w m A hp' hv := by
  refine ⟨hr.lt, hr.rv, hr.pw, hr.nm, hr.sp, hr.mnd, hr.ml.trans h.len.symm, hr.hl.trans h.len.symm, fun g blk p vs h1 h2 h3 => ?_, hr.gl⟩
  obtain ⟨blk0, e1, e2, e3, e4, e5⟩ := h.get g blk h1
  obtain ⟨a1, a2, a3, a4, a5, a6, a9, a10⟩ := hr.bl g blk0 p vs e1 h2 h3
  exact ⟨a1.trans e5.symm, a2.trans e3.symm, a3.trans e4.symm, a4, a5, a6, by rw [e2]; exact a9, by rw [e2]; exact a10⟩

theorem Tie.le {pv : List (Nat × Loc)} (h1 : LeL tm tm') (h2 : LeH hp hp') (ht : Tie Ev lo r S X V w m B hv ⟨tm, hp, pv⟩ b a) : Tie Ev lo r S X V w m B hv ⟨tm', hp', []⟩ b a := by
  refine ⟨⟨h1.len.trans ht.rel.1, ?_, by intro p hp; cases hp⟩, ht.sub, ht.env, ht.round, ht.marks, ht.base⟩
  refine Rel.leH h2 ?_
  have := Rel.lp ((h1.zip a.tmps.toList).append ((LP.refl B).append (h2.pairs hv))) (C := []) (by simpa using ht.rel.2.1)
  simpa using this

/-- it is shown of a state that says less -/
theorem W.cast (h1 : LeL tm tm') (h2 : LeH hp hp') (h : W Ev c ⟨tm', hp', b⟩ Q) : W Ev c ⟨tm, hp, b⟩ Q :=
  fun lo r S X V w m B hv a ht => h lo r S X V w m B hv a (ht.le h1 h2)

/-- behind, less may be said -/
theorem W.castPost (h : W Ev c s fun e s' => ∃ tm' hp', LeL s'.tm tm' ∧ LeH s'.hp hp' ∧ Q e ⟨tm', hp', s'.b⟩) : W Ev c s Q := by
  intro lo r S X V w m B hv a ht
  refine wpIn_mono (h lo r S X V w m B hv a ht) ?_
  rintro e a' w' ⟨s', S', X', V', m', hv', ⟨tm', hp', h1, h2, hq⟩, h3, ht'⟩
  exact ⟨_, S', X', V', m', hv', hq, h3, ht'.le h1 h2⟩

/-! ### rounds -/
theorem WR.cast {n : Nat} (h1 : LeL tm tm') (h2 : LeH hp hp') (h : WR Ev c n ⟨tm', hp', b⟩ Q) : WR Ev c n ⟨tm, hp, b⟩ Q := by
  cases n with
  | zero => exact h.elim
  | succ n => exact W.cast h1 h2 h

theorem WR.ofWp {X : CX Ev.β} {n k : Nat} (hm : P.follows .mixedOrders = true) (hX : X.Ok) (h : wpc P X k c tm hp b (thenK (fun tm hp b => WR Ev c n ⟨tm, hp, b⟩ Q) fun e tm hp b => Q e ⟨tm, hp, b⟩)) : WR Ev c (n + 1) ⟨tm, hp, b⟩ Q :=
  wpc_sound hm hX h fun e tm hp b hK => by cases e <;> exact hK

/-- blocks that were laid last are forgotten -/
def scratchK {β : Type} (n : Nat) (K : Exit → List AV → List Blk → β → Prop) : Exit → List AV → List Blk → β → Prop := fun e tm hp b => BIf (lowHp n hp) (K e (lowTm n tm) (hp.take n) b) False

theorem W.ofScratch {X : CX Ev.β} {k : Nat} {K : Exit → List AV → List Blk → Ev.β → Prop} (hm : P.follows .mixedOrders = true) (hX : X.Ok) (h : wpc P X k c tm hp b (scratchK hp.length K)) (hq : ∀ e tm hp b, K e tm hp b → Q e ⟨tm, hp, b⟩) : W Ev c ⟨tm, hp, b⟩ Q := by
  refine W.scratch (wpc_sound hm hX h fun e tm' hp' b' hK => ?_)
  obtain ⟨h1, h2⟩ := hK.elim'
  exact ⟨h1, hq _ _ _ _ h2⟩

/-- a round, whose new blocks are forgotten -/
theorem WR.ofScratch {X : CX Ev.β} {n k : Nat} (hm : P.follows .mixedOrders = true) (hX : X.Ok) (h : wpc P X k c tm hp b (scratchK hp.length (thenK (fun tm hp b => WR Ev c n ⟨tm, hp, b⟩ Q) fun e tm hp b => Q e ⟨tm, hp, b⟩))) : WR Ev c (n + 1) ⟨tm, hp, b⟩ Q :=
  W.ofScratch hm hX h fun e tm hp b hK => by cases e <;> exact hK

/-- of the temporaries, those that are wanted -/
def maskTm (keep : List Nat) : Nat → List AV → List AV
  | _, [] => []
  | i, x :: l => (if keep.contains i then x else .bad) :: maskTm keep (i + 1) l

theorem maskTm_le (keep : List Nat) : ∀ (l : List AV) (i : Nat), LeL l (maskTm keep i l)
  | [], _ => .nil
  | x :: l, i => .cons (by split; exact .rfl; exact .bad) (maskTm_le keep l (i + 1))

/-- blocks that were laid last are forgotten, and temporaries that are not wanted -/
def maskK {β : Type} (n : Nat) (keep : List Nat) (K : Exit → List AV → List Blk → β → Prop) : Exit → List AV → List Blk → β → Prop := fun e tm hp b => BIf (lowHp n hp) (K e (maskTm keep 0 (lowTm n tm)) (hp.take n) b) False

theorem W.ofMask {X : CX Ev.β} {k : Nat} {keep : List Nat} {K : Exit → List AV → List Blk → Ev.β → Prop} (hm : P.follows .mixedOrders = true) (hX : X.Ok) (h : wpc P X k c tm hp b (maskK hp.length keep K)) (hq : ∀ e tm hp b, K e tm hp b → Q e ⟨tm, hp, b⟩) : W Ev c ⟨tm, hp, b⟩ Q := by
  refine W.castPost (W.scratch (wpc_sound hm hX h fun e tm' hp' b' hK => ?_))
  obtain ⟨h1, h2⟩ := hK.elim'
  exact ⟨h1, _, _, maskTm_le keep _ 0, LeH.refl _, hq _ _ _ _ h2⟩

/-- a round, whose new blocks are forgotten -/
theorem WR.ofMask {X : CX Ev.β} {n k : Nat} (keep : List Nat) (hm : P.follows .mixedOrders = true) (hX : X.Ok) (h : wpc P X k c tm hp b (maskK hp.length keep (thenK (fun tm hp b => WR Ev c n ⟨tm, hp, b⟩ Q) fun e tm hp b => Q e ⟨tm, hp, b⟩))) : WR Ev c (n + 1) ⟨tm, hp, b⟩ Q :=
  W.ofMask hm hX h fun e tm hp b hK => by cases e <;> exact hK

/-- temporaries that are not wanted are forgotten -/
def maskT {β : Type} (keep : List Nat) (K : Exit → List AV → List Blk → β → Prop) : Exit → List AV → List Blk → β → Prop := fun e tm hp b => K e (maskTm keep 0 tm) hp b
theorem WR.ofMaskT {X : CX Ev.β} {n k : Nat} (keep : List Nat) (hm : P.follows .mixedOrders = true) (hX : X.Ok) (h : wpc P X k c tm hp b (maskT keep (thenK (fun tm hp b => WR Ev c n ⟨tm, hp, b⟩ Q) fun e tm hp b => Q e ⟨tm, hp, b⟩))) : WR Ev c (n + 1) ⟨tm, hp, b⟩ Q :=
  W.castPost (wpc_sound hm hX h fun e tm hp b hK => ⟨maskTm keep 0 tm, hp, maskTm_le _ tm 0, LeH.refl _, by cases e <;> exact hK⟩)
theorem lows_flatA (n : Nat) (xs : List (List Dv)) : lows n (flatA xs) = true := by
  unfold flatA
  induction xs.flatten with
  | nil => rfl
  | cons d l ih => simp only [List.map_cons, lows, AV.low, Bool.true_and]; exact ih

/-! ### ranges -/
variable {ι : Type}

/-- what goes on behind a round of a range -/
def rangeC (Ev : Env P) (tm : List AV) (Q : Exit → St Ev.β → Prop) (K : List Blk → Ev.β → Prop) : Exit → List Blk → Ev.β → Prop
  | .normal, hp, b => K hp b
  | .ret, hp, b => Q .ret ⟨tm, hp, b⟩
  | .exit id, hp, b => Q (.exit id) ⟨tm, hp, b⟩
  | .goto t, hp, b => Q (.goto t) ⟨tm, hp, b⟩
  | _, _, _ => False

/-- the round's blocks are forgotten -/
def takeK {β : Type} (n : Nat) (K : Exit → List Blk → β → Prop) : Exit → List AV → List Blk → β → Prop := fun e _ hp b => BIf (lowHp n hp) (K e (hp.take n) b) False

/-- a round of a range -/
def wpcY {β : Type} (P : Program) (X : CX β) (k : Nat) (ps : Array Tmp) (assign body : Code) (tm : List AV) (args : List AV) (hp : List Blk) (b : β) (K : Exit → List AV → List Blk → β → Prop) : Prop :=
  wpc P X k assign (setParams (tm.map AV.view) ps (args.map AV.view)) hp b fun e tm' hp' b' => BIf (match e with | .normal => true | _ => false) (wpc P X k body tm' hp' b' K) False

theorem YBody.ofWp {X : CX Ev.β} {k n : Nat} {ps : Array Tmp} {assign body : Code} {args : List AV} {Qy : Bool → List Blk × Ev.β × Option Exit → Prop} {K : Exit → List AV → List Blk → Ev.β → Prop} (hm : P.follows .mixedOrders = true) (hX : X.Ok) (hl : args.length = ps.size)
    (h : wpcY P X k ps assign body tm args hp b K) (hK : ∀ e tm' hp' b', K e tm' hp' b' → lowHp n hp' = true ∧ match e with
      | .normal => Qy true (hp'.take n, b', none)
      | .ret => Qy false (hp'.take n, b', some .ret)
      | .exit id => Qy false (hp'.take n, b', some (.exit id))
      | .goto t => Qy false (hp'.take n, b', some (.goto t))
      | _ => False) : YBody Ev tm ps assign body n (hp, b, none) args Qy := by
  refine ⟨rfl, hl, wpc_sound hm hX h fun e tm' hp' b' h1 => ?_⟩
  obtain ⟨he, h1⟩ := h1.elim'
  refine ⟨by cases e <;> simp at he ⊢, wpc_sound hm hX h1 fun e tm' hp' b' h2 => hK e tm' hp' b' h2⟩

/-- one more round of a range over a list -/
theorem YList.step {X : CX Ev.β} {k n : Nat} {ps : Array Tmp} {assign body : Code} {x : List AV} {xs : List (List AV)} (hm : P.follows .mixedOrders = true) (hX : X.Ok) (hl : x.length = ps.size)
    (h : wpcY P X k ps assign body tm x hp b (takeK n (rangeC Ev tm Q fun hp' b' => YList (YBody Ev tm ps assign body n) xs (hp', b', none) (rangeQ tm Q)))) : YList (YBody Ev tm ps assign body n) (x :: xs) (hp, b, none) (rangeQ tm Q) := by
  simp only [YList]
  refine YBody.ofWp (k := k) hm hX hl h fun e tm' hp' b' h1 => ?_
  obtain ⟨h1, h2⟩ := h1.elim'
  refine ⟨h1, ?_⟩
  cases e with
  | normal => simpa [rangeC] using h2
  | ret => simpa [rangeQ, rangeC] using h2
  | exit id => simpa [rangeQ, rangeC] using h2
  | goto t => simpa [rangeQ, rangeC] using h2
  | panic ch => exact h2.elim
  | outgrown => exact h2.elim

/-- a range over a list may begin at blocks of which less is said -/
theorem YList.cast {n : Nat} {ps : Array Tmp} {assign body : Code} {xs : List (List AV)} (hh : LeH hp hp') (hx : xs ≠ []) (h : YList (YBody Ev tm ps assign body n) xs (hp', b, none) (rangeQ tm Q)) : YList (YBody Ev tm ps assign body n) xs (hp, b, none) (rangeQ tm Q) := by
  cases xs with
  | nil => exact absurd rfl hx
  | cons x xs =>
    simp only [YList] at h ⊢
    exact ⟨h.1, h.2.1, W.cast (LeL.refl _) hh h.2.2⟩

/-- a function's contract -/
theorem PCall.ofFn {f n : Nat} {fn : Func} {args : List AV} {x : AV} {T : List (Nat × (List AV → (AV → Prop) → Prop))} {U : List (Nat × (List AV → List Blk → (AV → List Blk → Prop) → Prop))} {u : Bool} (hm : P.follows .mixedOrders = true)
    (hT : CallsOk P T) (hS : SCallsOk P U) (hf : P.funcs[f]? = some fn) (hn : (fn.name == "runtime.NumGoroutine") = false) (hargs : args.map AV.view = args)
    (h : ∀ (Ev : Env P) (b : Ev.β), wpFn P ⟨T, U, wlW Ev, Ev.Y, u⟩ n fn args b (fun y _ => y = x)) : PCall P f args x := by
  cases hb : fn.body with
  | some c => exact PCall.ofWp hm hT hS hf hb hn hargs fun Ev b => by have := h Ev b; unfold wpFn at this; rw [hb] at this; exact this
  | none =>
    have := h (Env.none P none) ()
    unfold wpFn at this
    rw [hb] at this
    exact this.elim

/-- results of which less is said -/
inductive LeT : AV → AV → Prop
  | base {x y : AV} (h : LeA x y) : LeT x y
  | tup {xs ys : List AV} (h : LeL xs ys) : LeT (.tup xs) (.tup ys)
  | agg {xs ys : List AV} (h : LeL xs ys) : LeT (.agg xs) (.agg ys)

theorem LeL.rvs {xs ys : List AV} (h : LeL xs ys) : ∀ (vs : List Value), xs.length = vs.length → (∀ (i : Nat) (c : AV) (v : Value), xs[i]? = some c → vs[i]? = some v → RV S w m yv c v) → ∀ (i : Nat) (c : AV) (v : Value), ys[i]? = some c → vs[i]? = some v → RV S w m yv c v := by
  induction h with
  | nil => intro vs _ _ i c v hc; simp at hc
  | cons h _ ih =>
    intro vs hl hr i c v hc hv
    cases vs with
    | nil => simp at hl
    | cons v0 vs =>
      cases i with
      | zero => simp at hc hv; subst hc; subst hv; exact h.rv (hr 0 _ _ rfl rfl)
      | succ i => simp at hc hv; exact ih vs (by simpa using hl) (fun i c v h1 h2 => hr (i + 1) c v (by simpa using h1) (by simpa using h2)) i c v hc hv

theorem LeT.rv {x y : AV} {v : Value} (h : LeT x y) (hr : RV S w m yv x v) : RV S w m yv y v := by
  cases h with
  | base h => exact h.rv hr
  | tup h =>
    cases hr with
    | tup hl hr => exact .tup (h.len.trans hl) fun i c v h1 h2 => h.rvs _ (by rw [Array.length_toList]; exact hl) (fun i c v h1 h2 => hr i c v h1 (by simpa using h2)) i c v h1 (by simpa using h2)
  | agg h =>
    cases hr with
    | agg hl hr => exact .agg (h.len.trans hl) fun i c v h1 h2 => h.rvs _ (by rw [Array.length_toList]; exact hl) (fun i c v h1 h2 => hr i c v h1 (by simpa using h2)) i c v h1 (by simpa using h2)

theorem LeT.rfl {x : AV} : LeT x x := .base .rfl

theorem PCall.le {f : Nat} {args : List AV} {x y : AV} (h : LeT x y) (hv : x.view = x) (hp : PCall P f args x) : PCall P f args y := by
  refine ⟨hp.1, fun S w vs hl hvs hlt hgl => CallsIn.mono (hp.2 S w vs hl hvs hlt hgl) ?_⟩
  rintro e w' ⟨v, S', h1, h2, h3, h4, h5⟩
  rw [hv] at h5
  exact ⟨v, S', h1, h2, h3, h4, (h.rv h5).view⟩

/-- a function that turns nothing of its callers'; less is said of its result -/
theorem PCall.ofWL {f : Nat} {fn : Func} {c : Code} {args : List AV} {x : AV} (hf : P.funcs[f]? = some fn) (hb : fn.body = some c) (hn : (fn.name == "runtime.NumGoroutine") = false) (hargs : args.map AV.view = args)
    (hW : ∀ (Ev : Env P) (b : Ev.β), W Ev c ⟨startTm fn args, [], b⟩ (FnPost P fn fun y hp _ => ∃ z, SealR hp y z ∧ LeT z x)) : PCall P f args x := by
  refine ⟨enter_ok hf hb hn, fun S w vs hl hvs hlt hgl => ?_⟩
  have hrel : Rel S (fun b _ => b < w.heap.size) none w [] (args.zip vs ++ ([] ++ cellPairs [] [])) [] [] := by
    have h0 : Rel S (fun b _ => b < w.heap.size) none w [] [] [] [] := ⟨fun b i h => h.elim (hlt b i) id, by simp, List.Pairwise.nil, by simp, by simp, by simp, rfl, rfl, by simp, hgl⟩
    have := h0.pushAll (args.zip vs) (fun p hp => by
      obtain ⟨j, hj⟩ := List.mem_iff_getElem?.1 hp
      rw [List.getElem?_zip_eq_some] at hj
      refine ⟨hvs j p.1 p.2 hj.1 hj.2, ?_⟩
      have hp1 : p.1.view = p.1 := by
        have h1 : (args.map AV.view)[j]? = some p.1.view := by simp [hj.1]
        rw [hargs, hj.1] at h1; exact (Option.some.inj h1).symm
      obtain ⟨p1, p2⟩ := p
      simp only at hp1
      rw [← hp1]; exact ownB_view _ _)
    simpa [cellPairs] using this
  refine calls_of_W (Ev := Env.none P none) (V := fun _ _ => False) (b := (() : Unit)) hf hb hl (hW (Env.none P _) (() : Unit)) hrel (fun _ _ h => h.elim) trivial (Nat.zero_le _) ?_
  intro y S' X' V' w' m' hv' hp' v b' hyz htr0 hxs hm hr _ hyv
  obtain ⟨z, hy, hz⟩ := hyz
  have htr : Tr (fun b i => ¬ b < w.heap.size) (fun _ => False) S w S' w' := htr0.mono (fun b i h => h.resolve_right id) (fun _ h => h)
  refine ⟨v, withBlocks S' m', rfl, below_of_tr htr (fun b i hb hz => hz hb) (fun _ h => h), fun b i hs => .inl (htr.up b i hs), fun b i hs => ?_, (hz.rv (sealR_sound (B := []) (T := withBlocks S' m') (by simpa using hr) (fun _ _ h => .inl h) hy (fun g _ p hp i hi => .inr ⟨g, p, hp, rfl, hi⟩) hyv)).view⟩
  rcases hs with hs | ⟨g, p, hg, rfl, hi⟩
  · rcases htr.new b i hs with h1 | h1 | h1
    · exact .inl h1
    · exact .inr ⟨Nat.le_of_not_lt h1, htr.lt b i hs⟩
    · exact .inr ⟨h1, htr.lt b i hs⟩
  · have hr' : Rel S' X' none w' m' (([] : List (AV × Value)) ++ cellPairs hp' hv') hp' hv' := hr
    obtain ⟨blk, us, cur, e, g1, g2, g3, g4, g5, g6, g7, g8, g9, g10, g11, g12⟩ := hr'.block hg
    have hlt' : p.b < w'.heap.size := (Array.getElem?_eq_some_iff.1 g8).1
    cases hfr : blk.fro with
    | true =>
      have hs := g12 hfr i hi
      rcases htr.new _ _ hs with h1 | h1 | h1
      · exact .inl h1
      · exact .inr ⟨Nat.le_of_not_lt h1, hlt'⟩
      · exact .inr ⟨h1, hlt'⟩
    | false =>
      refine .inr ⟨Nat.le_of_not_lt fun hb => ?_, hlt'⟩
      exact (g11 hfr i).2 (hxs _ _ hb)

theorem CX.Ok.ofWl {Ev : Env P} {T : List (Nat × (List AV → (AV → Prop) → Prop))} {U : List (Nat × (List AV → List Blk → (AV → List Blk → Prop) → Prop))} {u : Bool} {wl : WLT Ev.β} (hT : CallsOk P T) (hS : SCallsOk P U)
    (hwl : ∀ c tm hp b K, wl c tm hp b K → W Ev c ⟨tm, hp, b⟩ (fun e s => K e s.tm s.hp s.b)) : CX.Ok Ev ⟨T, U, wl, Ev.Y, u⟩ := ⟨hT, hS, hwl, rfl⟩

/-- a function's contract, with what its loops come to -/
theorem PCall.ofFnW {f n : Nat} {fn : Func} {args : List AV} {x : AV} {T : List (Nat × (List AV → (AV → Prop) → Prop))} {U : List (Nat × (List AV → List Blk → (AV → List Blk → Prop) → Prop))} {u : Bool} (wl : ∀ β : Type, WLT β) (hm : P.follows .mixedOrders = true)
    (hT : CallsOk P T) (hS : SCallsOk P U) (hwl : ∀ (Ev : Env P) c tm hp b K, wl Ev.β c tm hp b K → W Ev c ⟨tm, hp, b⟩ (fun e s => K e s.tm s.hp s.b)) (hf : P.funcs[f]? = some fn) (hn : (fn.name == "runtime.NumGoroutine") = false) (hargs : args.map AV.view = args)
    (h : ∀ (Ev : Env P) (b : Ev.β), wpFn P ⟨T, U, wl Ev.β, Ev.Y, u⟩ n fn args b (fun y _ => y = x)) : PCall P f args x := by
  cases hb : fn.body with
  | some c =>
    refine PCall.ofWS hf hb hn hargs fun Ev b => ?_
    have h1 := h Ev b
    unfold wpFn at h1
    rw [hb] at h1
    refine wpc_sound hm (CX.Ok.ofWl hT hS (hwl Ev)) h1 fun e tm hp b hK => ?_
    obtain ⟨g1, ys, g2, z, g3, rfl⟩ := fnK_sound hK
    exact ⟨g1, ys, g2, g3⟩
  | none =>
    have := h (Env.none P none) ()
    unfold wpFn at this
    rw [hb] at this
    exact this.elim

/-- a function's contract, with what its loops come to; less is said of its result -/
theorem PCall.ofFnL {f n : Nat} {fn : Func} {args : List AV} {x : AV} {T : List (Nat × (List AV → (AV → Prop) → Prop))} {U : List (Nat × (List AV → List Blk → (AV → List Blk → Prop) → Prop))} {u : Bool} (wl : ∀ β : Type, WLT β) (hm : P.follows .mixedOrders = true)
    (hT : CallsOk P T) (hS : SCallsOk P U) (hwl : ∀ (Ev : Env P) c tm hp b K, wl Ev.β c tm hp b K → W Ev c ⟨tm, hp, b⟩ (fun e s => K e s.tm s.hp s.b)) (hf : P.funcs[f]? = some fn) (hn : (fn.name == "runtime.NumGoroutine") = false) (hargs : args.map AV.view = args)
    (h : ∀ (Ev : Env P) (b : Ev.β), wpFn P ⟨T, U, wl Ev.β, Ev.Y, u⟩ n fn args b (fun y _ => LeT y x)) : PCall P f args x := by
  cases hb : fn.body with
  | some c =>
    refine PCall.ofWL hf hb hn hargs fun Ev b => ?_
    have h1 := h Ev b
    unfold wpFn at h1
    rw [hb] at h1
    refine wpc_sound hm (CX.Ok.ofWl hT hS (hwl Ev)) h1 fun e tm hp b hK => ?_
    exact fnK_sound hK
  | none =>
    have := h (Env.none P none) ()
    unfold wpFn at this
    rw [hb] at this
    exact this.elim

/-- how a body ends whose blocks are handed out -/
def fnKS {β : Type} (P : Program) (fn : Func) (R : AV → List Blk → β → Prop) : Exit → List AV → List Blk → β → Prop := fun e tm hp b =>
  BIf (match e with | .ret => true | .normal => true | _ => false) (match resAs P hp tm fn.results.toList with
    | some ys => R (resV ys) hp b
    | none => False) False
/-- of a function that hands out blocks -/
def wpFnS {β : Type} (P : Program) (X : CX β) (n : Nat) (fn : Func) (args : List AV) (b : β) (R : AV → List Blk → β → Prop) : Prop :=
  match fn.body with
  | some c => wpc P X n c (startTm fn args) [] b (fnKS P fn R)
  | none => False
theorem fnKS_sound {fn : Func} {R : AV → List Blk → Ev.β → Prop} {e : Exit} {tm : List AV} {hp : List Blk} {b : Ev.β} (h : fnKS P fn R e tm hp b) : FnPost P fn R e ⟨tm, hp, b⟩ := by
  unfold fnKS at h
  obtain ⟨he, h⟩ := h.elim'
  split at h
  · rename_i ys hys
    refine ⟨?_, ys, hys, h⟩
    cases e <;> simp at he ⊢
  · exact h.elim
/-- a function that hands out blocks -/
theorem FCall.ofFnW {f n : Nat} {fn : Func} {args : List AV} {x : AV} {hp1 : List Blk} {T : List (Nat × (List AV → (AV → Prop) → Prop))} {U : List (Nat × (List AV → List Blk → (AV → List Blk → Prop) → Prop))} {u : Bool} (wl : ∀ β : Type, WLT β) (hm : P.follows .mixedOrders = true)
    (hT : CallsOk P T) (hS : SCallsOk P U) (hwl : ∀ Ev : Env P, ∀ c tm hp b K, wl Ev.β c tm hp b K → W Ev c ⟨tm, hp, b⟩ (fun e s => K e s.tm s.hp s.b)) (hf : P.funcs[f]? = some fn) (hn : (fn.name == "runtime.NumGoroutine") = false) (hargs : args.map AV.view = args) (hfro : hp1.all (fun b => !b.fro) = true)
    (h : ∀ (Ev : Env P) (b : Ev.β), wpFnS P ⟨T, U, wl Ev.β, Ev.Y, u⟩ n fn args b fun y hp _ => y = x ∧ hp = hp1) : FCall P f args x hp1 := by
  cases hb : fn.body with
  | none =>
    have := h (Env.none P none) (() : Unit)
    simp only [wpFnS, hb] at this
  | some c =>
    refine FCall.ofW hf hb hn hargs hfro fun Ev b => ?_
    have h1 := h Ev b
    simp only [wpFnS, hb] at h1
    exact wpc_sound hm (CX.Ok.ofWl hT hS (hwl Ev)) h1 fun e tm hp b hK => fnKS_sound hK

/-- arguments of which more is known -/
inductive LeX : AV → AV → Prop where
  | le {x y : AV} (h : LeT x y) : LeX x y
  | full (k : Nat) (xs : List (List Dv)) : LeX (.full k xs) (.d (.sl k xs))
theorem LeX.rv {S : Pr} {w : World} {m : List MB} {yv : Option Nat} {x y : AV} {v : Value} (h : LeX x y) (hr : RV S w m yv x v) : RV S w m yv y v := by
  cases h with
  | le h => exact h.rv hr
  | full => cases hr with
    | full h => exact .d h
inductive LeTs : List AV → List AV → Prop where
  | nil : LeTs [] []
  | cons {x y : AV} {xs ys : List AV} (h : LeX x y) (hs : LeTs xs ys) : LeTs (x :: xs) (y :: ys)
theorem LeTs.len {xs ys : List AV} (h : LeTs xs ys) : xs.length = ys.length := by
  induction h with
  | nil => rfl
  | cons _ _ ih => simp [ih]
theorem LeTs.at {xs ys : List AV} (h : LeTs xs ys) : ∀ (i : Nat) (y : AV), ys[i]? = some y → ∃ x, xs[i]? = some x ∧ LeX x y := by
  induction h with
  | nil => intro i y h; simp at h
  | cons h _ ih =>
    intro i y hy
    cases i with
    | zero => simp at hy; subst hy; exact ⟨_, rfl, h⟩
    | succ i => simpa using ih i y (by simpa using hy)
theorem PCall.leArgs {P : Program} {f : Nat} {args args' : List AV} {x : AV} (h : LeTs args args') (hp : PCall P f args' x) : PCall P f args x := by
  refine ⟨hp.1, fun S w vs hl hvs hlt hgl => hp.2 S w vs (h.len ▸ hl) (fun i y v h1 h2 => ?_) hlt hgl⟩
  obtain ⟨x, h3, h4⟩ := h.at i y h1
  exact h4.rv (hvs i x v h3 h2)
theorem LeTs.refl : ∀ xs : List AV, LeTs xs xs
  | [] => .nil
  | _ :: xs => .cons (.le .rfl) (LeTs.refl xs)

/-- no loops but such as are run round by round -/
def wlNo (β : Type) : WLT β := fun _ _ _ _ _ => False
theorem wlNo_ok (Ev : Env P) : ∀ c tm hp b K, wlNo Ev.β c tm hp b K → W Ev c ⟨tm, hp, b⟩ (fun e s => K e s.tm s.hp s.b) := fun _ _ _ _ _ h => h.elim

end
end Go.Proofs.YtfeemohdpmdaoaaDoor.Am

/- What a given argument reads as, told by abstract values. -/
namespace Go.Proofs.YtfeemohdpmdaoaaDoor.Am
set_option linter.unusedVariables false
open Go Go.RowKit

inductive Ty where
  | int (k : IntKind)
  | bool
  | str
  | sl (r : List Ty)

mutual
inductive HasTy : Ty → Dv → Prop
  | int (k : IntKind) (n : Int) (h : (Lit.int k n).wf = true) : HasTy (.int k) (.s (.int k n))
  | bool (b : Bool) : HasTy .bool (.s (.bool b))
  | str (s : ByteArray) (h : s.size ≤ maxLen) : HasTy .str (.s (.string s))
  | sl (r : List Ty) (xs : List (List Dv)) (hl : xs.length ≤ maxLen) (h : ∀ row, row ∈ xs → HasTys r row) : HasTy (.sl r) (.sl r.length xs)
inductive HasTys : List Ty → List Dv → Prop
  | nil : HasTys [] []
  | cons {t : Ty} {x : Dv} {ts : List Ty} {xs : List Dv} (h : HasTy t x) (hs : HasTys ts xs) : HasTys (t :: ts) (x :: xs)
end

def flatFs (P : Program) (g : TypeId → Option (List Ty)) : List Field → Nat → Option (List Ty)
  | [], _ => some []
  | f :: fs, off => if f.offset = off then match g f.type with
      | some r => if P.cellsOf f.type = r.length then (flatFs P g fs (off + r.length)).map (r ++ ·) else none
      | none => none
    else none
/-- a type's cells -/
def flat (P : Program) : Nat → TypeId → Option (List Ty)
  | 0, _ => none
  | n + 1, t => match P.underlying t with
    | some .bool => some [.bool]
    | some (.int k) => some [.int k]
    | some .string => some [.str]
    | some (.slice e) => match flat P n e with
      | some r => if P.cellsOf e = r.length then some [.sl r] else none
      | none => none
    | some (.struct fs) => match flatFs P (flat P n) fs.toList 0 with
      | some r => if P.cellsOf t = r.length then some r else none
      | none => none
    | some (.array k e) => match flat P n e with
      | some r => if P.cellsOf e = r.length ∧ P.cellsOf t = k * r.length then some (List.replicate k r).flatten else none
      | none => none
    | _ => none

/-- cells that are told -/
inductive Rw (S : Pr) (w : World) : List Ty → List Dv → List Value → Prop
  | nil : Rw S w [] [] []
  | cons {t : Ty} {x : Dv} {v : Value} {ts : List Ty} {xs : List Dv} {vs : List Value} (h : HasTy t x) (hr : DR S w x v) (h1 : v.oneCell' = true) (hs : Rw S w ts xs vs) : Rw S w (t :: ts) (x :: xs) (v :: vs)

section
variable {S : Pr} {w : World}
theorem Rw.tys {ts : List Ty} {xs : List Dv} {vs : List Value} (h : Rw S w ts xs vs) : HasTys ts xs := by
  induction h with
  | nil => exact .nil
  | cons h _ _ _ ih => exact .cons h ih
theorem Rw.len {ts : List Ty} {xs : List Dv} {vs : List Value} (h : Rw S w ts xs vs) : xs.length = ts.length ∧ vs.length = ts.length := by
  induction h with
  | nil => exact ⟨rfl, rfl⟩
  | cons _ _ _ _ ih => simp [ih.1, ih.2]
theorem Rw.append {ts ts' : List Ty} {xs xs' : List Dv} {vs vs' : List Value} (h : Rw S w ts xs vs) (h' : Rw S w ts' xs' vs') : Rw S w (ts ++ ts') (xs ++ xs') (vs ++ vs') := by
  induction h with
  | nil => exact h'
  | cons h hr h1 _ ih => exact .cons h hr h1 ih
theorem Rw.at {ts : List Ty} {xs : List Dv} {vs : List Value} (h : Rw S w ts xs vs) : ∀ (j : Nat) (c : Dv), xs[j]? = some c → ∃ v, vs[j]? = some v ∧ DR S w c v ∧ v.oneCell' = true := by
  induction h with
  | nil => intro j c h; simp at h
  | cons h hr h1 _ ih =>
    intro j c hc
    cases j with
    | zero => simp at hc; subst hc; exact ⟨_, rfl, hr, h1⟩
    | succ j => simpa using ih j c (by simpa using hc)
end

theorem pickRows {α : Type} {Q : Nat → α → Prop} : ∀ (n : Nat), (∀ i, i < n → ∃ x, Q i x) → ∃ xs : List α, xs.length = n ∧ ∀ (i : Nat) (x : α), xs[i]? = some x → Q i x
  | 0, _ => ⟨[], rfl, fun i x h => by simp at h⟩
  | n + 1, h => by
    obtain ⟨xs, h1, h2⟩ := pickRows n fun i hi => h i (by omega)
    obtain ⟨x, hx⟩ := h n (by omega)
    refine ⟨xs ++ [x], by simp [h1], fun i y hy => ?_⟩
    rcases Nat.lt_or_ge i n with hi | hi
    · rw [List.getElem?_append_left (by omega)] at hy; exact h2 i y hy
    · rw [List.getElem?_append_right (by omega)] at hy
      cases hk : i - xs.length with
      | zero =>
        rw [hk] at hy; simp at hy; subst hy
        have : i = n := by omega
        subst this; exact hx
      | succ k => rw [hk] at hy; simp at hy

theorem cell_block {w : World} {a : Addr} {v : Value} (h : w.cell? a = some v) : a.block < w.heap.size := by
  unfold World.cell? at h
  cases hh : w.heap[a.block]? with
  | none => rw [hh] at h; cases h
  | some o => exact (Array.getElem?_eq_some_iff.1 hh).1

section
variable {H : Type} {enc : TypeId × Value → H} {P : Program} {w : World} {spare : Nat → Bool} {held : Bool}

theorem read_flatFs {g : TypeId → Option (List Ty)} {fuel : Nat} (ih : ∀ (t : TypeId) (cs : List Value) (x : DataW H × List MemPlace) (tys : List Ty), g t = some tys → DataW.trod enc P w 0 spare held fuel t cs = some x → ∃ row, Rw (fun b _ => b < w.heap.size) w tys row cs) :
    ∀ (fs : List Field) (off : Nat) (cs : List Value) (tys : List Ty), flatFs P g fs off = some tys →
    (∀ f, f ∈ fs → ∃ x, DataW.trod enc P w 0 spare held fuel f.type ((cs.drop f.offset).take (P.cellsOf f.type)) = some x) → cs.length = off + tys.length →
    ∃ row, Rw (fun b _ => b < w.heap.size) w tys row (cs.drop off)
  | [], off, cs, tys, h, _, hl => by
    rw [flatFs] at h; cases h
    rw [List.drop_eq_nil_of_le (by simp at hl; omega)]
    exact ⟨[], .nil⟩
  | f :: fs, off, cs, tys, h, hf, hl => by
    rw [flatFs] at h
    split at h <;> try (cases h; done)
    rename_i ho
    split at h <;> try (cases h; done)
    rename_i r hr
    split at h <;> try (cases h; done)
    rename_i hc
    simp only [Option.map_eq_some_iff] at h
    obtain ⟨tys', h1, rfl⟩ := h
    obtain ⟨x, hx⟩ := hf f (List.mem_cons_self ..)
    obtain ⟨row, h2⟩ := ih f.type _ _ r hr hx
    obtain ⟨row', h3⟩ := read_flatFs ih fs (off + r.length) cs tys' h1 (fun f hm => hf f (List.mem_cons_of_mem _ hm)) (by simp at hl; omega)
    refine ⟨row ++ row', ?_⟩
    have e : cs.drop off = (cs.drop off).take r.length ++ cs.drop (off + r.length) := by
      rw [← List.drop_drop, List.take_append_drop]
    rw [e]
    rw [ho, hc] at h2
    exact h2.append h3

theorem read_flat : ∀ (n fuel : Nat) (t : TypeId) (cs : List Value) (x : DataW H × List MemPlace) (tys : List Ty), flat P n t = some tys → DataW.trod enc P w 0 spare held fuel t cs = some x →
    ∃ row, Rw (fun b _ => b < w.heap.size) w tys row cs
  | 0, _, _, _, _, _, h, _ => by simp [flat] at h
  | n + 1, fuel, t, cs, x, tys, h, ht => by
    rw [flat] at h
    split at h
    · rename_i hu
      cases h
      obtain ⟨b, rfl, rfl⟩ := DataW.trod_bool hu ht
      exact ⟨_, .cons (.bool b) (.s _) rfl .nil⟩
    · rename_i k hu
      cases h
      obtain ⟨m, rfl, rfl, hw⟩ := DataW.trod_int hu ht
      exact ⟨_, .cons (.int k m hw) (.s _) rfl .nil⟩
    · rename_i hu
      cases h
      obtain ⟨s, rfl, rfl, hw⟩ := DataW.trod_string hu ht
      exact ⟨_, .cons (.str s hw) (.s _) rfl .nil⟩
    · rename_i e hu
      split at h <;> try (cases h; done)
      rename_i r hr
      split at h <;> try (cases h; done)
      rename_i hc
      cases h
      rcases DataW.trod_slice hu ht with ⟨rfl, rfl⟩ | ⟨a, len, cap, elems, rest, m, rfl, rfl, rfl, _, hlc, hcm, hel, hes, _, _⟩
      · exact ⟨[.sl r.length []], .cons (.sl r [] (Nat.zero_le _) (fun row hr => by cases hr)) (.nil _) rfl .nil⟩
      · have hrow : ∀ i, i < len → ∃ row, ∃ cs' : List Value, (∀ j, j < r.length → w.cell? ((a.add (i * r.length)).add j) = cs'[j]?) ∧ cs'.length = r.length ∧ Rw (fun b _ => b < w.heap.size) w r row cs' := by
          intro i hi
          have h1 := hes i hi
          have h2 : ∃ y, elems[i]? = some y := ⟨elems[i]'(by omega), by simp⟩
          obtain ⟨y, hy⟩ := h2
          rw [hy, hc] at h1
          simp only [Option.bind_eq_some_iff] at h1
          obtain ⟨cs', h3, h4⟩ := h1
          obtain ⟨row, h5⟩ := read_flat n m e cs' y r hr h4
          have h6 := World.cells?_some h3
          exact ⟨row, cs', h6.2.2, h6.2.1, h5⟩
        obtain ⟨xs, hxl, hxs⟩ := pickRows len hrow
        refine ⟨[.sl r.length xs], .cons (.sl r xs (by omega) fun row hm => ?_) ?_ rfl .nil⟩
        · obtain ⟨i, hi⟩ := List.mem_iff_getElem?.1 hm
          obtain ⟨_, _, _, h⟩ := hxs i row hi
          exact h.tys
        · subst hxl
          have key : ∀ (i : Nat) (row : List Dv) (j : Nat) (c : Dv), xs[i]? = some row → row[j]? = some c → a.spot = none ∧ ∃ v, w.cell? ⟨a.block, a.off + (i * r.length + j), none⟩ = some v ∧ DR (fun b _ => b < w.heap.size) w c v ∧ v.oneCell' = true := by
            intro i row j c hi hj
            have hil : i < xs.length := (List.getElem?_eq_some_iff.1 hi).1
            obtain ⟨cs', g1, g2, g3⟩ := hxs i row hi
            obtain ⟨v, g4, g5, g6⟩ := g3.at j c hj
            have hjl : j < r.length := by
              have := (List.getElem?_eq_some_iff.1 hj).1
              have := g3.len.1; omega
            have g7 := g1 j hjl
            rw [g4] at g7
            have hsp : a.spot = none := by
              cases hx0 : xs[0]? with
              | none => rw [List.getElem?_eq_none_iff] at hx0; omega
              | some row0 =>
                obtain ⟨cs0, e1, e2, e3⟩ := hxs 0 row0 hx0
                have e4 := e1 0 (by omega)
                have e5 : ∃ v0, cs0[0]? = some v0 := ⟨cs0[0]'(by omega), by simp⟩
                obtain ⟨v0, e5⟩ := e5
                rw [e5] at e4
                have := World.cell?_spot e4
                simpa [Addr.add] using this
            refine ⟨hsp, v, ?_, g5, g6⟩
            obtain ⟨ab, ao, ar⟩ := a
            simp only at hsp
            subst hsp
            rw [WideShapes.add_plain, WideShapes.add_plain] at g7
            rw [← g7, Nat.add_assoc]
          refine .sl r.length xs a cap (fun i j => (w.cell? ⟨a.block, a.off + (i * r.length + j), none⟩).getD default) ?_ ?_ ?_ ?_ ?_ hlc ?_
          · intro i row hi
            obtain ⟨_, _, _, h⟩ := hxs i row hi
            exact h.len.1
          · intro i row j c hi hj
            obtain ⟨_, v, hv, _⟩ := key i row j c hi hj
            exact cell_block (a := ⟨a.block, a.off + (i * r.length + j), none⟩) hv
          · intro i row j c hi hj
            obtain ⟨_, v, hv, _⟩ := key i row j c hi hj
            rw [hv]; rfl
          · intro i row j c hi hj
            obtain ⟨_, v, hv, h, _⟩ := key i row j c hi hj
            rw [hv]; exact h
          · intro i row j c hi hj
            obtain ⟨_, v, hv, _, h⟩ := key i row j c hi hj
            rw [hv]; exact h
          · cases hx : xs with
            | nil => exact .inr (.inr rfl)
            | cons row0 xs0 =>
              cases hrl : r with
              | nil => exact .inr (.inl rfl)
              | cons r0 rs =>
                left
                have h0 : xs[0]? = some row0 := by rw [hx]; rfl
                obtain ⟨_, _, _, h⟩ := hxs 0 row0 h0
                have hl := h.len.1
                have : ∃ c, row0[0]? = some c := ⟨row0[0]'(by rw [hl, hrl]; simp), by simp⟩
                obtain ⟨c, hc'⟩ := this
                exact (key 0 row0 0 c h0 hc').1
    · rename_i fs hu
      split at h <;> try (cases h; done)
      rename_i r hr
      split at h <;> try (cases h; done)
      rename_i hc
      cases h
      obtain ⟨xs, m, rfl, rfl, hl, hxl, hf⟩ := DataW.trod_struct hu ht
      have := read_flatFs (fun t cs x tys h1 h2 => read_flat n m t cs x tys h1 h2) fs.toList 0 cs tys hr (fun f hm => by
        obtain ⟨i, hi⟩ := List.mem_iff_getElem?.1 hm
        have h1 := hf i f (by simpa using hi)
        have hil : i < fs.size := by
          have := (List.getElem?_eq_some_iff.1 hi).1
          simpa using this
        exact ⟨xs[i]'(by omega), by rw [h1]; simp⟩) (by omega)
      simpa using this
    · rename_i k e hu
      split at h <;> try (cases h; done)
      rename_i r hr
      split at h <;> try (cases h; done)
      rename_i hc
      cases h
      obtain ⟨xs, m, rfl, rfl, hl, hxl, hf⟩ := DataW.trod_array hu ht
      have key : ∀ k', k' ≤ k → ∃ row, Rw (fun b _ => b < w.heap.size) w (List.replicate k' r).flatten row (cs.take (k' * r.length)) := by
        intro k'
        induction k' with
        | zero => intro _; exact ⟨[], by simpa using Rw.nil⟩
        | succ k' ih =>
          intro hk
          obtain ⟨row, h1⟩ := ih (by omega)
          have h2 := hf k' (by omega)
          rw [hc.1] at h2
          have h3 : xs[k']? = some (xs[k']'(by omega)) := by simp
          rw [h3] at h2
          obtain ⟨row2, h4⟩ := read_flat n m e _ _ r hr h2
          refine ⟨row ++ row2, ?_⟩
          have e1 : (List.replicate (k' + 1) r).flatten = (List.replicate k' r).flatten ++ r := by
            rw [List.replicate_succ']; simp
          have e2 : cs.take ((k' + 1) * r.length) = cs.take (k' * r.length) ++ (cs.drop (k' * r.length)).take r.length := by
            rw [Nat.succ_mul, List.take_add]
          rw [e1, e2]
          exact h1.append h4
      obtain ⟨row, h1⟩ := key k (Nat.le_refl _)
      refine ⟨row, ?_⟩
      rwa [List.take_of_length_le (by omega)] at h1
    · cases h
end
end Go.Proofs.YtfeemohdpmdaoaaDoor.Am

/- From a contract in abstract values to a law: it returns true, its arguments read as they did. -/
namespace Go.Proofs.YtfeemohdpmdaoaaDoor.Am
set_option linter.unusedVariables false
open Go Go.RowKit Go.WideShapes Go.ChangeShapes

section
variable {H : Type} {enc : TypeId × Value → H} {P : Program}

theorem trodAll_stays (hl : laidOutB P = true) {W W' : World} {sp : Nat → Bool} (hb : Below W.heap.size W W') : ∀ {ts : List TypeId} {vs : List Value} {ds : List (DataW H)} {ps : List MemPlace},
    (ts.all fun t => P.readableRec t && decide (t < P.types.size)) = true → DataW.TrodAll enc P W 0 (fun _ => true) true ts vs ds ps → (∀ x ∈ ps, x.block < W.heap.size) → (∀ x ∈ ps, sp x.block = true) →
    DataW.TrodAll enc P W' 0 sp true ts vs ds ps
  | [], [], [], ps, _, h, _, _ => h
  | t :: ts, v :: vs, d :: ds, ps, hr, h, hlt, hsp => by
    obtain ⟨p, q, h1, h2, rfl⟩ := h
    simp only [List.all_cons, Bool.and_eq_true, decide_eq_true_eq] at hr
    exact ⟨p, q, WideElems.Trod_stays hl hr.1.1 hr.1.2 h1 (fun x hx => hb.same (hlt x (by simp [hx]))) (fun x hx => hsp x (by simp [hx])),
      trodAll_stays hl hb hr.2 h2 (fun x hx => hlt x (by simp [hx])) (fun x hx => hsp x (by simp [hx])), rfl⟩

theorem trodAll_len {W : World} {b : Nat} {sp : Nat → Bool} {hd : Bool} : ∀ {ts : List TypeId} {vs : List Value} {ds : List (DataW H)} {ps : List MemPlace}, DataW.TrodAll enc P W b sp hd ts vs ds ps → ds.length = ts.length
  | [], [], [], _, _ => rfl
  | t :: ts, v :: vs, d :: ds, _, h => by
    obtain ⟨p, q, _, h2, _⟩ := h
    simp [trodAll_len h2]

/-- the law's last step -/
theorem law_post {f : Func} {s : ChangeSpec} {apart fresh handsOn again : Bool} {W W' : World} {args : Array Value} {ds gs : List (DataW H)} {before : List MemPlace} {tb : TypeId}
    (hl : laidOutB P = true) (hvars : s.vars = []) (hres : f.resultTypes = #[tb]) (htb : P.underlying tb = some .bool)
    (hread : (f.params.toList.all fun t => P.readableRec t && decide (t < P.types.size)) = true)
    (hfn : ∀ ds : List (DataW H), ds.length = f.params.size → s.fn H ds = { results := [.lit (.bool true)], args := ds })
    (hW : DataW.Whole enc P f.params.toList s.vars apart W args.toList ds gs before) (hb : Below W.heap.size W W') :
    s.post enc P f apart fresh handsOn again W args (.bool true) W' := by
  have hlt : ∀ p ∈ before, p.block < W.heap.size := fun p hp => hW.lt p hp
  have hold : ∀ p ∈ before, (fun b => decide (b < W.heap.size)) p.block = true := fun p hp => by simpa using hlt p hp
  have hW0 := hW
  obtain ⟨p, q, hA, hV, rfl, hz, hn⟩ := hW0
  rw [hvars] at hV
  obtain ⟨rfl, rfl⟩ := trodVars_none hV
  have hlen : ds.length = f.params.size := by
    have := trodAll_len hA
    simpa using this
  have hspec := hfn ds hlen
  simp only [List.append_nil] at *
  have hargs : ∀ sp : Nat → Bool, (∀ x ∈ p, sp x.block = true) → DataW.TrodAll enc P W' 0 sp true f.params.toList args.toList ds p :=
    fun sp hsp => trodAll_stays hl hb hread hA hlt hsp
  have hr : ∀ (b : Nat) (sp : Nat → Bool) (hd : Bool), DataW.TrodAll enc P W' b sp hd f.resultTypes.toList ((Value.bool true).resultList f.resultTypes.size) [DataW.lit (.bool true)] [] := by
    intro b sp hd
    rw [hres]
    exact trodAll_cons_mk (shut_bool htb _) trodAll_mk0
  refine ⟨ds, [], p, [], p, [], by simpa using hW, ?_, ?_, ?_, ?_, fun _ => ?_⟩
  · simp only [List.append_nil, hspec]; exact hr _ _ _
  · simp only [List.append_nil, hspec]; exact hargs _ hold
  · simp only [List.append_nil, hspec, hvars]; exact rfl
  · exact World.keptBut_mono (fun x hx => ⟨hx, .inr (.inl hx)⟩) (hb.frame (· ∈ p))
  · refine ⟨ok_one hres rfl (okWide_bool_mk htb _), [DataW.lit (.bool true)] ++ ds, [], p, ⟨p, [], ?_, ?_, by simp, ?_, ?_⟩, fun x hx _ => hx⟩
    · have := trodAll_append (hargs (fun _ => true) (fun _ _ => rfl)) (hr 0 (fun _ => true) true)
      simpa using this
    · rw [hvars]; rfl
    · intro b off hp
      rw [hb.frozen (hlt _ hp)]
      exact hz b off hp
    · intro ha; exact hn ha

/-- arguments as the law's function gets them -/
inductive ArgsR (S : Pr) (w : World) : List AV → List Value → Prop
  | nil : ArgsR S w [] []
  | cons {x : AV} {v : Value} {xs : List AV} {vs : List Value} (h : RV S w [] none x v) (hs : ArgsR S w xs vs) : ArgsR S w (x :: xs) (v :: vs)
theorem ArgsR.at {S : Pr} {w : World} {xs : List AV} {vs : List Value} (h : ArgsR S w xs vs) : xs.length = vs.length ∧ ∀ (i : Nat) (x : AV) (v : Value), xs[i]? = some x → vs[i]? = some v → RV S w [] none x v := by
  induction h with
  | nil => exact ⟨rfl, fun i x v h => by simp at h⟩
  | cons h _ ih =>
    refine ⟨by simp [ih.1], fun i x v h1 h2 => ?_⟩
    cases i with
    | zero => simp at h1 h2; subst h1; subst h2; exact h
    | succ i => exact ih.2 i x v (by simpa using h1) (by simpa using h2)

/-- all cells of a heap -/
abbrev AllOf (w : World) : Pr := fun b _ => b < w.heap.size

theorem law_calls {fid : Nat} {f : Func} {s : ChangeSpec} {apart fresh handsOn again : Bool} {W : World} {args : Array Value} {ds gs : List (DataW H)} {before : List MemPlace} {tb : TypeId}
    (hl : laidOutB P = true) (hvars : s.vars = []) (hres : f.resultTypes = #[tb]) (htb : P.underlying tb = some .bool)
    (hread : (f.params.toList.all fun t => P.readableRec t && decide (t < P.types.size)) = true)
    (hfn : ∀ ds : List (DataW H), ds.length = f.params.size → s.fn H ds = { results := [.lit (.bool true)], args := ds })
    (hW : DataW.Whole enc P f.params.toList s.vars apart W args.toList ds gs before)
    (avs : List AV) (ha : ArgsR (AllOf W) W avs args.toList) (hp : PCall P fid avs (.d (.s (.bool true)))) (hgl : Glob (AllOf W) W) :
    Calls P fid args W fun e W' => ∃ v, e = .returned v ∧ s.post enc P f apart fresh handsOn again W args v W' := by
  obtain ⟨h1, h2⟩ := ha.at
  have := callsIn_wide.1 (hp.2 (AllOf W) W args.toList h1 h2 (fun b i h => h) hgl)
  refine Calls.mono this ?_
  rintro e W' ⟨v, S', rfl, hb, _, _, hr⟩
  refine ⟨v, rfl, ?_⟩
  have hv : v = .bool true := by
    have : AV.view (.d (.s (.bool true))) = .d (.s (.bool true)) := rfl
    rw [this] at hr
    cases hr with
    | d h => cases h; rfl
  subst hv
  exact law_post hl hvars hres htb hread hfn hW hb

/-- an argument that is a slice -/
theorem arg_slice {W : World} {b0 n : Nat} {r : Reach} {sp : Nat → Bool} {hd : Bool} {t e : TypeId} {v : Value} {d : DataW H} {ps : List MemPlace} {ty : Ty} (hu : P.underlying t = some (.slice e)) (hf : flat P n t = some [ty])
    (hval : Value.okWide P W r b0 t v) (h : DataW.Trod enc P W 0 sp hd t v d ps) : ∃ x, HasTy ty x ∧ RV (AllOf W) W [] none (.d x) v := by
  obtain ⟨fuel, h⟩ := h
  obtain ⟨a, len, cap, rfl⟩ := okWide_slice hu hval
  obtain ⟨row, hr⟩ := read_flat n fuel t _ _ _ hf h
  cases hr with
  | cons h hr h1 hs => exact ⟨_, h, .d hr⟩
theorem arg_int {W : World} {b0 : Nat} {r : Reach} {sp : Nat → Bool} {hd : Bool} {t : TypeId} {k : IntKind} {v : Value} {d : DataW H} {ps : List MemPlace} (hu : P.underlying t = some (.int k))
    (hval : Value.okWide P W r b0 t v) (h : DataW.Trod enc P W 0 sp hd t v d ps) : ∃ x, (Lit.int k x).wf = true ∧ RV (AllOf W) W [] none (.d (.s (.int k x))) v := by
  obtain ⟨x, rfl, _, _, hw⟩ := open_int hu hval h
  exact ⟨x, hw, .d (.s _)⟩
theorem arg_agg {W : World} {b0 n : Nat} {r : Reach} {sp : Nat → Bool} {hd : Bool} {t : TypeId} {v : Value} {d : DataW H} {ps : List MemPlace} {tys : List Ty} (hu : (∃ fs, P.underlying t = some (.struct fs)) ∨ ∃ k e, P.underlying t = some (.array k e)) (hf : flat P n t = some tys)
    (hval : Value.okWide P W r b0 t v) (h : DataW.Trod enc P W 0 sp hd t v d ps) : ∃ row, HasTys tys row ∧ RV (AllOf W) W [] none (.agg (row.map .d)) v := by
  obtain ⟨fuel, h⟩ := h
  have : ∃ cs, v = .agg cs := by
    unfold Value.okWide at hval
    rcases hu with ⟨fs, hu⟩ | ⟨k, e, hu⟩ <;> rw [hu] at hval <;> obtain ⟨cs, h, _⟩ := hval <;> exact ⟨cs, h⟩
  obtain ⟨cs, rfl⟩ := this
  obtain ⟨row, hr⟩ := read_flat n fuel t _ _ _ hf h
  refine ⟨row, hr.tys, .agg ?_ fun i c v h1 h2 => ?_⟩
  · have := hr.len
    simp [Value.cells] at this
    simp; omega
  · simp only [List.getElem?_map, Option.map_eq_some_iff] at h1
    obtain ⟨x, h1, rfl⟩ := h1
    obtain ⟨v', h3, h4, _⟩ := hr.at i x h1
    simp [Value.cells] at h3
    rw [h2] at h3; cases h3
    exact .d h4
end
end Go.Proofs.YtfeemohdpmdaoaaDoor.Am

/- Package-level variables of plain data: what the row lists of them tells their cells. -/
namespace Go.Proofs.YtfeemohdpmdaoaaDoor.Am
set_option linter.unusedVariables false
open Go Go.RowKit Go.Proofs Go.ChangeShapes Go.WideShapes Go.ChangeAt

/-- the cells of a datum of numbers and bools -/
def litsF {H : Type} : Nat → DataW H → Option (List Value)
  | 0, _ => none
  | _ + 1, .lit (.int k m) => some [.int k m]
  | _ + 1, .lit (.bool b) => some [.bool b]
  | n + 1, .agg ds => ds.foldr (fun d acc => match litsF n d, acc with | some a, some b => some (a ++ b) | _, _ => none) (some [])
  | _, _ => none
def litsL {H : Type} (n : Nat) (ds : List (DataW H)) : Option (List Value) := ds.foldr (fun d acc => match litsF n d, acc with | some a, some b => some (a ++ b) | _, _ => none) (some [])
theorem litsL_cons {H : Type} {n : Nat} {d : DataW H} {ds : List (DataW H)} {vs : List Value} (h : litsL n (d :: ds) = some vs) : ∃ a b, litsF n d = some a ∧ litsL n ds = some b ∧ vs = a ++ b := by
  unfold litsL at h
  rw [List.foldr_cons] at h
  split at h
  · rename_i a b h1 h2; cases h; exact ⟨a, b, h1, h2, rfl⟩
  · cases h

section
variable {H : Type} {enc : TypeId × Value → H} {P : Program} {w : World} {spare : Nat → Bool} {held : Bool}
theorem lits_segs {k c : Nat} : ∀ (xs : List (DataW H × List MemPlace)) (cs : List Value) (vs : List Value), cs.length = xs.length * c →
    (∀ (i : Nat) (y : DataW H × List MemPlace), xs[i]? = some y → ∀ ws, litsF k y.1 = some ws → (cs.drop (i * c)).take c = ws) → litsL k (xs.map (·.1)) = some vs → cs = vs
  | [], cs, vs, hl, _, h => by
    have : cs = [] := List.length_eq_zero_iff.1 (by simpa using hl)
    subst this
    simp [litsL] at h; exact h.symm
  | y :: ys, cs, vs, hl, hx, h => by
    rw [List.map_cons] at h
    obtain ⟨a, b, h1, h2, rfl⟩ := litsL_cons h
    have h3 := hx 0 y rfl a h1
    rw [List.length_cons, Nat.add_mul, Nat.one_mul] at hl
    have h4 := lits_segs (c := c) ys (cs.drop c) b (by simp; omega) (fun i y hy ws hw => by
      have := hx (i + 1) y (by simpa using hy) ws hw
      rw [List.drop_drop]
      rw [← this]; congr 2; rw [Nat.add_mul, Nat.one_mul]; omega) h2
    rw [← List.take_append_drop c cs, ← h4, ← h3]; simp
theorem lits_fields {k : Nat} {g : TypeId → Option (List Ty)} {fuel : Nat} (ih : ∀ (t : TypeId) (cs : List Value) (x : DataW H × List MemPlace) (tys : List Ty) (vs : List Value), g t = some tys → DataW.trod enc P w 0 spare held fuel t cs = some x → litsF k x.1 = some vs → cs = vs) :
    ∀ (fs : List Field) (xs : List (DataW H × List MemPlace)) (off : Nat) (cs : List Value) (tys : List Ty) (vs : List Value), flatFs P g fs off = some tys → fs.length = xs.length →
    (∀ (i : Nat) (f : Field), fs[i]? = some f → DataW.trod enc P w 0 spare held fuel f.type ((cs.drop f.offset).take (P.cellsOf f.type)) = xs[i]?) → cs.length = off + tys.length → litsL k (xs.map (·.1)) = some vs → cs.drop off = vs
  | [], [], off, cs, tys, vs, h, _, _, hl, hv => by
    rw [flatFs] at h; cases h
    simp [litsL] at hv
    rw [hv, List.drop_eq_nil_of_le (by simp at hl; omega)]
  | [], _ :: _, _, _, _, _, _, hn, _, _, _ => by simp at hn
  | _ :: _, [], _, _, _, _, _, hn, _, _, _ => by simp at hn
  | f :: fs, y :: xs, off, cs, tys, vs, h, hn, hf, hl, hv => by
    rw [flatFs] at h
    split at h <;> try (cases h; done)
    rename_i ho
    split at h <;> try (cases h; done)
    rename_i r hr
    split at h <;> try (cases h; done)
    rename_i hc
    simp only [Option.map_eq_some_iff] at h
    obtain ⟨tys', h1, rfl⟩ := h
    rw [List.map_cons] at hv
    obtain ⟨a, b, h2, h3, rfl⟩ := litsL_cons hv
    have h4 := hf 0 f rfl
    have h5 := ih f.type _ y r a hr (by simpa using h4) h2
    have h6 := lits_fields ih fs xs (off + r.length) cs tys' b h1 (by simpa using hn) (fun i f hi => by simpa using hf (i + 1) f (by simpa using hi)) (by simp at hl; omega) h3
    rw [ho, hc] at h5
    rw [← h5, ← h6, ← List.drop_drop, List.take_append_drop]
theorem lits_flat : ∀ (n fuel k : Nat) (t : TypeId) (cs : List Value) (x : DataW H × List MemPlace) (tys : List Ty) (vs : List Value), flat P n t = some tys → DataW.trod enc P w 0 spare held fuel t cs = some x → litsF k x.1 = some vs → cs = vs
  | 0, _, _, _, _, _, _, _, h, _, _ => by simp [flat] at h
  | n + 1, fuel, 0, t, cs, x, tys, vs, h, ht, hv => by simp [litsF] at hv
  | n + 1, fuel, k + 1, t, cs, x, tys, vs, h, ht, hv => by
    rw [flat] at h
    split at h
    · rename_i hu
      obtain ⟨b, rfl, rfl⟩ := DataW.trod_bool hu ht
      simp [litsF] at hv; exact hv
    · rename_i kk hu
      obtain ⟨m, rfl, rfl, hw⟩ := DataW.trod_int hu ht
      simp [litsF] at hv; exact hv
    · rename_i hu
      obtain ⟨s, rfl, rfl, hw⟩ := DataW.trod_string hu ht
      simp [litsF] at hv
    · rename_i e hu
      rcases DataW.trod_slice hu ht with ⟨rfl, rfl⟩ | ⟨a, len, cap, elems, rest, m, rfl, rfl, rfl, _⟩
      · simp [litsF] at hv
      · simp [litsF] at hv
    · rename_i fs hu
      split at h <;> try (cases h; done)
      rename_i r hr
      split at h <;> try (cases h; done)
      rename_i hc
      cases h
      obtain ⟨xs, m, rfl, rfl, hl, hxl, hf⟩ := DataW.trod_struct hu ht
      have hv : litsL k (xs.map (·.1)) = some vs := hv
      have := lits_fields (k := k) (fun t cs x tys vs h1 h2 h3 => lits_flat n m k t cs x tys vs h1 h2 h3) fs.toList xs 0 cs tys vs hr (by simp [hxl]) (fun i f hi => hf i f (by simpa using hi)) (by rw [hl, hc]; omega) hv
      simpa using this
    · rename_i kk e hu
      split at h <;> try (cases h; done)
      rename_i r hr
      split at h <;> try (cases h; done)
      rename_i hc
      cases h
      obtain ⟨xs, m, rfl, rfl, hl, hxl, hf⟩ := DataW.trod_array hu ht
      have hv : litsL k (xs.map (·.1)) = some vs := hv
      refine lits_segs (k := k) (c := P.cellsOf e) xs cs vs (by rw [hl, hc.2, hxl, hc.1]) (fun i y hy ws hw => ?_) hv
      have hi : i < kk := by rw [← hxl]; exact (List.getElem?_eq_some_iff.1 hy).1
      have h1 := hf i hi
      rw [hy] at h1
      exact lits_flat n m k e _ y r ws hr h1 hw
    · cases h
end

/-- what one listed variable gives -/
def VarAt (P : Program) (W : World) (g : Nat) (vs : List Value) : Prop := ∀ (j : Nat) (v : Value), vs[j]? = some v → W.cell? ⟨g, j, none⟩ = some v
theorem var_at {P : Program} {W : World} {n : String} {g t : Nat} {cs : Array Value} {d : DataW Unit} {p : List MemPlace} {fuel nn k : Nat} {tys : List Ty} {vs : List Value} (hg : P.globalNamed n = some g) (hv : W.var? P n = some cs)
    (ht : DataW.trod (fun _ => ()) P W 0 (fun _ => true) false fuel t cs.toList = some (d, p)) (hf : flat P nn t = some tys) (hl : litsF k d = some vs) : VarAt P W g vs := by
  have := lits_flat nn fuel k t cs.toList (d, p) tys vs hf ht hl
  intro j v hj
  rw [World.var?_cell hg hv j, ← hj, ← this]; simp
theorem glob_of {W : World} (h : ∀ g, laidTable g ≠ [] → ∀ (j : Nat) (v : Value), (laidTable g)[j]? = some v → W.cell? ⟨g, j, none⟩ = some v ∧ v.oneCell' = true) : Glob (AllOf W) W := by
  intro g j v hv
  have h1 : laidTable g ≠ [] := fun he => by rw [he] at hv; simp at hv
  obtain ⟨h2, h3⟩ := h g h1 j v hv
  exact ⟨cell_block (a := ⟨g, j, none⟩) h2, h2, h3⟩
end Go.Proofs.YtfeemohdpmdaoaaDoor.Am

/- Iterators that own a block: the ranger lends it to them and sees it no more. -/
namespace Go.Proofs.YtfeemohdpmdaoaaDoor.Am
set_option linter.unusedVariables false
set_option linter.unusedSimpArgs false
open Go Go.RowKit

/-- an iterator's contract; it comes with a block of its own -/
def ICallB (P : Program) (f : Nat) (args : List AV) (blk : Blk) (Sp : SpT) : Prop :=
  (∀ (ar : Array Value) (w : World), (callFunc f ar).run P w = .ok (.enter f ar) w) ∧
  ∀ (Ev : Env P) (b : Ev.β) (Q : Ev.β → Prop), Sp Ev.Y b Q → ∀ (S X V : Pr) (w : World) (m : List MB) (hv : List (List Value)) (vs : List Value), args.length = vs.length →
    Rel S X Ev.yl w m (args.zip vs ++ ([] ++ cellPairs [blk] hv)) [blk] hv → (∀ b i, V b i → X b i) → Ev.E b S V w → Ev.N ≤ w.heap.size →
    CallsIn Fence.wide 0 P f vs.toArray w fun e w' => ∃ v b' S' V', e = .returned v ∧ Q b' ∧ Ev.E b' S' V' w'

/-- how a run ends that nobody else's blocks took part in -/
def Beh0 {P : Program} (Ev : Env P) (lo : Nat) (r : Option Nat) (S X V : Pr) (w : World) (Q : Exit → St Ev.β → Prop) (e : Exit) (a' : Act) (w' : World) : Prop :=
  ∃ s' S' X' V' m' hv', Q e s' ∧ Went Ev.L S X V w S' X' V' w' ∧ Tie Ev lo r S' X' V' w' m' [] hv' s'.rs s'.b a'

/-- as W, where the activation's blocks are its own alone: they may be forgotten -/
def W0 {P : Program} (Ev : Env P) (c : Code) (s : St Ev.β) (Q : Exit → St Ev.β → Prop) : Prop :=
  ∀ (lo : Nat) (r : Option Nat) (S X V : Pr) (w : World) (m : List MB) (hv : List (List Value)) (a : Act), Tie Ev lo r S X V w m [] hv s.rs s.b a →
    c.wpIn (Fn r) 0 P (Beh0 Ev lo r S X V w Q) a w

section
variable {P : Program} {S S' S'' X X' X'' V V' V'' Z : Pr} {L : Nat → Prop} {r : Option Nat} {lo : Nat} {yv : Option Nat} {w w' w'' : World} {m m' m'' : List MB} {A B T : List (AV × Value)} {hp hp' : List Blk} {hv hv' : List (List Value)} {call : CallT} {a a' : Act} {o : Oper} {ops : Array Oper} {Ev : Env P}
  {s : St Ev.β} {Q Q' : Exit → St Ev.β → Prop} {c c' : Code}

theorem Beh0.from {e : Exit} (hm : Went Ev.L S X V w S' X' V' w') (h : Beh0 Ev lo r S' X' V' w' Q e a w'') : Beh0 Ev lo r S X V w Q e a w'' := by
  obtain ⟨s', S', X', V', m'', hv', h1, h2, h3⟩ := h
  exact ⟨s', S', X', V', m'', hv', h1, hm.trans h2, h3⟩

theorem W0.of (h : W Ev c s Q) : W0 Ev c s Q := fun lo r S X V w m hv a ht =>
  wpIn_mono (h lo r S X V w m [] hv a ht) fun e a' w' ⟨s', S', X', V', m', hv', h1, h2, h3⟩ => ⟨s', S', X', V', m', hv', h1, h2.1, h3⟩

theorem W0.mono (h : W0 Ev c s Q) (hq : ∀ e s, Q e s → Q' e s) : W0 Ev c s Q' := fun lo r S X V w m hv a ht =>
  wpIn_mono (h lo r S X V w m hv a ht) fun e a' w' ⟨s', S', X', V', m', hv', h1, h2⟩ => ⟨s', S', X', V', m', hv', hq _ _ h1, h2⟩

theorem W0.seq (h : W0 Ev c s (thenW (fun s' => W0 Ev c' s' Q) Q)) : W0 Ev (.seq c c') s Q := by
  intro lo r S X V w m hv a ht
  refine wpIn_seq (wpIn_mono (h lo r S X V w m hv a ht) fun e a' w' ⟨s', S', X', V', m', hv', h1, h2, h3⟩ => ?_)
  cases e with
  | normal => exact wpIn_mono (h1 lo r S' X' V' w' m' hv' a' h3) fun e a'' w'' hb => hb.from h2
  | exit id => exact ⟨s', S', X', V', m', hv', h1, h2, h3⟩
  | goto l => exact ⟨s', S', X', V', m', hv', h1, h2, h3⟩
  | ret => exact ⟨s', S', X', V', m', hv', h1, h2, h3⟩
  | panic ch => exact ⟨s', S', X', V', m', hv', h1, h2, h3⟩
  | outgrown => exact ⟨s', S', X', V', m', hv', h1, h2, h3⟩

theorem W0.block {id : Nat} (h : W0 Ev c s (catchExit id Q)) : W0 Ev (.block id c) s Q := by
  intro lo r S X V w m hv a ht
  refine wpIn_block (wpIn_mono (h lo r S X V w m hv a ht) fun e a' w' ⟨s', S', X', V', m', hv', h1, h2, h3⟩ => ?_)
  cases e with
  | exit id' =>
    simp only [Exit.inBlock, catchExit] at h1 ⊢
    split at h1
    · rename_i hid; rw [if_pos hid]; exact ⟨s', S', X', V', m', hv', h1, h2, h3⟩
    · rename_i hid; rw [if_neg hid]; exact ⟨s', S', X', V', m', hv', h1, h2, h3⟩
  | normal => exact ⟨s', S', X', V', m', hv', h1, h2, h3⟩
  | goto l => exact ⟨s', S', X', V', m', hv', h1, h2, h3⟩
  | ret => exact ⟨s', S', X', V', m', hv', h1, h2, h3⟩
  | panic ch => exact ⟨s', S', X', V', m', hv', h1, h2, h3⟩
  | outgrown => exact ⟨s', S', X', V', m', hv', h1, h2, h3⟩

/-- **RANGE OVER A FUNCTION that owns a block** -/
theorem W0.range {g : Operand} {ps : Array Tmp} {assign body : Code} {k : Nat} {hp0 : List Blk} {blk : Blk} {Sp : SpT} (hs : s.hp = hp0 ++ [blk]) (hfro : blk.fro = false) (hgrow : blk.grow = false) (hlow : lowHp hp0.length s.hp = true)
    (hcl : closeds blk.cells = true) (hvw : blk.cells.map AV.view = blk.cells) (hg : evalA s.tm g = .fn (.func k) [] [.ptr hp0.length 0])
    (hI : ICallB P k [.yl, .ptr 0 0] blk Sp) (h : Sp (YBody Ev (lowTm hp0.length s.tm) ps assign body hp0.length) (hp0, s.b, none) (rangeQ (lowTm hp0.length s.tm) Q)) : W0 Ev (.rangeFunc g ps assign body) s Q := by
  intro lo r S X V w m hv a ht
  refine wpIn_rangeFunc fun fn _ => ?_
  obtain ⟨l, bs, w1, D, e1, e2, e3, e4, e5, e6⟩ := enter_loop (P := P) fn a.tmps ps assign body ht.round
  -- the function value
  have hfv := evalA_sound ht.rel g
  rw [hg] at hfv
  generalize hfe : a.eval g = fv at hfv
  cases hfv with
  | fn hne hl1 hl2 h1 h2 =>
    rename_i fs cs
    have hfs : fs = #[] := by simpa using hl1.symm
    subst hfs
    obtain ⟨cv, rfl⟩ : ∃ cv, cs = #[cv] := by
      have : cs.size = 1 := by simpa using hl2.symm
      refine ⟨cs[0], Array.ext (by simp [this]) fun i hi hi' => ?_⟩
      have : i = 0 := by omega
      subst this; rfl
    have hcv := h2 0 _ cv rfl rfl
    generalize hcve : cv = cv0 at hcv
    cases hcv with
    | ptr hm =>
    rename_i pb plen pver
    subst hcve
    have hgs := Gs.below ht.rel.2.1 e3 (S' := S) ⟨fun _ _ h => h, fun _ _ h => .inl h⟩
    have hlt1 : ∀ b i, S b i → b < w1.heap.size := fun b i hs => Nat.lt_of_lt_of_le (ht.rel.slt b i hs) e3.size
    have htr := hgs.tr hlt1
    have hrel1 : Rel S X Ev.yl w1 m (s.tm.zip a.tmps.toList ++ cellPairs s.hp hv) s.hp hv := by
      simpa using ht.rel.2.1.below e3 (fun _ _ h => h) (fun _ _ h => .inl h)
    have hrelL : Rel S X Ev.yl w1 m ((lowTm hp0.length s.tm).zip a.tmps.toList ++ cellPairs s.hp hv) s.hp hv := Rel.lowered hp0.length hrel1
    have hnT : ∀ p ∈ (lowTm hp0.length s.tm).zip a.tmps.toList, RV S w1 (m.take hp0.length) Ev.yl p.1 p.2 := by
      intro p hp
      refine (hrelL.rv p (List.mem_append_left _ hp)).low ?_
      have := (List.of_mem_zip hp).1
      simp only [lowTm, List.mem_map] at this
      obtain ⟨x, _, h3⟩ := this
      rw [← h3]
      split
      · assumption
      · rfl
    have hrelT := hrelL.trunc hnT hlow
    have hp0t : s.hp.take hp0.length = hp0 := by rw [hs]; simp
    rw [hp0t] at hrelT
    have hsl : s.hp.length = hp0.length + 1 := by rw [hs]; simp
    have hgb : s.hp[hp0.length]? = some blk := by rw [hs]; simp
    have hvn : hp0.length < hv.length := by rw [hrel1.hl, hsl]; omega
    obtain ⟨a1, a2, a3, a4, a5, a6, a9, a10⟩ := hrel1.bl hp0.length blk ⟨pb, plen, false, pver⟩ hv[hp0.length] hgb hm (by simp [hvn])
    have hpbl : pb < w1.heap.size := by
      obtain ⟨cur, e, h3, _⟩ := a6
      exact (Array.getElem?_eq_some_iff.1 h3).1
    have hSn : ∀ i, ¬ S pb i ∧ ¬ X pb i := a9 hfro
    have hl1w : l < w1.heap.size := (Array.getElem?_eq_some_iff.1 e2).1
    obtain ⟨bs0, m1, m2, m3⟩ := ht.marks
    have hbs0 : ∀ b ∈ bs0, b < w.heap.size := fun b hb => (Array.getElem?_eq_some_iff.1 (m3 b hb).2).1
    have hr0 : ∀ l0, r = some l0 → l0 < w.heap.size := fun l0 hl0 => by
      obtain ⟨rc, h3⟩ := ht.round l0 hl0
      exact (Array.getElem?_eq_some_iff.1 h3).1
    have hm0 : (m.take hp0.length).length ≤ hp0.length := by simp; omega
    have hbsN : ∀ b ∈ bs ++ bs0, b < w1.heap.size := fun b hb => (List.mem_append.1 hb).elim (fun h => (e6 b h).2.1) (fun h => Nat.lt_of_lt_of_le (hbs0 b h) e3.size)
    have html : (lowTm hp0.length s.tm).length = a.tmps.size := by simpa [lowTm] using ht.rel.1
    let Er := rangeEnv Ev r S X V w (m.take hp0.length) (lowTm hp0.length s.tm) a [] hp0.length (bs ++ bs0) l { state := .ready, pending := none, fn, tmps := a.tmps, params := ps, assign, body, defers := D } w1.heap.size html rfl
      (Nat.le_trans ht.base.1 ht.base.2) e4 hm0 hl1w hbsN (fun l0 hl0 => Nat.lt_of_lt_of_le (hr0 l0 hl0) e3.size)
    have hrelB : Rel S (fun b _ => b < w1.heap.size ∧ b ≠ pb) (some l) w1 [⟨pb, plen, false, pver⟩] (([AV.yl, AV.ptr 0 0]).zip [Value.func (.yield l) #[] #[], Value.pointer (some ⟨pb, 0, none⟩)] ++ ([] ++ cellPairs [blk] [hv[hp0.length]])) [blk] [hv[hp0.length]] := by
      have hcp : ∀ p ∈ cellPairs [blk] [hv[hp0.length]], RV S w1 [⟨pb, plen, false, pver⟩] (some l) p.1 p.2 ∧ ownB p = none := by
        intro p hp
        simp only [cellPairs, List.zip_cons_cons, List.zip_nil_right, List.flatMap_cons, List.flatMap_nil, List.append_nil] at hp
        have hpm : p ∈ cellPairs s.hp hv := by
          simp only [cellPairs, List.mem_flatMap]
          refine ⟨(blk, hv[hp0.length]), List.mem_iff_getElem?.2 ⟨hp0.length, ?_⟩, hp⟩
          rw [List.getElem?_zip_eq_some]; exact ⟨hgb, by simp [hvn]⟩
        have hc1 := (List.of_mem_zip hp).1
        obtain ⟨j, hj⟩ := List.mem_iff_getElem?.1 hc1
        refine ⟨((hrel1.rv p (List.mem_append_right _ hpm)).closed (closeds_get hcl j _ hj)).opened, ?_⟩
        have h3 : (blk.cells.map AV.view)[j]? = some p.1.view := by simp [hj]
        rw [hvw, hj] at h3
        obtain ⟨p1, p2⟩ := p
        simp only [Option.some.injEq] at h3
        rw [h3]; exact ownB_view _ _
      have h0 : Rel S (fun b _ => b < w1.heap.size ∧ b ≠ pb) (some l) w1 [⟨pb, plen, false, pver⟩] [] [blk] [hv[hp0.length]] := by
        refine ⟨fun b i h => h.elim (hlt1 b i) (fun h => h.1), by simp, List.Pairwise.nil, by simp, by simp, by simp, rfl, rfl, fun g blk' p vs q1 q2 q3 => ?_, hrel1.gl⟩
        cases g with
        | succ g => simp at q1
        | zero =>
          simp only [List.getElem?_cons_zero, Option.some.injEq] at q1 q2 q3
          subst q1 q2 q3
          exact ⟨a1, a2, a3, a4, a5, a6, fun _ i => ⟨(hSn i).1, fun h => h.2 rfl⟩, fun hf => by rw [hfro] at hf; cases hf⟩
      have h3 := h0.pushAll _ hcp
      have h4 := h3.pushAll [(AV.yl, Value.func (.yield l) #[] #[]), (AV.ptr 0 0, Value.pointer (some ⟨pb, 0, none⟩))] (by
        intro p hp
        simp only [List.mem_cons, List.not_mem_nil, or_false] at hp
        rcases hp with rfl | rfl
        · exact ⟨.yl rfl, rfl⟩
        · exact ⟨.ptr (len := plen) (ver := pver) rfl, rfl⟩)
      simpa using h4
    have hE : Er.E (hp0, s.b, none) S (fun b _ => b < w1.heap.size ∧ b ≠ pb) w1 := by
      refine ⟨X, V, m.take hp0.length, hv.take hp0.length, rfl, by simpa using hrelT, ht.sub, Ev.stable ht.env (htr.mono (fun b i hx hv => hx (ht.sub b i hv)) (fun _ h => h)), MStep.refl _, ht.round.tr htr, fun b hb => ?_, fun c hc i => ?_, fun b i hv => ?_, fun b i h => h.1, fun b i hx => ⟨hrel1.lt b i (.inr hx), fun he => (hSn i).2 (he ▸ hx)⟩, e2, hgs.went hlt1⟩
      · rcases List.mem_append.1 hb with h3 | h3
        · exact (e6 b h3).2.2
        · rw [e3.block b (hbs0 b h3)]; exact (m3 b h3).2
      · have hc' : Owned hp0 (m.take hp0.length) ((lowTm hp0.length s.tm).zip a.tmps.toList ++ cellPairs hp0 (hv.take hp0.length)) c := by simpa using hc
        refine ⟨hrelT.ownedLt hc', ?_⟩
        rintro rfl
        rcases hc' with ⟨g, blk', p, q1, q2, q3, q4⟩ | ⟨p, q1, q2⟩
        · have hgl : g < hp0.length := (List.getElem?_eq_some_iff.1 q1).1
          have q5 : m[g]? = some p := by rw [List.getElem?_take, if_pos hgl] at q2; exact q2
          have hnd := hrel1.mnd
          have q6 : (m.map (·.b))[g]? = some c := by simp [q5, q4]
          have q7 : (m.map (·.b))[hp0.length]? = some c := by simp [hm]
          have := (List.getElem?_inj (by simp; exact (List.getElem?_eq_some_iff.1 q5).1) hnd).1 (q6.trans q7.symm)
          omega
        · have q3 : p ∈ (lowTm hp0.length s.tm).zip a.tmps.toList ++ cellPairs s.hp hv := by
            rcases List.mem_append.1 q1 with q3 | q3
            · exact List.mem_append_left _ q3
            · refine List.mem_append_right _ ?_
              simp only [cellPairs, List.mem_flatMap] at q3 ⊢
              obtain ⟨q, q4, q5⟩ := q3
              refine ⟨q, ?_, q5⟩
              have q6 : hp0.zip (hv.take hp0.length) = (s.hp.zip hv).take hp0.length := by
                have q7 : (s.hp.zip hv).take hp0.length = (s.hp.take hp0.length).zip (hv.take hp0.length) := by simp [List.zip, List.take_zipWith]
                rw [q7, hp0t]
              rw [q6] at q4
              exact List.mem_of_mem_take q4
          exact hrelL.nm p q3 c q2 _ (List.mem_of_getElem? hm) rfl
      · have := ht.sub b i hv
        exact ⟨hrel1.lt b i (.inr this), fun he => (hSn i).2 (he ▸ this)⟩
    have hcalls := hI.2 Er (hp0, s.b, none) (rangeQ (lowTm hp0.length s.tm) Q) h S _ (fun b _ => b < w1.heap.size ∧ b ≠ pb) w1 _ _ [Value.func (.yield l) #[] #[], Value.pointer (some ⟨pb, 0, none⟩)] rfl hrelB (fun _ _ h => h) hE (Nat.le_refl _)
    refine ⟨l, bs.map fun b => { target := .collected b, args := #[] }, w1, { target := .fn (.func k) #[Value.pointer (some ⟨pb, 0, none⟩)], args := #[] ++ #[Value.func (.yield l) #[] #[]] }, w1, k, #[] ++ #[Value.func (.yield l) #[] #[]] ++ #[Value.pointer (some ⟨pb, 0, none⟩)], w1, e1, ?_, fun _ _ => trivial, ?_, fun hd => (by cases hd), ?_⟩
    · have hm : Array.map a.eval #[Operand.const (Value.func (Fn.yield l) #[] #[])] = #[a.eval (Operand.const (Value.func (Fn.yield l) #[] #[]))] := by simp
      simp only [resolve, hfe, Deferred.ofValue, hm]; rfl
    · simp only [invoke]; exact hI.1 _ _
    · refine (CallsIn.mono hcalls ?_ : CallsIn Fence.wide 0 P k _ w1 _)
      rintro e w3 ⟨v, ⟨hpE, bE, stE⟩, S', V', rfl, hQ, hE'⟩
      obtain ⟨Xc, Vc, mC, hvC, g0, g1, g2, g3, g4, g5, g6, g7, g8, g9, gXV, g10, g11⟩ := hE'
      simp only at g0 g1 g3 g10
      refine ⟨_, _, run_endLoop g10 (by cases stE <;> simp), ?_⟩
      have hlN : Ev.N ≤ l := Nat.le_trans (Nat.le_trans ht.base.1 ht.base.2) e4
      have hbeh : ∀ e, Q e ⟨lowTm hp0.length s.tm, hpE, bE⟩ → Beh0 Ev lo r S X V w Q e { a with defers := (bs.map fun b => { target := .collected b, args := #[] }) ++ a.defers }
          (w3.putObj l (.loop { state := .exhausted, pending := stE.map codeOf, fn, tmps := a.tmps, params := ps, assign, body, defers := D })) := by
        intro e hQe
        refine ⟨⟨lowTm hp0.length s.tm, hpE, bE⟩, S', Xc, Vc, mC, hvC, hQe, g11.putObj e4 g10, ⟨⟨html, ?_, by intro p hp; cases hp⟩, g2, Ev.stableO _ g3 hlN g10 rfl, fun l0 hl0 => ?_, ?_, ht.base.1, ?_⟩⟩
        · simpa using g1.putObj (o' := .loop { state := .exhausted, pending := stE.map codeOf, fn, tmps := a.tmps, params := ps, assign, body, defers := D }) g10 rfl
        · obtain ⟨rc, h3⟩ := g5 l0 hl0
          exact ⟨rc, putObj_other h3 (by have := hr0 l0 hl0; omega)⟩
        · refine ⟨bs ++ bs0, by simp [m1], ?_, fun b hb => ⟨?_, putObj_other (g6 b hb) ?_⟩⟩
          · rw [List.nodup_append]
            refine ⟨e5, m2, fun x hx y hy hxy => ?_⟩
            have := (e6 x hx).1; have := hbs0 y hy; omega
          · rcases List.mem_append.1 hb with h3 | h3
            · exact Nat.le_trans ht.base.2 (e6 b h3).1
            · exact (m3 b h3).1
          · rintro rfl
            have := g6 _ hb
            rw [g10] at this; cases this
        · simpa using Nat.le_trans ht.base.2 g11.tr.size
      cases stE with
      | none => exact hbeh .normal hQ
      | some e =>
        cases e with
        | exit id => exact wpIn_exit (hbeh (.exit id) hQ)
        | goto t => exact wpIn_goto (hbeh (.goto t) hQ)
        | ret => exact wpIn_ret (hbeh .ret hQ)
        | normal => exact wpIn_ret (hbeh .ret hQ)
        | panic ch => exact wpIn_ret (hbeh .ret hQ)
        | outgrown => exact wpIn_ret (hbeh .ret hQ)

/-- **such an iterator's contract out of its walk** -/
theorem ICallB.ofW {f : Nat} {fn : Func} {args : List AV} {blk : Blk} {Sp : SpT} (hf : P.funcs[f]? = some fn) (hb : fn.body = some c) (hn : (fn.name == "runtime.NumGoroutine") = false)
    (hW : ∀ (Ev : Env P) (b : Ev.β) (Q : Ev.β → Prop), Sp Ev.Y b Q → W Ev c ⟨startTm fn args, [blk], b⟩ (FnPost P fn fun _ _ b' => Q b')) : ICallB P f args blk Sp := by
  refine ⟨enter_ok hf hb hn, fun Ev b Q hSp S X V w m hv vs hl hrel hV hE hN => ?_⟩
  refine calls_of_W (Ev := Ev) (V := V) (B := []) hf hb hl (hW Ev b Q hSp) hrel hV hE hN ?_
  intro y S' X' V' w' m' hv' hp' v b' hq _ _ _ _ hE' _
  exact ⟨v, b', S', V', rfl, hq, hE'⟩

theorem calls_of_W0 {f : Nat} {fn : Func} {c : Code} {args : List AV} {vs : List Value} {b : Ev.β} {R : AV → List Blk → Ev.β → Prop} {RR : Ending → World → Prop} (hf : P.funcs[f]? = some fn) (hb : fn.body = some c) (hl : args.length = vs.length)
    (hW : W0 Ev c ⟨startTm fn args, hp, b⟩ (FnPost P fn R)) (hr : Rel S X Ev.yl w m (args.zip vs ++ ([] ++ cellPairs hp hv)) hp hv) (hV : ∀ b i, V b i → X b i) (hE : Ev.E b S V w) (hN : Ev.N ≤ w.heap.size)
    (hR : ∀ {x S' X' V' w' m' hv' hp' v b'}, R x hp' b' → Tr (fun b i => ¬ X b i ∨ V b i) Ev.L S w S' w' → (∀ b i, X b i → X' b i) → Rel S' X' Ev.yl w' m' ([] ++ cellPairs hp' hv') hp' hv' → Ev.E b' S' V' w' → RV S' w' m' Ev.yl x v → RR (.returned v) w') :
    CallsIn Fence.wide 0 P f vs.toArray w RR := by
  refine callsIn_of_wp_marks (F := Fn none) hf hb trivial ?_
  obtain ⟨h1, h2⟩ := start_rel (fn := fn) rfl hl hr
  refine wpIn_mono (hW w.heap.size none S X V w m hv _ ⟨⟨h1, h2, by intro p hp; cases hp⟩, hV, hE, (fun l hl => by cases hl), ⟨[], rfl, List.nodup_nil, by simp⟩, hN, Nat.le_refl _⟩) fun e a' w' ⟨s', S', X', V', m', hv', hq, hm, ht⟩ => ?_
  obtain ⟨he, ys, hys, hRy⟩ := hq
  have hleave : LeavesInM (Fn none) 0 P fn a'.tmps RR a'.defers .returning w' := by
    refine leaves_of (lo := w.heap.size) (K := fun w' => RelS S' X' Ev.yl w' m' [] hv' s'.rs a' ∧ Ev.E s'.b S' V' w' ∧ Tr (fun b i => ¬ X b i ∨ V b i) Ev.L S w S' w') (fun w' d ⟨k1, k2, k3⟩ hd hdef => ?_) (fun w' ⟨k1, k2, k3⟩ => ?_) ht.marks ⟨ht.rel, ht.env, hm.tr⟩
    · exact ⟨⟨k1.1, k1.2.1.putObj hdef rfl, k1.2.2⟩, Ev.stableO _ k2 (Nat.le_trans hN hd) hdef rfl, k3.putObj hd hdef⟩
    · obtain ⟨v, h3, h4⟩ := results_sound (P := P) (fn := fn) k1 hys
      exact ⟨v, h3, hR hRy k3 hm.xs (k1.2.1.sub (List.sublist_append_right _ _)) k2 h4⟩
  rcases he with rfl | rfl
  · exact hleave
  · exact hleave

/-- **a contract, where blocks are lent** -/
theorem PCall.ofW0 {x0 : Dv} {f : Nat} {fn : Func} {c : Code} {args : List AV} {x : AV} (hf : P.funcs[f]? = some fn) (hb : fn.body = some c) (hn : (fn.name == "runtime.NumGoroutine") = false) (hargs : args.map AV.view = args)
    (hW : ∀ (Ev : Env P) (b : Ev.β), W0 Ev c ⟨startTm fn args, [], b⟩ (FnPost P fn fun y hp _ => y = .d x0 ∧ x = .d x0)) : PCall P f args x := by
  refine ⟨enter_ok hf hb hn, fun S w vs hl hvs hlt hgl => ?_⟩
  have hrel : Rel S (fun b _ => b < w.heap.size) none w [] (args.zip vs ++ ([] ++ cellPairs [] [])) [] [] := by
    have h0 : Rel S (fun b _ => b < w.heap.size) none w [] [] [] [] := ⟨fun b i h => h.elim (hlt b i) id, by simp, List.Pairwise.nil, by simp, by simp, by simp, rfl, rfl, by simp, hgl⟩
    have := h0.pushAll (args.zip vs) (fun p hp => by
      obtain ⟨j, hj⟩ := List.mem_iff_getElem?.1 hp
      rw [List.getElem?_zip_eq_some] at hj
      refine ⟨hvs j p.1 p.2 hj.1 hj.2, ?_⟩
      have hp1 : p.1.view = p.1 := by
        have h1 : (args.map AV.view)[j]? = some p.1.view := by simp [hj.1]
        rw [hargs, hj.1] at h1; exact (Option.some.inj h1).symm
      obtain ⟨p1, p2⟩ := p
      simp only at hp1
      rw [← hp1]; exact ownB_view _ _)
    simpa [cellPairs] using this
  refine calls_of_W0 (Ev := Env.none P none) (V := fun _ _ => False) (b := (() : Unit)) hf hb hl (hW (Env.none P _) (() : Unit)) hrel (fun _ _ h => h.elim) trivial (Nat.zero_le _) ?_
  intro y S' X' V' w' m' hv' hp' v b' hy htr0 hxs hr _ hyv
  obtain ⟨rfl, rfl⟩ := hy
  have htr : Tr (fun b i => ¬ b < w.heap.size) (fun _ => False) S w S' w' := htr0.mono (fun b i h => h.resolve_right id) (fun _ h => h)
  refine ⟨v, S', rfl, below_of_tr htr (fun b i hb hz => hz hb) (fun _ h => h), fun b i hs => htr.up b i hs, fun b i hs => ?_, ?_⟩
  · rcases htr.new b i hs with h1 | h1 | h1
    · exact .inl h1
    · exact .inr ⟨Nat.le_of_not_lt h1, htr.lt b i hs⟩
    · exact .inr ⟨h1, htr.lt b i hs⟩
  · cases hyv with
    | d h => exact .d h

end
end Go.Proofs.YtfeemohdpmdaoaaDoor.Am

/- What is said less of a value, at any depth. -/
namespace Go.Proofs.YtfeemohdpmdaoaaDoor.Am
set_option linter.unusedVariables false
open Go Go.RowKit

/-- y says no more than x -/
inductive LeV : AV → AV → Prop
  | rfl {x : AV} : LeV x x
  | bad {x : AV} : LeV x .bad
  | nil {x : AV} {k : Nat} (h : isNilSlice x = true) : LeV x (.d (.sl k []))
  | full {k : Nat} {xs : List (List Dv)} : LeV (.full k xs) (.d (.sl k xs))
  | agg {xs ys : List AV} (hl : xs.length = ys.length) (h : ∀ (i : Nat) (x y : AV), xs[i]? = some x → ys[i]? = some y → LeV x y) : LeV (.agg xs) (.agg ys)
  | tup {xs ys : List AV} (hl : xs.length = ys.length) (h : ∀ (i : Nat) (x y : AV), xs[i]? = some x → ys[i]? = some y → LeV x y) : LeV (.tup xs) (.tup ys)

inductive LeVs : List AV → List AV → Prop
  | nil : LeVs [] []
  | cons {x y : AV} {xs ys : List AV} (h : LeV x y) (hs : LeVs xs ys) : LeVs (x :: xs) (y :: ys)
theorem LeVs.len {xs ys : List AV} (h : LeVs xs ys) : xs.length = ys.length := by
  induction h with
  | nil => rfl
  | cons _ _ ih => simp [ih]
theorem LeVs.at {xs ys : List AV} (h : LeVs xs ys) : ∀ (i : Nat) (x y : AV), xs[i]? = some x → ys[i]? = some y → LeV x y := by
  induction h with
  | nil => intro i x y h; simp at h
  | cons h _ ih =>
    intro i x y h1 h2
    cases i with
    | zero => simp at h1 h2; subst h1; subst h2; exact h
    | succ i => exact ih i x y (by simpa using h1) (by simpa using h2)
theorem LeVs.refl : ∀ xs : List AV, LeVs xs xs
  | [] => .nil
  | _ :: xs => .cons .rfl (LeVs.refl xs)
theorem LeV.aggs {xs ys : List AV} (h : LeVs xs ys) : LeV (.agg xs) (.agg ys) := .agg h.len h.at
theorem LeV.tups {xs ys : List AV} (h : LeVs xs ys) : LeV (.tup xs) (.tup ys) := .tup h.len h.at

theorem LeV.rv {S : Pr} {w : World} {m : List MB} {yv : Option Nat} {x y : AV} (h : LeV x y) : ∀ {v : Value}, RV S w m yv x v → RV S w m yv y v := by
  induction h with
  | rfl => exact fun h => h
  | bad => exact fun _ => .bad
  | nil h => exact fun hr => (LeA.nilSl h).rv hr
  | full => exact fun hr => (LeX.full _ _).rv hr
  | agg hl h ih =>
    intro v hr
    cases hr with
    | agg hl' hr =>
      refine .agg (hl.symm.trans hl') fun i c v h1 h2 => ?_
      have hi := (List.getElem?_eq_some_iff.1 h1).1
      exact ih i _ c (List.getElem?_eq_getElem (by omega)) h1 (hr i _ v (List.getElem?_eq_getElem (by omega)) h2)
  | tup hl h ih =>
    intro v hr
    cases hr with
    | tup hl' hr =>
      refine .tup (hl.symm.trans hl') fun i c v h1 h2 => ?_
      have hi := (List.getElem?_eq_some_iff.1 h1).1
      exact ih i _ c (List.getElem?_eq_getElem (by omega)) h1 (hr i _ v (List.getElem?_eq_getElem (by omega)) h2)

section
variable {P : Program}
theorem PCall.leV {f : Nat} {args : List AV} {x y : AV} (h : LeV x y) (hv : x.view = x) (hp : PCall P f args x) : PCall P f args y := by
  refine ⟨hp.1, fun S w vs hl hvs hlt hgl => CallsIn.mono (hp.2 S w vs hl hvs hlt hgl) ?_⟩
  rintro e w' ⟨v, S', h1, h2, h3, h4, h5⟩
  rw [hv] at h5
  exact ⟨v, S', h1, h2, h3, h4, (h.rv h5).view⟩
theorem PCall.leArgsV {f : Nat} {args args' : List AV} {x : AV} (h : LeVs args args') (hp : PCall P f args' x) : PCall P f args x := by
  refine ⟨hp.1, fun S w vs hl hvs hlt hgl => hp.2 S w vs (h.len ▸ hl) (fun i y v h1 h2 => ?_) hlt hgl⟩
  have hi := (List.getElem?_eq_some_iff.1 h1).1
  have hi' : i < args.length := h.len ▸ hi
  exact (h.at i _ y (List.getElem?_eq_getElem hi') h1).rv (hvs i _ v (List.getElem?_eq_getElem hi') h2)
/-- a function that turns nothing of its callers'; less is said of its result -/
theorem PCall.ofWV {f : Nat} {fn : Func} {c : Code} {args : List AV} {x : AV} (hf : P.funcs[f]? = some fn) (hb : fn.body = some c) (hn : (fn.name == "runtime.NumGoroutine") = false) (hargs : args.map AV.view = args)
    (hW : ∀ (Ev : Env P) (b : Ev.β), W Ev c ⟨startTm fn args, [], b⟩ (FnPost P fn fun y hp _ => ∃ z, SealR hp y z ∧ LeV z x)) : PCall P f args x := by
  refine ⟨enter_ok hf hb hn, fun S w vs hl hvs hlt hgl => ?_⟩
  have hrel : Rel S (fun b _ => b < w.heap.size) none w [] (args.zip vs ++ ([] ++ cellPairs [] [])) [] [] := by
    have h0 : Rel S (fun b _ => b < w.heap.size) none w [] [] [] [] := ⟨fun b i h => h.elim (hlt b i) id, by simp, List.Pairwise.nil, by simp, by simp, by simp, rfl, rfl, by simp, hgl⟩
    have := h0.pushAll (args.zip vs) (fun p hp => by
      obtain ⟨j, hj⟩ := List.mem_iff_getElem?.1 hp
      rw [List.getElem?_zip_eq_some] at hj
      refine ⟨hvs j p.1 p.2 hj.1 hj.2, ?_⟩
      have hp1 : p.1.view = p.1 := by
        have h1 : (args.map AV.view)[j]? = some p.1.view := by simp [hj.1]
        rw [hargs, hj.1] at h1; exact (Option.some.inj h1).symm
      obtain ⟨p1, p2⟩ := p
      simp only at hp1
      rw [← hp1]; exact ownB_view _ _)
    simpa [cellPairs] using this
  refine calls_of_W (Ev := Env.none P none) (V := fun _ _ => False) (b := (() : Unit)) hf hb hl (hW (Env.none P _) (() : Unit)) hrel (fun _ _ h => h.elim) trivial (Nat.zero_le _) ?_
  intro y S' X' V' w' m' hv' hp' v b' hyz htr0 hxs hm hr _ hyv
  obtain ⟨z, hy, hz⟩ := hyz
  have htr : Tr (fun b i => ¬ b < w.heap.size) (fun _ => False) S w S' w' := htr0.mono (fun b i h => h.resolve_right id) (fun _ h => h)
  refine ⟨v, withBlocks S' m', rfl, below_of_tr htr (fun b i hb hz => hz hb) (fun _ h => h), fun b i hs => .inl (htr.up b i hs), fun b i hs => ?_, (hz.rv (sealR_sound (B := []) (T := withBlocks S' m') (by simpa using hr) (fun _ _ h => .inl h) hy (fun g _ p hp i hi => .inr ⟨g, p, hp, rfl, hi⟩) hyv)).view⟩
  rcases hs with hs | ⟨g, p, hg, rfl, hi⟩
  · rcases htr.new b i hs with h1 | h1 | h1
    · exact .inl h1
    · exact .inr ⟨Nat.le_of_not_lt h1, htr.lt b i hs⟩
    · exact .inr ⟨h1, htr.lt b i hs⟩
  · have hr' : Rel S' X' none w' m' (([] : List (AV × Value)) ++ cellPairs hp' hv') hp' hv' := hr
    obtain ⟨blk, us, cur, e, g1, g2, g3, g4, g5, g6, g7, g8, g9, g10, g11, g12⟩ := hr'.block hg
    have hlt' : p.b < w'.heap.size := (Array.getElem?_eq_some_iff.1 g8).1
    cases hfr : blk.fro with
    | true =>
      have hs := g12 hfr i hi
      rcases htr.new _ _ hs with h1 | h1 | h1
      · exact .inl h1
      · exact .inr ⟨Nat.le_of_not_lt h1, hlt'⟩
      · exact .inr ⟨h1, hlt'⟩
    | false =>
      refine .inr ⟨Nat.le_of_not_lt fun hb => ?_, hlt'⟩
      exact (g11 hfr i).2 (hxs _ _ hb)

/-- a function's contract, of whose result less is said than its normal form tells -/
theorem PCall.ofFnV {f n : Nat} {fn : Func} {args : List AV} {x : AV} {T : List (Nat × (List AV → (AV → Prop) → Prop))} {U : List (Nat × (List AV → List Blk → (AV → List Blk → Prop) → Prop))} {u : Bool} (wl : ∀ β : Type, WLT β) (hm : P.follows .mixedOrders = true)
    (hT : CallsOk P T) (hS : SCallsOk P U) (hwl : ∀ (Ev : Env P) c tm hp b K, wl Ev.β c tm hp b K → W Ev c ⟨tm, hp, b⟩ (fun e s => K e s.tm s.hp s.b)) (hf : P.funcs[f]? = some fn) (hn : (fn.name == "runtime.NumGoroutine") = false) (hargs : args.map AV.view = args)
    (h : ∀ (Ev : Env P) (b : Ev.β), wpFn P ⟨T, U, wl Ev.β, Ev.Y, u⟩ n fn args b (fun y _ => LeV y x)) : PCall P f args x := by
  cases hb : fn.body with
  | some c =>
    refine PCall.ofWV hf hb hn hargs fun Ev b => ?_
    have h1 := h Ev b
    unfold wpFn at h1
    rw [hb] at h1
    refine wpc_sound hm (CX.Ok.ofWl hT hS (hwl Ev)) h1 fun e tm hp b hK => ?_
    obtain ⟨g1, ys, g2, z, g3, g4⟩ := fnK_sound hK
    exact ⟨g1, ys, g2, z, g3, g4⟩
  | none =>
    have := h (Env.none P none) ()
    unfold wpFn at this
    rw [hb] at this
    exact this.elim
end
end Go.Proofs.YtfeemohdpmdaoaaDoor.Am

/- Iterators that own several blocks: the ranger lends them and sees them no more. -/
namespace Go.Proofs.YtfeemohdpmdaoaaDoor.Am
set_option linter.unusedVariables false
set_option linter.unusedSimpArgs false
open Go Go.RowKit

/-- pointers to blocks from a on -/
def ptrsFrom (a n : Nat) : List AV := (List.range' a n).map fun i => AV.ptr i 0
theorem ptrsFrom_get {a n i : Nat} : (ptrsFrom a n)[i]? = if i < n then some (.ptr (a + i) 0) else none := by
  unfold ptrsFrom
  rw [List.getElem?_map]
  by_cases h : i < n
  · rw [if_pos h, List.getElem?_range' h]; simp
  · rw [if_neg h, List.getElem?_eq_none (by simp; omega)]; rfl

/-- an iterator's contract; it comes with blocks of its own -/
def ICallBs (P : Program) (f : Nat) (args : List AV) (bs : List Blk) (Sp : SpT) : Prop :=
  (∀ (ar : Array Value) (w : World), (callFunc f ar).run P w = .ok (.enter f ar) w) ∧
  ∀ (Ev : Env P) (b : Ev.β) (Q : Ev.β → Prop), Sp Ev.Y b Q → ∀ (S X V : Pr) (w : World) (m : List MB) (hv : List (List Value)) (vs : List Value), args.length = vs.length →
    Rel S X Ev.yl w m (args.zip vs ++ ([] ++ cellPairs bs hv)) bs hv → (∀ b i, V b i → X b i) → Ev.E b S V w → Ev.N ≤ w.heap.size →
    CallsIn Fence.wide 0 P f vs.toArray w fun e w' => ∃ v b' S' V', e = .returned v ∧ Q b' ∧ Ev.E b' S' V' w'

section
variable {P : Program} {S S' S'' X X' X'' V V' V'' Z : Pr} {L : Nat → Prop} {r : Option Nat} {lo : Nat} {yv : Option Nat} {w w' w'' : World} {m m' m'' : List MB} {A B T : List (AV × Value)} {hp hp' : List Blk} {hv hv' : List (List Value)} {call : CallT} {a a' : Act} {o : Oper} {ops : Array Oper} {Ev : Env P}
  {s : St Ev.β} {Q Q' : Exit → St Ev.β → Prop} {c c' : Code}

set_option maxHeartbeats 1000000 in
/-- **RANGE OVER A FUNCTION that owns blocks** -/
theorem W0.ranges {g : Operand} {ps : Array Tmp} {assign body : Code} {k : Nat} {hp0 : List Blk} {lent : List Blk} {Sp : SpT} (hs : s.hp = hp0 ++ lent) (hfro : ∀ q ∈ lent, q.fro = false) (hlow : lowHp hp0.length s.hp = true)
    (hcl : ∀ q ∈ lent, closeds q.cells = true ∧ q.cells.map AV.view = q.cells) (hg : evalA s.tm g = .fn (.func k) [] (ptrsFrom hp0.length lent.length))
    (hI : ICallBs P k (.yl :: ptrsFrom 0 lent.length) lent Sp) (h : Sp (YBody Ev (lowTm hp0.length s.tm) ps assign body hp0.length) (hp0, s.b, none) (rangeQ (lowTm hp0.length s.tm) Q)) : W0 Ev (.rangeFunc g ps assign body) s Q := by
  intro lo r S X V w m hv a ht
  refine wpIn_rangeFunc fun fn _ => ?_
  obtain ⟨l, bs, w1, D, e1, e2, e3, e4, e5, e6⟩ := enter_loop (P := P) fn a.tmps ps assign body ht.round
  have hfv := evalA_sound ht.rel g
  rw [hg] at hfv
  generalize hfe : a.eval g = fv at hfv
  cases hfv with
  | fn hne hl1 hl2 h1 h2 =>
    rename_i fs cs
    have hfs : fs = #[] := by simpa using hl1.symm
    subst hfs
    have hcsz : cs.size = lent.length := by rw [← hl2]; simp [ptrsFrom]
    have hgs := Gs.below ht.rel.2.1 e3 (S' := S) ⟨fun _ _ h => h, fun _ _ h => .inl h⟩
    have hlt1 : ∀ b i, S b i → b < w1.heap.size := fun b i hs => Nat.lt_of_lt_of_le (ht.rel.slt b i hs) e3.size
    have htr := hgs.tr hlt1
    have hrel1 : Rel S X Ev.yl w1 m (s.tm.zip a.tmps.toList ++ cellPairs s.hp hv) s.hp hv := by
      simpa using ht.rel.2.1.below e3 (fun _ _ h => h) (fun _ _ h => .inl h)
    have hsl : s.hp.length = hp0.length + lent.length := by rw [hs]; simp
    have hml : m.length = hp0.length + lent.length := by rw [hrel1.ml, hsl]
    have hvl : hv.length = hp0.length + lent.length := by rw [hrel1.hl, hsl]
    -- the captures
    have hcap : ∀ i, i < lent.length → ∃ q : MB, (m.drop hp0.length)[i]? = some q ∧ q.grow = false ∧ cs[i]? = some (.pointer (some ⟨q.b, 0, none⟩)) := by
      intro i hi
      have hci : i < cs.size := by omega
      have hr := h2 i (.ptr (hp0.length + i) 0) cs[i] (by rw [ptrsFrom_get, if_pos hi]) (by simp [hci])
      generalize hcv : cs[i] = cv at hr
      cases hr with
      | ptr hm =>
        rename_i pb plen pver
        refine ⟨_, by rw [List.getElem?_drop]; exact hm, rfl, ?_⟩
        rw [Array.getElem?_eq_getElem hci, hcv]
    have hmBl : (m.drop hp0.length).length = lent.length := by simp; omega
    have hcs : cs.toList = (m.drop hp0.length).map fun q => .pointer (some ⟨q.b, 0, none⟩) := by
      refine List.ext_getElem? fun i => ?_
      by_cases hi : i < lent.length
      · obtain ⟨q, q1, _, q2⟩ := hcap i hi
        rw [List.getElem?_map, q1, Array.getElem?_toList, q2]; rfl
      · rw [List.getElem?_eq_none (by simp; omega), List.getElem?_eq_none (by simp; omega)]
    have hrelL : Rel S X Ev.yl w1 m ((lowTm hp0.length s.tm).zip a.tmps.toList ++ cellPairs s.hp hv) s.hp hv := Rel.lowered hp0.length hrel1
    have hnT : ∀ p ∈ (lowTm hp0.length s.tm).zip a.tmps.toList, RV S w1 (m.take hp0.length) Ev.yl p.1 p.2 := by
      intro p hp
      refine (hrelL.rv p (List.mem_append_left _ hp)).low ?_
      have := (List.of_mem_zip hp).1
      simp only [lowTm, List.mem_map] at this
      obtain ⟨x, _, h3⟩ := this
      rw [← h3]
      split
      · assumption
      · rfl
    have hrelT := hrelL.trunc hnT hlow
    have hp0t : s.hp.take hp0.length = hp0 := by rw [hs]; simp
    rw [hp0t] at hrelT
    -- the blocks that are lent
    have hgb : ∀ i, (s.hp)[hp0.length + i]? = lent[i]? := fun i => by rw [hs, List.getElem?_append_right (by omega)]; congr 1; omega
    have hblk : ∀ (i : Nat) (blk : Blk) (q : MB) (vs : List Value), lent[i]? = some blk → (m.drop hp0.length)[i]? = some q → (hv.drop hp0.length)[i]? = some vs →
        s.hp[hp0.length + i]? = some blk ∧ m[hp0.length + i]? = some q ∧ hv[hp0.length + i]? = some vs := fun i blk q vs q1 q2 q3 =>
      ⟨by rw [hgb]; exact q1, by rw [List.getElem?_drop] at q2; exact q2, by rw [List.getElem?_drop] at q3; exact q3⟩
    have hSn : ∀ q ∈ m.drop hp0.length, q.b < w1.heap.size ∧ ∀ i, ¬ S q.b i ∧ ¬ X q.b i := by
      intro q hq
      obtain ⟨i, hi⟩ := List.mem_iff_getElem?.1 hq
      have hil : i < lent.length := by rw [← hmBl]; exact (List.getElem?_eq_some_iff.1 hi).1
      have hvil : i < (hv.drop hp0.length).length := by simp; omega
      obtain ⟨k1, k2, k3⟩ := hblk i lent[i] q (hv.drop hp0.length)[i] (by simp [hil]) hi (List.getElem?_eq_getElem hvil)
      obtain ⟨a1, a2, a3, a4, a5, a6, a9, a10⟩ := hrel1.bl _ _ _ _ k1 k2 k3
      refine ⟨?_, a9 (hfro _ (List.getElem_mem hil))⟩
      obtain ⟨cur, e, h3, _⟩ := a6
      exact (Array.getElem?_eq_some_iff.1 h3).1
    have hl1w : l < w1.heap.size := (Array.getElem?_eq_some_iff.1 e2).1
    obtain ⟨bs0, m1, m2, m3⟩ := ht.marks
    have hbs0 : ∀ b ∈ bs0, b < w.heap.size := fun b hb => (Array.getElem?_eq_some_iff.1 (m3 b hb).2).1
    have hr0 : ∀ l0, r = some l0 → l0 < w.heap.size := fun l0 hl0 => by
      obtain ⟨rc, h3⟩ := ht.round l0 hl0
      exact (Array.getElem?_eq_some_iff.1 h3).1
    have hm0 : (m.take hp0.length).length ≤ hp0.length := by simp; omega
    have hbsN : ∀ b ∈ bs ++ bs0, b < w1.heap.size := fun b hb => (List.mem_append.1 hb).elim (fun h => (e6 b h).2.1) (fun h => Nat.lt_of_lt_of_le (hbs0 b h) e3.size)
    have html : (lowTm hp0.length s.tm).length = a.tmps.size := by simpa [lowTm] using ht.rel.1
    let Er := rangeEnv Ev r S X V w (m.take hp0.length) (lowTm hp0.length s.tm) a [] hp0.length (bs ++ bs0) l { state := .ready, pending := none, fn, tmps := a.tmps, params := ps, assign, body, defers := D } w1.heap.size html rfl
      (Nat.le_trans ht.base.1 ht.base.2) e4 hm0 hl1w hbsN (fun l0 hl0 => Nat.lt_of_lt_of_le (hr0 l0 hl0) e3.size)
    have hrelB : Rel S (fun b _ => b < w1.heap.size ∧ ¬ ∃ q ∈ m.drop hp0.length, q.b = b) (some l) w1 (m.drop hp0.length) ((AV.yl :: ptrsFrom 0 lent.length).zip (Value.func (.yield l) #[] #[] :: cs.toList) ++ ([] ++ cellPairs lent (hv.drop hp0.length))) lent (hv.drop hp0.length) := by
      have hcp : ∀ p ∈ cellPairs lent (hv.drop hp0.length), RV S w1 (m.drop hp0.length) (some l) p.1 p.2 ∧ ownB p = none := by
        intro p hp
        simp only [cellPairs, List.mem_flatMap] at hp
        obtain ⟨⟨blk, vs⟩, hq, hp⟩ := hp
        obtain ⟨i, hi⟩ := List.mem_iff_getElem?.1 hq
        rw [List.getElem?_zip_eq_some] at hi
        have hpm : p ∈ cellPairs s.hp hv := by
          simp only [cellPairs, List.mem_flatMap]
          refine ⟨(blk, vs), List.mem_iff_getElem?.2 ⟨hp0.length + i, ?_⟩, hp⟩
          rw [List.getElem?_zip_eq_some]
          exact ⟨by rw [hgb]; exact hi.1, by have := hi.2; rw [List.getElem?_drop] at this; exact this⟩
        have hc1 := (List.of_mem_zip hp).1
        obtain ⟨j, hj⟩ := List.mem_iff_getElem?.1 hc1
        obtain ⟨hcl1, hvw⟩ := hcl blk (List.mem_of_getElem? hi.1)
        refine ⟨((hrel1.rv p (List.mem_append_right _ hpm)).closed (closeds_get hcl1 j _ hj)).opened, ?_⟩
        have h3 : (blk.cells.map AV.view)[j]? = some p.1.view := by simp only at hj; simp [hj]
        rw [hvw] at h3
        simp only at hj
        rw [hj] at h3
        obtain ⟨p1, p2⟩ := p
        simp only [Option.some.injEq] at h3
        rw [h3]; exact ownB_view _ _
      have h0 : Rel S (fun b _ => b < w1.heap.size ∧ ¬ ∃ q ∈ m.drop hp0.length, q.b = b) (some l) w1 (m.drop hp0.length) [] lent (hv.drop hp0.length) := by
        refine ⟨fun b i h => h.elim (hlt1 b i) (fun h => h.1), by simp, List.Pairwise.nil, by simp, by simp, ?_, hmBl, by simp; omega, fun g blk' p vs q1 q2 q3 => ?_, hrel1.gl⟩
        · have := hrel1.mnd
          rw [← List.take_append_drop hp0.length m, List.map_append] at this
          exact (List.nodup_append.1 this).2.1
        · obtain ⟨k1, k2, k3⟩ := hblk g blk' p vs q1 q2 q3
          obtain ⟨a1, a2, a3, a4, a5, a6, a9, a10⟩ := hrel1.bl _ _ _ _ k1 k2 k3
          have hpm : p ∈ m.drop hp0.length := List.mem_of_getElem? q2
          exact ⟨a1, a2, a3, a4, a5, a6, fun _ i => ⟨((hSn p hpm).2 i).1, fun h => h.2 ⟨p, hpm, rfl⟩⟩, fun hf => by rw [hfro _ (List.mem_of_getElem? q1)] at hf; cases hf⟩
      have h3 := h0.pushAll _ hcp
      have h4 := h3.pushAll ((AV.yl :: ptrsFrom 0 lent.length).zip (Value.func (.yield l) #[] #[] :: cs.toList)) (by
        intro p hp
        rw [List.zip_cons_cons] at hp
        rcases List.mem_cons.1 hp with rfl | hp
        · exact ⟨.yl rfl, rfl⟩
        · obtain ⟨i, hi⟩ := List.mem_iff_getElem?.1 hp
          rw [List.getElem?_zip_eq_some, ptrsFrom_get] at hi
          obtain ⟨hi1, hi2⟩ := hi
          split at hi1
          · rename_i hil
            obtain ⟨q, q1, qg, q2⟩ := hcap i hil
            rw [Array.getElem?_toList, q2] at hi2
            obtain ⟨p1, p2⟩ := p
            simp only [Option.some.injEq] at hi1 hi2
            subst hi1; subst hi2
            obtain ⟨qb, ql, qgr, qv⟩ := q
            simp only at qg; subst qg
            refine ⟨.ptr (len := ql) (ver := qv) (by rw [Nat.zero_add]; exact q1), rfl⟩
          · cases hi1)
      simpa using h4
    have hE : Er.E (hp0, s.b, none) S (fun b _ => b < w1.heap.size ∧ ¬ ∃ q ∈ m.drop hp0.length, q.b = b) w1 := by
      refine ⟨X, V, m.take hp0.length, hv.take hp0.length, rfl, by simpa using hrelT, ht.sub, Ev.stable ht.env (htr.mono (fun b i hx hv => hx (ht.sub b i hv)) (fun _ h => h)), MStep.refl _, ht.round.tr htr, fun b hb => ?_, fun c hc i => ?_, fun b i hv => ?_, fun b i h => h.1, fun b i hx => ⟨hrel1.lt b i (.inr hx), ?_⟩, e2, hgs.went hlt1⟩
      · rcases List.mem_append.1 hb with h3 | h3
        · exact (e6 b h3).2.2
        · rw [e3.block b (hbs0 b h3)]; exact (m3 b h3).2
      · have hc' : Owned hp0 (m.take hp0.length) ((lowTm hp0.length s.tm).zip a.tmps.toList ++ cellPairs hp0 (hv.take hp0.length)) c := by simpa using hc
        refine ⟨hrelT.ownedLt hc', ?_⟩
        rintro ⟨q, hq, rfl⟩
        obtain ⟨i, hi⟩ := List.mem_iff_getElem?.1 hq
        have hmi : m[hp0.length + i]? = some q := by rw [List.getElem?_drop] at hi; exact hi
        rcases hc' with ⟨g, blk', p, q1, q2, q3, q4⟩ | ⟨p, q1, q2⟩
        · have hgl : g < hp0.length := (List.getElem?_eq_some_iff.1 q1).1
          have q5 : m[g]? = some p := by rw [List.getElem?_take, if_pos hgl] at q2; exact q2
          have hnd := hrel1.mnd
          have q6 : (m.map (·.b))[g]? = some q.b := by simp [q5, q4]
          have q7 : (m.map (·.b))[hp0.length + i]? = some q.b := by simp [hmi]
          have := (List.getElem?_inj (by simp; exact (List.getElem?_eq_some_iff.1 q5).1) hnd).1 (q6.trans q7.symm)
          omega
        · have q3 : p ∈ (lowTm hp0.length s.tm).zip a.tmps.toList ++ cellPairs s.hp hv := by
            rcases List.mem_append.1 q1 with q3 | q3
            · exact List.mem_append_left _ q3
            · refine List.mem_append_right _ ?_
              simp only [cellPairs, List.mem_flatMap] at q3 ⊢
              obtain ⟨q, q4, q5⟩ := q3
              refine ⟨q, ?_, q5⟩
              have q6 : hp0.zip (hv.take hp0.length) = (s.hp.zip hv).take hp0.length := by
                have q7 : (s.hp.zip hv).take hp0.length = (s.hp.take hp0.length).zip (hv.take hp0.length) := by simp [List.zip, List.take_zipWith]
                rw [q7, hp0t]
              rw [q6] at q4
              exact List.mem_of_mem_take q4
          exact hrelL.nm p q3 q.b q2 q (List.mem_of_getElem? hmi) rfl
      · have := ht.sub b i hv
        exact ⟨hrel1.lt b i (.inr this), fun ⟨q, hq, he⟩ => ((hSn q hq).2 i).2 (he ▸ this)⟩
      · exact fun ⟨q, hq, he⟩ => ((hSn q hq).2 i).2 (he ▸ hx)
    have hcalls := hI.2 Er (hp0, s.b, none) (rangeQ (lowTm hp0.length s.tm) Q) h S _ (fun b _ => b < w1.heap.size ∧ ¬ ∃ q ∈ m.drop hp0.length, q.b = b) w1 _ _ (Value.func (.yield l) #[] #[] :: cs.toList) (by simp [ptrsFrom, hcsz]) hrelB (fun _ _ h => h) hE (Nat.le_refl _)
    refine ⟨l, bs.map fun b => { target := .collected b, args := #[] }, w1, { target := .fn (.func k) cs, args := #[] ++ #[Value.func (.yield l) #[] #[]] }, w1, k, #[] ++ #[Value.func (.yield l) #[] #[]] ++ cs, w1, e1, ?_, fun _ _ => trivial, ?_, fun hd => (by cases hd), ?_⟩
    · have hm : Array.map a.eval #[Operand.const (Value.func (Fn.yield l) #[] #[])] = #[a.eval (Operand.const (Value.func (Fn.yield l) #[] #[]))] := by simp
      simp only [resolve, hfe, Deferred.ofValue, hm]; rfl
    · simp only [invoke]; exact hI.1 _ _
    · have hargs : (#[] ++ #[Value.func (.yield l) #[] #[]] ++ cs : Array Value) = (Value.func (.yield l) #[] #[] :: cs.toList).toArray := by
        apply Array.ext'; simp
      rw [hargs]
      refine (CallsIn.mono hcalls ?_ : CallsIn Fence.wide 0 P k _ w1 _)
      rintro e w3 ⟨v, ⟨hpE, bE, stE⟩, S', V', rfl, hQ, hE'⟩
      obtain ⟨Xc, Vc, mC, hvC, g0, g1, g2, g3, g4, g5, g6, g7, g8, g9, gXV, g10, g11⟩ := hE'
      simp only at g0 g1 g3 g10
      refine ⟨_, _, run_endLoop g10 (by cases stE <;> simp), ?_⟩
      have hlN : Ev.N ≤ l := Nat.le_trans (Nat.le_trans ht.base.1 ht.base.2) e4
      have hbeh : ∀ e, Q e ⟨lowTm hp0.length s.tm, hpE, bE⟩ → Beh0 Ev lo r S X V w Q e { a with defers := (bs.map fun b => { target := .collected b, args := #[] }) ++ a.defers }
          (w3.putObj l (.loop { state := .exhausted, pending := stE.map codeOf, fn, tmps := a.tmps, params := ps, assign, body, defers := D })) := by
        intro e hQe
        refine ⟨⟨lowTm hp0.length s.tm, hpE, bE⟩, S', Xc, Vc, mC, hvC, hQe, g11.putObj e4 g10, ⟨⟨html, ?_, by intro p hp; cases hp⟩, g2, Ev.stableO _ g3 hlN g10 rfl, fun l0 hl0 => ?_, ?_, ht.base.1, ?_⟩⟩
        · simpa using g1.putObj (o' := .loop { state := .exhausted, pending := stE.map codeOf, fn, tmps := a.tmps, params := ps, assign, body, defers := D }) g10 rfl
        · obtain ⟨rc, h3⟩ := g5 l0 hl0
          exact ⟨rc, putObj_other h3 (by have := hr0 l0 hl0; omega)⟩
        · refine ⟨bs ++ bs0, by simp [m1], ?_, fun b hb => ⟨?_, putObj_other (g6 b hb) ?_⟩⟩
          · rw [List.nodup_append]
            refine ⟨e5, m2, fun x hx y hy hxy => ?_⟩
            have := (e6 x hx).1; have := hbs0 y hy; omega
          · rcases List.mem_append.1 hb with h3 | h3
            · exact Nat.le_trans ht.base.2 (e6 b h3).1
            · exact (m3 b h3).1
          · rintro rfl
            have := g6 _ hb
            rw [g10] at this; cases this
        · simpa using Nat.le_trans ht.base.2 g11.tr.size
      cases stE with
      | none => exact hbeh .normal hQ
      | some e =>
        cases e with
        | exit id => exact wpIn_exit (hbeh (.exit id) hQ)
        | goto t => exact wpIn_goto (hbeh (.goto t) hQ)
        | ret => exact wpIn_ret (hbeh .ret hQ)
        | normal => exact wpIn_ret (hbeh .ret hQ)
        | panic ch => exact wpIn_ret (hbeh .ret hQ)
        | outgrown => exact wpIn_ret (hbeh .ret hQ)

/-- **such an iterator's contract out of its walk** -/
theorem ICallBs.ofW {f : Nat} {fn : Func} {args : List AV} {lent : List Blk} {Sp : SpT} (hf : P.funcs[f]? = some fn) (hb : fn.body = some c) (hn : (fn.name == "runtime.NumGoroutine") = false)
    (hW : ∀ (Ev : Env P) (b : Ev.β) (Q : Ev.β → Prop), Sp Ev.Y b Q → W Ev c ⟨startTm fn args, lent, b⟩ (FnPost P fn fun _ _ b' => Q b')) : ICallBs P f args lent Sp := by
  refine ⟨enter_ok hf hb hn, fun Ev b Q hSp S X V w m hv vs hl hrel hV hE hN => ?_⟩
  refine calls_of_W (Ev := Ev) (V := V) (B := []) hf hb hl (hW Ev b Q hSp) hrel hV hE hN ?_
  intro y S' X' V' w' m' hv' hp' v b' hq _ _ _ _ hE' _
  exact ⟨v, b', S', V', rfl, hq, hE'⟩
end
end Go.Proofs.YtfeemohdpmdaoaaDoor.Am

/- Plain things that every seat wants: lists of numbers as rows, ranges of numbers. -/
namespace Go.Proofs.YtfeemohdpmdaoaaDoor.Am
set_option linter.unusedVariables false
open Go Go.RowKit Go.Proofs

def bytesR (b : List Int) : List (List Dv) := b.map fun x => [u8 x]
def intsR (p : List Int) : List (List Dv) := p.map fun x => [i64 x]
def digR (p : List Int) : List (List Dv) := p.map fun x => [u64 x]
theorem bytesR_take (p : List Int) (n : Nat) : (bytesR p).take n = bytesR (p.take n) := by simp [bytesR]
theorem bytesR_drop (p : List Int) (n : Nat) : (bytesR p).drop n = bytesR (p.drop n) := by simp [bytesR]
theorem bytesR_len (p : List Int) : (bytesR p).length = p.length := by simp [bytesR]
theorem intsR_len (p : List Int) : (intsR p).length = p.length := by simp [intsR]
theorem digR_len (p : List Int) : (digR p).length = p.length := by simp [digR]
theorem bytesR_app (p q : List Int) : bytesR (p ++ q) = bytesR p ++ bytesR q := by simp [bytesR]
theorem ints_app (p : List Int) (x : Int) : intsR p ++ [[i64 x]] = intsR (p ++ [x]) := by simp [intsR]
theorem bytes_app (p : List Int) (x : Int) : bytesR p ++ [[u8 x]] = bytesR (p ++ [x]) := by simp [bytesR]
theorem digs_app (p : List Int) (x : Int) : digR p ++ [[u64 x]] = digR (p ++ [x]) := by simp [digR]
theorem ints_at {p : List Int} {k : Nat} (h : k < p.length) : (intsR p)[k]? = some [i64 (nth p k)] := by simp [intsR, nth, h]
theorem bytes_at {p : List Int} {k : Nat} (h : k < p.length) : (bytesR p)[k]? = some [u8 (nth p k)] := by simp [bytesR, nth, h]
theorem digs_at {p : List Int} {k : Nat} (h : k < p.length) : (digR p)[k]? = some [u64 (nth p k)] := by simp [digR, nth, h]
theorem take_next {ss : List Int} {k : Nat} (h : k < ss.length) : ss.take (k + 1) = ss.take k ++ [nth ss k] := by
  rw [List.take_add_one]; simp [nth, List.getD, h]
theorem wrap_u8 {x : Int} (h0 : 0 ≤ x) (h1 : x < 256) : IntKind.wrap .u8 x = x := by
  simp only [IntKind.wrap]; simp [IntKind.signed, IntKind.bits]; omega
theorem wrap_i64 {x : Int} (h0 : -9223372036854775808 ≤ x) (h1 : x < 9223372036854775808) : IntKind.wrap .i64 x = x := by
  simp only [IntKind.wrap]; simp [IntKind.signed, IntKind.bits]; omega
theorem wrap_u64 {x : Int} (h0 : 0 ≤ x) (h1 : x < 18446744073709551616) : IntKind.wrap .u64 x = x := by
  simp only [IntKind.wrap]; simp [IntKind.signed, IntKind.bits]; omega
theorem wrap_u64_range (x : Int) : 0 ≤ IntKind.wrap .u64 x ∧ IntKind.wrap .u64 x < 18446744073709551616 := by
  simp only [IntKind.wrap]; simp [IntKind.signed, IntKind.bits]; omega
theorem wrap_succ {n k : Nat} (h : k < n) (hn : n ≤ 9223372036854775807) : IntKind.wrap .i64 ((k : Int) + 1) = ((k + 1 : Nat) : Int) := by
  rw [wrap_i64 (by omega) (by omega)]; simp
theorem drop_cons {α : Type} {l rest : List α} {r : α} {k : Nat} (hd : l.drop k = r :: rest) : k < l.length ∧ l[k]? = some r ∧ l.drop (k + 1) = rest := by
  refine ⟨?_, ?_, ?_⟩
  · rcases Nat.lt_or_ge k l.length with h | h
    · exact h
    · rw [List.drop_eq_nil_of_le h] at hd; cases hd
  · have := congrArg (fun x => x[0]?) hd
    simpa using this
  · have := congrArg List.tail hd
    simpa using this
theorem drop_nil {α : Type} {l : List α} {k : Nat} (hd : l.drop k = []) : l.length ≤ k := List.drop_eq_nil_iff.1 hd
theorem bif_f {t : Bool} {A B : Prop} (h : BIf t A B) (ht : t = false) : B := by subst ht; exact h
theorem bif_t {t : Bool} {A B : Prop} (h : BIf t A B) (ht : t = true) : A := by subst ht; exact h
theorem LeL.at {x y : AV} (pre post : List AV) (h : LeA x y) : LeL (pre ++ x :: post) (pre ++ y :: post) := by
  induction pre with
  | nil => exact .cons h (LeL.refl _)
  | cons a pre ih => exact .cons .rfl ih
theorem YList.mono {P : Program} {Ev : Env P} {Q Q' : Ev.β → Prop} (hq : ∀ b, Q b → Q' b) : ∀ (l : List (List AV)) (b : Ev.β), YList Ev.Y l b Q → YList Ev.Y l b Q'
  | [], b, h => hq b h
  | x :: l, b, h => Ev.Ymono h fun c b' h => by
    cases c with
    | true => exact YList.mono hq l b' h
    | false => exact hq b' h
theorem bytes_of {x : Dv} (h : HasTy (.sl [.int .u8]) x) : ∃ p : List Int, x = .sl 1 (bytesR p) ∧ p.length ≤ maxLen ∧ ∀ a ∈ p, 0 ≤ a ∧ a < 256 := by
  cases h with
  | sl _ xs hl h =>
    have key : ∀ (xs : List (List Dv)), (∀ row ∈ xs, HasTys [.int .u8] row) → ∃ p : List Int, xs = bytesR p ∧ ∀ a ∈ p, 0 ≤ a ∧ a < 256 := by
      intro xs
      induction xs with
      | nil => exact fun _ => ⟨[], rfl, fun a h => by cases h⟩
      | cons row xs ih =>
        intro h
        obtain ⟨p, rfl, hp⟩ := ih fun r hr => h r (List.mem_cons_of_mem _ hr)
        have h0 := h row (List.mem_cons_self ..)
        cases h0 with
        | cons h1 h2 => cases h2 with
          | nil => cases h1 with
            | int _ n hw =>
              refine ⟨n :: p, rfl, fun a ha => ?_⟩
              rcases List.mem_cons.1 ha with rfl | ha
              · simp [Lit.wf, IntKind.min, IntKind.max, IntKind.signed, IntKind.bits] at hw; omega
              · exact hp a ha
    obtain ⟨p, rfl, hp⟩ := key xs h
    exact ⟨p, rfl, by simpa [bytesR] using hl, hp⟩
end Go.Proofs.YtfeemohdpmdaoaaDoor.Am

/- Calls that hand out blocks, of whose results less is said. -/
namespace Go.Proofs.YtfeemohdpmdaoaaDoor.Am
set_option linter.unusedVariables false
open Go Go.RowKit

/-- y says no more than x, or it is an empty slice without room -/
inductive LeF : AV → AV → Prop
  | v {x y : AV} (h : LeV x y) : LeF x y
  | nilFull {x : AV} {k : Nat} (h : isNilSlice x = true) : LeF x (.full k [])
theorem LeF.rfl {x : AV} : LeF x x := .v .rfl
section
variable {P : Program} {S S' T X V Z : Pr} {L : Nat → Prop} {yv : Option Nat} {w w' : World} {m m' m1 : List MB} {A A' B : List (AV × Value)} {hp hp' hp1 : List Blk} {hv hv' hv1 : List (List Value)}
theorem LeF.rv {x y : AV} {v : Value} (h : LeF x y) (hr : RV S w m yv x v) : RV S w m yv y v := by
  cases h with
  | v h => exact h.rv hr
  | nilFull h =>
    have := isNilSlice_spec h hr
    subst this
    exact RV.full (xs := []) (.nil _)
theorem FCall.ofWF {f : Nat} {fn : Func} {c : Code} {args : List AV} {x : AV} (hf : P.funcs[f]? = some fn) (hb : fn.body = some c) (hn : (fn.name == "runtime.NumGoroutine") = false) (hargs : args.map AV.view = args) (hfro : hp1.all (fun b => !b.fro) = true)
    (hW : ∀ (Ev : Env P) (b : Ev.β), W Ev c ⟨startTm fn args, [], b⟩ (FnPost P fn fun y hp _ => LeF y x ∧ hp = hp1)) : FCall P f args x hp1 := by
  refine ⟨enter_ok hf hb hn, fun S w vs hl hvs hlt hgl => ?_⟩
  have hrel : Rel S (fun b _ => b < w.heap.size) none w [] (args.zip vs ++ ([] ++ cellPairs [] [])) [] [] := by
    have h0 : Rel S (fun b _ => b < w.heap.size) none w [] [] [] [] := ⟨fun b i h => h.elim (hlt b i) id, by simp, List.Pairwise.nil, by simp, by simp, by simp, rfl, rfl, by simp, hgl⟩
    have := h0.pushAll (args.zip vs) (fun p hp => by
      obtain ⟨j, hj⟩ := List.mem_iff_getElem?.1 hp
      rw [List.getElem?_zip_eq_some] at hj
      refine ⟨hvs j p.1 p.2 hj.1 hj.2, ?_⟩
      have hp1 : p.1.view = p.1 := by
        have h1 : (args.map AV.view)[j]? = some p.1.view := by simp [hj.1]
        rw [hargs, hj.1] at h1; exact (Option.some.inj h1).symm
      obtain ⟨p1, p2⟩ := p
      simp only at hp1
      rw [← hp1]; exact ownB_view _ _)
    simpa [cellPairs] using this
  refine calls_of_W (Ev := Env.none P none) (V := fun _ _ => False) (b := (() : Unit)) hf hb hl (hW (Env.none P _) (() : Unit)) hrel (fun _ _ h => h.elim) trivial (Nat.zero_le _) ?_
  intro y S' X' V' w' m' hv' hp' v b' hy htr0 hxs hm hr _ hyv
  obtain ⟨hle, rfl⟩ := hy
  have htr : Tr (fun b i => ¬ b < w.heap.size) (fun _ => False) S w S' w' := htr0.mono (fun b i h => h.resolve_right id) (fun _ h => h)
  have hr' : Rel S' X' none w' m' (cellPairs hp' hv') hp' hv' := by
    have h0 := hr
    simp only [List.nil_append] at h0
    exact h0
  refine ⟨v, S', m', hv', rfl, below_of_tr htr (fun b i hb hz => hz hb) (fun _ h => h), htr.up, fun b i hs => ?_, fun p hp => ?_, (hr'.lessX hxs).cons (hle.rv hyv).view (ownB_view _ _)⟩
  · rcases htr.new b i hs with h1 | h1 | h1
    · exact .inl h1
    · exact .inr ⟨Nat.le_of_not_lt h1, htr.lt b i hs⟩
    · exact .inr ⟨h1, htr.lt b i hs⟩
  · obtain ⟨g, hg⟩ := List.mem_iff_getElem?.1 hp
    have hr2 : Rel S' X' none w' m' (([] : List (AV × Value)) ++ cellPairs hp' hv') hp' hv' := hr'
    obtain ⟨blk, us, cur, e, g1, g2, g3, g4, g5, g6, g7, g8, g9, g10, g11, g12⟩ := hr2.block hg
    have hfr : blk.fro = false := by
      have := List.all_eq_true.1 hfro blk (List.mem_of_getElem? g1)
      simpa using this
    exact Nat.le_of_not_lt fun hb => (g11 hfr 0).2 (hxs _ _ hb)
/-- a function that hands out blocks; less is said of its result -/
theorem FCall.ofFnF {f n : Nat} {fn : Func} {args : List AV} {x : AV} {hp1 : List Blk} {T : List (Nat × (List AV → (AV → Prop) → Prop))} {U : List (Nat × (List AV → List Blk → (AV → List Blk → Prop) → Prop))} {u : Bool} (wl : ∀ β : Type, WLT β) (hm : P.follows .mixedOrders = true)
    (hT : CallsOk P T) (hS : SCallsOk P U) (hwl : ∀ Ev : Env P, ∀ c tm hp b K, wl Ev.β c tm hp b K → W Ev c ⟨tm, hp, b⟩ (fun e s => K e s.tm s.hp s.b)) (hf : P.funcs[f]? = some fn) (hn : (fn.name == "runtime.NumGoroutine") = false) (hargs : args.map AV.view = args) (hfro : hp1.all (fun b => !b.fro) = true)
    (h : ∀ (Ev : Env P) (b : Ev.β), wpFnS P ⟨T, U, wl Ev.β, Ev.Y, u⟩ n fn args b fun y hp _ => LeF y x ∧ hp = hp1) : FCall P f args x hp1 := by
  cases hb : fn.body with
  | none =>
    have := h (Env.none P none) (() : Unit)
    simp only [wpFnS, hb] at this
  | some c =>
    refine FCall.ofWF hf hb hn hargs hfro fun Ev b => ?_
    have h1 := h Ev b
    simp only [wpFnS, hb] at h1
    exact wpc_sound hm (CX.Ok.ofWl hT hS (hwl Ev)) h1 fun e tm hp b hK => fnKS_sound hK
theorem SCallsOk.cons {P : Program} {k : Nat} {f : List AV → List Blk → (AV → List Blk → Prop) → Prop} {T : List (Nat × (List AV → List Blk → (AV → List Blk → Prop) → Prop))} (h : ∀ args hp K, f args hp K → ∃ x hp', SCall P k args hp x hp' ∧ K x hp') (hT : SCallsOk P T) : SCallsOk P ((k, f) :: T) := by
  intro j g hj
  simp only [List.lookup] at hj
  split at hj
  · rename_i he
    have : j = k := by simpa using he
    subst this
    cases hj; exact h
  · exact hT j g hj
end

/-- a block that may grow -/
def blkG (cs : List AV) (v : Nat) : Blk := ⟨cs, false, true, v⟩
def cellV (x : AV) : Blk := ⟨[x], false, false, 0⟩
def nilV : AV := .d (.s (.slice none 0 0))
theorem flatA_bytes : ∀ q : List Int, flatA (bytesR q) = q.map fun x => AV.d (u8 x)
  | [] => rfl
  | a :: q => by
    rw [show bytesR (a :: q) = [u8 a] :: bytesR q from rfl]
    have ih := flatA_bytes q
    simp only [flatA, List.flatten_cons, List.map_append] at ih ⊢
    rw [ih]; rfl
theorem flatA_app (xs ys : List (List Dv)) : flatA (xs ++ ys) = flatA xs ++ flatA ys := by simp [flatA]

/-- what a clone of a slice comes to, in a calculus whose blocks may grow -/
def CloneF (P : Program) (f k : Nat) : Prop := ∀ xs : List (List Dv), xs.length ≤ 1000000 → FCall P f [.d (.sl k xs)] (if xs.isEmpty then .full k [] else .gref 0 0 xs.length k) (if xs.isEmpty then [] else [blkG (flatA xs) 0])
def sClone (k : Nat) (args : List AV) (hp : List Blk) (K : AV → List Blk → Prop) : Prop := ∃ (xs : List (List Dv)), args = [.d (.sl k xs)] ∧ xs.length ≤ 1000000 ∧ BIf xs.isEmpty (K (.full k []) hp) (K (.gref hp.length 0 xs.length k) (hp ++ [blkG (flatA xs) 0]))
theorem CloneF.toS {P : Program} {f k : Nat} (h : CloneF P f k) : ∀ args hp K, sClone k args hp K → ∃ x hp', SCall P f args hp x hp' ∧ K x hp' := by
  rintro _ hp K ⟨xs, rfl, hl, hK⟩
  have h1 := (h xs hl).toS rfl hp
  cases he : xs.isEmpty with
  | true =>
    rw [he] at h1 hK
    exact ⟨_, _, h1, by simpa [shift, shiftH, BIf] using hK⟩
  | false =>
    rw [he] at h1 hK
    exact ⟨_, _, h1, by simpa [shift, shiftH, shiftB, blkG, shifts_flatA, BIf] using hK⟩
theorem LeH.at {p q : List AV} {f g : Bool} {v : Nat} (pre post : List Blk) (h : LeL p q) : LeH (pre ++ ⟨p, f, g, v⟩ :: post) (pre ++ ⟨q, f, g, v⟩ :: post) := by
  induction pre with
  | nil => exact .cons h (LeH.refl _)
  | cons a pre ih => obtain ⟨c, x, y, z⟩ := a; exact .cons (LeL.refl _) ih
/-- a list that is four long at least -/
theorem four {α : Type} {l : List α} {x : α} (h : l[3]? = some x) : ∃ a b c J, l = [a, b, c, x] ++ J := by
  match l, h with
  | a :: b :: c :: d :: J, h => simp at h; subst h; exact ⟨a, b, c, J, rfl⟩
/-- a loop that looks for an index and returns there -/
theorem WR.scan {P : Program} {Ev : Env P} {X : CX Ev.β} {lp : Code} {b : Ev.β} {Q : Exit → St Ev.β → Prop} {k : Nat} (keep : List Nat) (hm : P.follows .mixedOrders = true) (hX : X.Ok) (n : Nat) (test : Nat → Bool) (tmOf tmR : Nat → List AV) (hp : List Blk) (id : Nat)
    (hr : ∀ i, i < n → ∀ K : Exit → List AV → List Blk → Ev.β → Prop, (test i = true → K .ret (tmR i) hp b) → (test i = false → K .normal (tmOf (i + 1)) hp b) → wpc P X k lp (tmOf i) hp b (maskT keep K))
    (he : ∀ K : Exit → List AV → List Blk → Ev.β → Prop, K (.exit id) (tmOf n) hp b → wpc P X k lp (tmOf n) hp b (maskT keep K))
    (h1 : (List.range n).any test = false → Q (.exit id) ⟨tmOf n, hp, b⟩) (h2 : (List.range n).any test = true → ∀ i, Q .ret ⟨tmR i, hp, b⟩) : WR Ev lp (n + 1) ⟨tmOf 0, hp, b⟩ Q := by
  have key : ∀ (m i : Nat), i + m = n → (∀ j, j < i → test j = false) → WR Ev lp (m + 1) ⟨tmOf i, hp, b⟩ Q := by
    intro m
    induction m with
    | zero =>
      intro i hi hj
      have : i = n := by omega
      subst this
      refine WR.ofMaskT keep hm hX (he _ (h1 ?_))
      rw [List.any_eq_false]
      intro j hj'
      rw [List.mem_range] at hj'
      rw [hj j hj']; simp
    | succ m ih =>
      intro i hi hj
      refine WR.ofMaskT keep hm hX (hr i (by omega) _ (fun ht => h2 ?_ i) fun hf => ih (i + 1) (by omega) fun j hj' => ?_)
      · rw [List.any_eq_true]
        exact ⟨i, List.mem_range.2 (by omega), ht⟩
      · by_cases h : j = i
        · rw [h]; exact hf
        · exact hj j (by omega)
  exact key n 0 (by omega) fun j hj => by omega
theorem any_ne {a b : List Int} (hl : a.length = b.length) : (List.range a.length).any (fun i => nth a i != nth b i) = !decide (a = b) := by
  cases h : decide (a = b) with
  | true =>
    have := of_decide_eq_true h
    subst this
    rw [List.any_eq_false.2]
    · rfl
    · intro i _; simp
  | false =>
    have hne := of_decide_eq_false h
    rw [List.any_eq_true.2]
    · rfl
    · apply Classical.byContradiction
      intro hc
      apply hne
      apply List.ext_getElem hl
      intro i h1 h2
      apply Classical.byContradiction
      intro hne2
      refine hc ⟨i, List.mem_range.2 h1, ?_⟩
      simp [nth, h1, h2, hne2]
def nthL {α : Type} (p : List (List α)) (i : Nat) : List α := p.getD i []
theorem any_neL {α : Type} [DecidableEq α] {a b : List (List α)} (hl : a.length = b.length) : (List.range a.length).any (fun i => !decide (nthL a i = nthL b i)) = !decide (a = b) := by
  cases h : decide (a = b) with
  | true =>
    have := of_decide_eq_true h
    subst this
    rw [List.any_eq_false.2]
    · rfl
    · intro i _; simp
  | false =>
    have hne := of_decide_eq_false h
    rw [List.any_eq_true.2]
    · rfl
    · apply Classical.byContradiction
      intro hc
      apply hne
      apply List.ext_getElem hl
      intro i h1 h2
      apply Classical.byContradiction
      intro hne2
      refine hc ⟨i, List.mem_range.2 h1, ?_⟩
      simp [nthL, h1, h2, hne2]
/-- a contract, for arguments of which more is known -/
def lessC (c : List AV → (AV → Prop) → Prop) (args : List AV) (K : AV → Prop) : Prop := ∃ args' : List AV, LeVs args args' ∧ c args' K
theorem lessC_ok {P : Program} {f : Nat} {c : List AV → (AV → Prop) → Prop} (h : ∀ args K, c args K → ∃ x, PCall P f args x ∧ K x) : ∀ args K, lessC c args K → ∃ x, PCall P f args x ∧ K x := by
  rintro args K ⟨args', hl, hc⟩
  obtain ⟨x, hp, hK⟩ := h args' K hc
  exact ⟨x, hp.leArgsV hl, hK⟩
end Go.Proofs.YtfeemohdpmdaoaaDoor.Am

namespace Go.Proofs.YtfeemohdpmdaoaaDoor.Am
open Go Go.RowKit Go.Proofs
theorem mixed : Tryd.prog.follows .mixedOrders = true := by kernel_rfl
end Go.Proofs.YtfeemohdpmdaoaaDoor.Am

namespace Go.Proofs.YtfeemohdpmdaoaaDoor.Am
set_option linter.unusedVariables false
open Go Go.RowKit Go.Proofs

/-! ### digest: step -/
def stepS (n w : Int) : Int := IntKind.wrap .u64 (IntKind.wrap .u64 ((BitVec.ofInt 64 n ^^^ BitVec.ofInt 64 w).toNat : Int) * 1099511628211)
section
variable {β : Type} (wl : WLT β) (y : YieldT β) (b : β) (R : AV → β → Prop)
theorem step_nf (n w : Int) : wpFn Tryd.prog ⟨[], [], wl, y, false⟩ 100 Tryd.f89 [.d (u64 n), .d (u64 w)] b R = R (.d (u64 (stepS n w))) b := by kernel_rfl
theorem words_nf (xs : List (List Dv)) : wpFn Tryd.prog ⟨[], [], wl, y, false⟩ 100 Tryd.f93 [.full 1 xs] b R = R (.fn (.func 94) [] [.rptr [.sl 1 xs]]) b := by kernel_rfl
end
theorem pcStep (n w : Int) : PCall Tryd.prog 89 [.d (u64 n), .d (u64 w)] (.d (u64 (stepS n w))) := by
  refine PCall.ofFn (n := 100) (u := false) mixed CallsOk.nil SCallsOk.nil Tryd.func89 (by rfl) (by rfl) fun Ev bb => ?_
  rw [step_nf]
def cStep (args : List AV) (K : AV → Prop) : Prop := ∃ (n w z : Int), args = [.d (u64 n), .d (u64 w)] ∧ z = stepS n w ∧ K (.d (u64 z))
theorem cStep_ok : ∀ args K, cStep args K → ∃ x, PCall Tryd.prog 89 args x ∧ K x := by
  rintro _ K ⟨n, w, _, rfl, rfl, h⟩; exact ⟨_, pcStep n w, h⟩

/-! ### words -/
theorem pcWords (xs : List (List Dv)) : PCall Tryd.prog 93 [.full 1 xs] (.fn (.func 94) [] [.rptr [.sl 1 xs]]) := by
  refine PCall.ofFn (n := 100) (u := false) mixed CallsOk.nil SCallsOk.nil Tryd.func93 (by rfl) (by rfl) fun Ev bb => ?_
  rw [words_nf]
def cWords (args : List AV) (K : AV → Prop) : Prop := ∃ (p : List (List Dv)), args = [.full 1 [[.sl 1 p]]] ∧ K (.fn (.func 94) [] [.rptr [.sl 1 [[.sl 1 p]]]])
theorem cWords_ok : ∀ args K, cWords args K → ∃ x, PCall Tryd.prog 93 args x ∧ K x := by
  rintro _ K ⟨p, rfl, h⟩; exact ⟨_, pcWords _, h⟩
def itemW (c : Int) : List AV := [.d (u64 (IntKind.wrap .u64 c))]
noncomputable def lpWb : Code := sub [1, 2, 3, 1, 1, 0, 2, 1, 1, 2, 3] (code Tryd.f94)
def tmWb (n : Int) (i : Int) (p : List (List Dv)) (m k : Int) (rows : List (List Dv)) : List AV := [.yl, .bad, .bad, .bad, .bad, .bad, .bad, .d (.sl 1 rows), .d (i64 n), .d (i64 i), .bad, .bad, .bad, .d (.sl 1 p), .d (i64 m), .d (i64 k)] ++ List.replicate 10 .bad
noncomputable def lpWa : Code := sub [1, 2, 3] (code Tryd.f94)
def tmWa (n : Int) (i : Int) (rows : List (List Dv)) : List AV := [.yl, .bad, .bad, .bad, .bad, .bad, .bad, .d (.sl 1 rows), .d (i64 n), .d (i64 i)] ++ List.replicate 16 .bad
section
variable {β : Type} (wl : WLT β) (y : YieldT β) (b : β) (R : AV → β → Prop) (K : Exit → List AV → List Blk → β → Prop)
theorem wb_round (n i m k : Int) (p rows : List (List Dv)) : wpc Tryd.prog ⟨[], [], wl, y, false⟩ 100 lpWb (tmWb n i p m k rows) [] b (maskT [0, 7, 8, 9, 13, 14, 15] K) = (
  BIf (decide (k < m)) (BIf (true && decide (0 ≤ k)) (∃ (x0 : Int), p[Int.toNat k]? = some [u8 x0] ∧ y b (itemW x0) fun (c : Bool) (b4 : β) => BIf (!c) (K .ret (tmWb n i p m k rows) [] b4) (K .normal (tmWb n i p m (IntKind.wrap .i64 (k + 1)) rows) [] b4)) False) (K (.exit 2) (tmWb n i p m k rows) [] b)) := by kernel_rfl
end
def wlWb {β : Type} (y : YieldT β) : WLT β := fun c tm hp b K => ∃ (n i : Int) (p : List Int) (rows : List (List Dv)), c = .loop lpWb ∧ maskTm [0, 7, 8, 9, 13, 14, 15] 0 tm = tmWb n i (bytesR p) (bytesR p).length 0 rows ∧ hp = [] ∧ p.length ≤ 9223372036854775807 ∧
  YList y (p.map itemW) b fun b' => ∀ k : Int, K (.exit 2) (tmWb n i (bytesR p) (bytesR p).length k rows) [] b' ∧ K .ret (tmWb n i (bytesR p) (bytesR p).length k rows) [] b'
theorem wrWb {Ev : Env Tryd.prog} {Q : Exit → St Ev.β → Prop} (n i : Int) (p : List Int) (rows : List (List Dv)) (hl : p.length ≤ 9223372036854775807) : ∀ (rest : List Int) (k : Nat) (b : Ev.β), p.drop k = rest → k ≤ p.length →
    (YList Ev.Y (rest.map itemW) b fun b' => ∀ k : Int, Q (.exit 2) ⟨tmWb n i (bytesR p) (bytesR p).length k rows, [], b'⟩ ∧ Q .ret ⟨tmWb n i (bytesR p) (bytesR p).length k rows, [], b'⟩) → WR Ev lpWb (rest.length + 1) ⟨tmWb n i (bytesR p) (bytesR p).length k rows, [], b⟩ Q
  | [], k, b, hd, hk, h => by
    refine WR.ofMaskT [0, 7, 8, 9, 13, 14, 15] mixed (CX.Ok.of (u := false) CallsOk.nil SCallsOk.nil) (k := 100) ?_
    rw [wb_round]
    have := drop_nil hd
    exact BIf.f (by simp [bytesR_len]; omega) (h _).1
  | z :: rest, k, b, hd, hk, h => by
    refine WR.ofMaskT [0, 7, 8, 9, 13, 14, 15] mixed (CX.Ok.of (u := false) CallsOk.nil SCallsOk.nil) (k := 100) ?_
    rw [wb_round]
    obtain ⟨hk', hr, hd'⟩ := drop_cons hd
    refine BIf.t (by simp [bytesR_len]; omega) (BIf.t (by simp) ⟨z, by simp [bytesR, hr], ?_⟩)
    rw [List.map_cons] at h
    refine Ev.Ymono h fun c b' h => ?_
    cases c with
    | true =>
      refine BIf.f rfl ?_
      rw [wrap_succ hk' hl]
      exact wrWb n i p rows hl rest (k + 1) b' hd' hk' h
    | false => exact BIf.t rfl (h _).2
theorem wlWb_ok {Ev : Env Tryd.prog} (c : Code) (tm : List AV) (hp : List Blk) (b : Ev.β) (K : Exit → List AV → List Blk → Ev.β → Prop) (h : wlWb Ev.Y c tm hp b K) : W Ev c ⟨tm, hp, b⟩ (fun e s => K e s.tm s.hp s.b) := by
  obtain ⟨n, i, p, rows, rfl, htm, rfl, hl, hK⟩ := h
  refine W.cast (htm ▸ maskTm_le _ tm 0) (LeH.refl _) ?_
  exact W.rounds (wrWb (Q := fun e s => K e s.tm s.hp s.b) n i p rows hl p 0 b rfl (Nat.zero_le _) hK)
section
variable {β : Type} (y : YieldT β) (b : β) (R : AV → β → Prop) (Q : β → Prop) (K : Exit → List AV → List Blk → β → Prop)
theorem wa_round (n i : Int) (rows : List (List Dv)) : wpc Tryd.prog ⟨[], [], wlWb y, y, false⟩ 100 lpWa (tmWa n i rows) [] b (maskT [0, 7, 8, 9] K) = (
  BIf (decide (i < n)) (BIf (true && decide (0 ≤ i)) (∃ (xs0 : List (List Dv)), rows[Int.toNat i]? = some [Dv.sl 1 xs0] ∧ ∃ (n' i' : Int) (p : List Int) (rows' : List (List Dv)), Code.loop lpWb = .loop lpWb ∧ tmWb n i xs0 xs0.length 0 rows = tmWb n' i' (bytesR p) (bytesR p).length 0 rows' ∧ ([] : List Blk) = [] ∧ p.length ≤ 9223372036854775807 ∧
    YList y (p.map itemW) b fun b' => ∀ k : Int, K .normal (tmWa n' (IntKind.wrap .i64 (i' + 1)) rows') [] b' ∧ K .ret (tmWa n' i' rows') [] b') False)
   (K (.exit 0) (tmWa n i rows) [] b)) := by kernel_rfl
def wlWa {β : Type} (y : YieldT β) : WLT β := fun c tm hp b K => ∃ (p : List Int), c = .loop lpWa ∧ maskTm [0, 7, 8, 9] 0 tm = tmWa 1 0 [[.sl 1 (bytesR p)]] ∧ hp = [] ∧ p.length ≤ 9223372036854775807 ∧
  YList y (p.map itemW) b fun b' => ∀ i : Int, K (.exit 0) (tmWa 1 i [[.sl 1 (bytesR p)]]) [] b' ∧ K .ret (tmWa 1 i [[.sl 1 (bytesR p)]]) [] b'
end
/-- what a list of answers comes to, step by step: stopped or not -/
theorem YList.cases {P : Program} {Ev : Env P} {A B C : Ev.β → Prop} (h1 : ∀ b, C b → A b) (h2 : ∀ b, C b → B b) : ∀ (l : List (List AV)) (b : Ev.β), YList Ev.Y l b C → YList Ev.Y l b fun b' => A b' ∧ B b'
  | l, b, h => YList.mono (fun b h => ⟨h1 b h, h2 b h⟩) l b h
set_option maxRecDepth 100000 in
theorem wlWa_ok {Ev : Env Tryd.prog} (c : Code) (tm : List AV) (hp : List Blk) (b : Ev.β) (K : Exit → List AV → List Blk → Ev.β → Prop) (h : wlWa Ev.Y c tm hp b K) : W Ev c ⟨tm, hp, b⟩ (fun e s => K e s.tm s.hp s.b) := by
  obtain ⟨p, rfl, htm, rfl, hl, hK⟩ := h
  refine W.cast (htm ▸ maskTm_le _ tm 0) (LeH.refl _) ?_
  refine W.rounds (m := 2) ?_
  refine WR.ofMaskT [0, 7, 8, 9] mixed (CX.Ok.ofWl (u := false) CallsOk.nil SCallsOk.nil wlWb_ok) (k := 100) ?_
  rw [wa_round]
  refine BIf.t (by decide) (BIf.t (by decide) ⟨bytesR p, rfl, 1, 0, p, [[.sl 1 (bytesR p)]], rfl, rfl, rfl, hl, ?_⟩)
  refine YList.mono (fun b' h k => ⟨?_, (h _).2⟩) _ _ hK
  show WR Ev lpWa 1 _ _
  refine WR.ofMaskT [0, 7, 8, 9] mixed (CX.Ok.ofWl (u := false) CallsOk.nil SCallsOk.nil wlWb_ok) (k := 100) ?_
  rw [wa_round]
  exact BIf.f (by decide) (h _).1
section
variable {β : Type} (y : YieldT β) (b : β) (Q : β → Prop)
theorem f94_nf (xs : List (List Dv)) : wpc Tryd.prog ⟨[], [], wlWa y, y, false⟩ 100 (code Tryd.f94) (startTm Tryd.f94 [.yl, .rptr [.sl 1 xs]]) [] b (fnK Tryd.prog Tryd.f94 fun _ b => Q b) = (
  ∃ p : List Int, Code.loop lpWa = .loop lpWa ∧ tmWa xs.length 0 xs = tmWa 1 0 [[.sl 1 (bytesR p)]] ∧ ([] : List Blk) = [] ∧ p.length ≤ 9223372036854775807 ∧ YList y (p.map itemW) b fun b' => ∀ _ : Int, Q b' ∧ Q b') := by kernel_rfl
end
set_option maxRecDepth 100000 in
theorem ic94 (p : List Int) (hl : p.length ≤ 9223372036854775807) : ICall Tryd.prog 94 [.yl, .rptr [.sl 1 [[.sl 1 (bytesR p)]]]] (fun Y b Q => YList Y (p.map itemW) b Q) := by
  refine ICall.ofW (c := code Tryd.f94) Tryd.func94 rfl rfl fun Ev b Q h => ?_
  have h1 : wpc Tryd.prog ⟨[], [], wlWa Ev.Y, Ev.Y, false⟩ 100 (code Tryd.f94) (startTm Tryd.f94 [.yl, .rptr [.sl 1 [[.sl 1 (bytesR p)]]]]) [] b (fnK Tryd.prog Tryd.f94 fun _ b => Q b) := by
    rw [f94_nf]
    exact ⟨p, rfl, rfl, rfl, hl, YList.mono (fun b h _ => ⟨h, h⟩) _ _ h⟩
  refine wpc_sound mixed (CX.Ok.ofWl (wl := wlWa Ev.Y) (u := false) CallsOk.nil SCallsOk.nil wlWa_ok) h1 fun e tm hp b hK => ?_
  obtain ⟨g1, ys, g2, z, g3, g4⟩ := fnK_sound hK
  exact ⟨g1, ys, g2, g4⟩

/-! ### Add -/
def addB (s : Int) (p : List Int) : Int := p.foldl (fun s c => stepS s (IntKind.wrap .u64 c)) s
def TAdd : List (Nat × (List AV → (AV → Prop) → Prop)) := [(89, cStep), (93, cWords)]
theorem TAdd_ok : CallsOk Tryd.prog TAdd := CallsOk.cons cStep_ok (CallsOk.cons cWords_ok CallsOk.nil)
noncomputable def rf87 : Code := sub [1, 1, 0, 1, 2] (code Tryd.f87)
theorem rf87_shape : rf87 = .rangeFunc (.tmp 10) #[11] (assignOf rf87) (bodyOf rf87) := by kernel_rfl
def cellQ (x : Int) : Blk := ⟨[.d (u64 x)], false, false, 0⟩
def tmAd (p : List (List Dv)) : List AV := [.bad, .bad, .bad, .bad, .bad, .ptr 0 0, .bad, .bad, .bad, .bad, .fn (.func 94) [] [.rptr [.sl 1 [[.sl 1 p]]]], .bad, .bad, .bad, .bad, .bad]
section
variable {β : Type} (wl : WLT β) (y : YieldT β) (b : β) (Kh : Exit → List Blk → β → Prop)
theorem ad_round (p : List (List Dv)) (w s : Int) : wpcY Tryd.prog ⟨TAdd, [], wl, y, false⟩ 100 #[11] (assignOf rf87) (bodyOf rf87) (tmAd p) [.d (u64 w)] [cellQ s] b (takeK 1 Kh) = (
  ∃ (n0 w1 z2 : Int), [AV.d (u64 s), .d (u64 w)] = [.d (u64 n0), .d (u64 w1)] ∧ z2 = stepS n0 w1 ∧ Kh .normal [cellQ z2] b) := by kernel_rfl
end
theorem range87 {Ev : Env Tryd.prog} {b : Ev.β} {Q : Exit → St Ev.β → Prop} (p : List (List Dv)) : ∀ (l : List Int) (s : Int), Q .normal ⟨tmAd p, [cellQ (addB s l)], b⟩ →
    YList (YBody Ev (tmAd p) #[11] (assignOf rf87) (bodyOf rf87) 1) (l.map itemW) ([cellQ s], b, none) (rangeQ (tmAd p) Q)
  | [], s, h => h
  | c :: l, s, h => by
    refine YList.step (X := ⟨TAdd, [], wlW Ev, Ev.Y, false⟩) (k := 100) mixed (CX.Ok.of TAdd_ok SCallsOk.nil) rfl ?_
    show wpcY _ _ _ _ _ _ _ [.d (u64 _)] [cellQ _] b (takeK 1 _)
    rw [ad_round]
    exact ⟨s, _, _, rfl, rfl, range87 p l _ h⟩
def wlAd {β : Type} : WLT β := fun c tm hp b K => ∃ (p : List Int) (s z : Int), c = rf87 ∧ maskTm [5, 10] 0 tm = tmAd (bytesR p) ∧ hp = [cellQ s] ∧ (p.length ≤ 9223372036854775807 ∧ z = addB s p) ∧ K .normal (tmAd (bytesR p)) [cellQ z] b
theorem wlAd_ok {Ev : Env Tryd.prog} (c : Code) (tm : List AV) (hp : List Blk) (b : Ev.β) (K : Exit → List AV → List Blk → Ev.β → Prop) (h : wlAd c tm hp b K) : W Ev c ⟨tm, hp, b⟩ (fun e s => K e s.tm s.hp s.b) := by
  obtain ⟨p, s, z, rfl, htm, rfl, ⟨hl, rfl⟩, hK⟩ := h
  refine W.cast (htm ▸ maskTm_le _ tm 0) (LeH.refl _) ?_
  rw [rf87_shape]
  exact W.range (s := ⟨tmAd (bytesR p), _, b⟩) (k := 94) (first := []) (caps := [.rptr [.sl 1 [[.sl 1 (bytesR p)]]]]) rfl rfl rfl (ic94 p hl) (range87 (bytesR p) p s hK)
section
variable {β : Type} (y : YieldT β) (b : β) (R : AV → β → Prop)
theorem add_nf (s : Int) (xs : List (List Dv)) : wpFn Tryd.prog ⟨TAdd, [], wlAd, y, false⟩ 100 Tryd.f87 [.d (u64 s), .d (.sl 1 xs)] b R = (
  ∃ (p0 : List (List Dv)), [AV.full 1 [[.sl 1 xs]]] = [.full 1 [[.sl 1 p0]]] ∧ ∃ (p : List Int) (s1 z : Int), rf87 = rf87 ∧ tmAd p0 = tmAd (bytesR p) ∧ [cellQ s] = [cellQ s1] ∧ (p.length ≤ 9223372036854775807 ∧ z = addB s1 p) ∧ R (.d (u64 z)) b) := by kernel_rfl
end
theorem pcAdd (s : Int) (p : List Int) (hl : p.length ≤ 9223372036854775807) : PCall Tryd.prog 87 [.d (u64 s), .d (.sl 1 (bytesR p))] (.d (u64 (addB s p))) := by
  refine PCall.ofFnW (n := 100) (u := false) (fun _ => wlAd) mixed TAdd_ok SCallsOk.nil (fun Ev => wlAd_ok) Tryd.func87 (by rfl) (by rfl) fun Ev bb => ?_
  rw [add_nf]
  exact ⟨_, rfl, p, s, _, rfl, rfl, rfl, ⟨hl, rfl⟩, rfl⟩
def cAdd (args : List AV) (K : AV → Prop) : Prop := ∃ (s : Int) (p : List Int) (z : Int), args = [.d (u64 s), .d (.sl 1 (bytesR p))] ∧ (p.length ≤ 9223372036854775807 ∧ z = addB s p) ∧ K (.d (u64 z))
theorem cAdd_ok : ∀ args K, cAdd args K → ∃ x, PCall Tryd.prog 87 args x ∧ K x := by
  rintro _ K ⟨s, p, _, rfl, ⟨hl, rfl⟩, h⟩; exact ⟨_, pcAdd s p hl, h⟩
end Go.Proofs.YtfeemohdpmdaoaaDoor.Am

namespace Go.Proofs.YtfeemohdpmdaoaaDoor.Am
set_option linter.unusedVariables false
open Go Go.RowKit Go.Proofs

def cAddF (args : List AV) (K : AV → Prop) : Prop := match args with
  | [_, .full _ _] => ∃ (s : Int) (p : List Int) (z : Int), args = [.d (u64 s), .full 1 (bytesR p)] ∧ (p.length ≤ 9223372036854775807 ∧ z = addB s p) ∧ K (.d (u64 z))
  | _ => cAdd args K
theorem cAddF_ok : ∀ args K, cAddF args K → ∃ x, PCall Tryd.prog 87 args x ∧ K x := by
  intro args K h
  unfold cAddF at h
  split at h
  · obtain ⟨s, p, _, e, ⟨hl, rfl⟩, h⟩ := h
    rw [e]
    exact ⟨_, PCall.leArgsV (.cons .rfl (.cons .full .nil)) (pcAdd s p hl), h⟩
  · exact cAdd_ok _ _ h
def basisS : Int := 14695981039346656037
def TSum : List (Nat × (List AV → (AV → Prop) → Prop)) := [(87, cAddF), (89, cStep)]
theorem TSum_ok : CallsOk Tryd.prog TSum := CallsOk.cons cAddF_ok (CallsOk.cons cStep_ok CallsOk.nil)
section
variable {β : Type} (wl : WLT β) (y : YieldT β) (b : β) (R : AV → β → Prop)
theorem sum_nf (xs : List (List Dv)) : wpFn Tryd.prog ⟨TSum, [], wl, y, false⟩ 100 Tryd.f86 [.full 1 xs] b R = ( ∃ (s0 : Int), ∃ (p1 : List Int), ∃ (z2 : Int), [AV.d (u64 (14695981039346656037 : Int)), AV.full 1 xs] = [AV.d (u64 s0), AV.full 1 (bytesR p1)] ∧ (List.length p1 ≤ 9223372036854775807 ∧ z2 = addB s0 p1) ∧ R (AV.d (u64 z2)) b) := by kernel_rfl
theorem pair_nf (s w : Int) : wpFn Tryd.prog ⟨TSum, [], wl, y, false⟩ 100 Tryd.f79 [.d (u64 s), .d (u64 w)] b R = ( ∃ (n0 : Int), ∃ (w1 : Int), ∃ (z2 : Int), [AV.d (u64 (3750763034362895578 : Int)), AV.d (u64 s)] = [AV.d (u64 n0), AV.d (u64 w1)] ∧ z2 = stepS n0 w1 ∧ ∃ (n3 : Int), ∃ (w4 : Int), ∃ (z5 : Int), [AV.d (u64 z2), AV.d (u64 w)] = [AV.d (u64 n3), AV.d (u64 w4)] ∧ z5 = stepS n3 w4 ∧ R (AV.d (u64 z5)) b) := by kernel_rfl
end
theorem pcSum (p : List Int) (hl : p.length ≤ 9223372036854775807) : PCall Tryd.prog 86 [.full 1 (bytesR p)] (.d (u64 (addB basisS p))) := by
  refine PCall.ofFn (n := 100) (u := false) mixed TSum_ok SCallsOk.nil Tryd.func86 (by rfl) (by rfl) fun Ev bb => ?_
  rw [sum_nf]
  exact ⟨_, p, _, rfl, ⟨hl, rfl⟩, rfl⟩
def cSum (args : List AV) (K : AV → Prop) : Prop := ∃ (p : List Int) (z : Int), args = [.full 1 (bytesR p)] ∧ (p.length ≤ 9223372036854775807 ∧ z = addB basisS p) ∧ K (.d (u64 z))
theorem cSum_ok : ∀ args K, cSum args K → ∃ x, PCall Tryd.prog 86 args x ∧ K x := by
  rintro _ K ⟨p, _, rfl, ⟨hl, rfl⟩, h⟩; exact ⟨_, pcSum p hl, h⟩
def pairS (a b : Int) : Int := stepS (stepS 3750763034362895578 a) b
theorem pcPair (a c : Int) : PCall Tryd.prog 79 [.d (u64 a), .d (u64 c)] (.d (u64 (pairS a c))) := by
  refine PCall.ofFn (n := 100) (u := false) mixed TSum_ok SCallsOk.nil Tryd.func79 (by rfl) (by rfl) fun Ev bb => ?_
  rw [pair_nf]
  exact ⟨_, _, _, rfl, rfl, _, _, _, rfl, rfl, rfl⟩
def cPair (args : List AV) (K : AV → Prop) : Prop := ∃ (a c z : Int), args = [.d (u64 a), .d (u64 c)] ∧ z = pairS a c ∧ K (.d (u64 z))
theorem cPair_ok : ∀ args K, cPair args K → ∃ x, PCall Tryd.prog 79 args x ∧ K x := by
  rintro _ K ⟨a, c, _, rfl, rfl, h⟩; exact ⟨_, pcPair a c, h⟩

/-! ### leaf -/
def leafS (p : List Int) : Int := addB (addB basisS [0]) p
def TLeaf : List (Nat × (List AV → (AV → Prop) → Prop)) := [(86, cSum), (87, cAdd)]
theorem TLeaf_ok : CallsOk Tryd.prog TLeaf := CallsOk.cons cSum_ok (CallsOk.cons cAdd_ok CallsOk.nil)
section
variable {β : Type} (wl : WLT β) (y : YieldT β) (b : β) (R : AV → β → Prop)
theorem leaf_nf (xs : List (List Dv)) : wpFn Tryd.prog ⟨TLeaf, [], wl, y, true⟩ 100 Tryd.f77 [.full 1 [[.sl 1 xs]]] b R = ( ∃ (p0 : List Int), ∃ (z1 : Int), [AV.full 1 [[u8 (0 : Int)]]] = [AV.full 1 (bytesR p0)] ∧ (List.length p0 ≤ 9223372036854775807 ∧ z1 = addB (14695981039346656037 : Int) p0) ∧ ∃ (xs2 : List (List Dv)), some [Dv.sl 1 xs] = some [Dv.sl 1 xs2] ∧ ∃ (s3 : Int), ∃ (p4 : List Int), ∃ (z5 : Int), [AV.d (u64 z1), AV.d (Dv.sl 1 xs2)] = [AV.d (u64 s3), AV.d (Dv.sl 1 (bytesR p4))] ∧ (List.length p4 ≤ 9223372036854775807 ∧ z5 = addB s3 p4) ∧ R (AV.d (u64 z5)) b) := by kernel_rfl
end
theorem pcLeaf (p : List Int) (hl : p.length ≤ 9223372036854775807) : PCall Tryd.prog 77 [.full 1 [[.sl 1 (bytesR p)]]] (.d (u64 (leafS p))) := by
  refine PCall.ofFn (n := 100) (u := true) mixed TLeaf_ok SCallsOk.nil Tryd.func77 (by rfl) (by rfl) fun Ev bb => ?_
  rw [leaf_nf]
  exact ⟨[0], _, rfl, ⟨by decide, rfl⟩, _, rfl, _, p, _, rfl, ⟨hl, rfl⟩, rfl⟩
def cLeaf (args : List AV) (K : AV → Prop) : Prop := ∃ (p : List Int) (z : Int), args = [.full 1 [[.sl 1 (bytesR p)]]] ∧ (p.length ≤ 9223372036854775807 ∧ z = leafS p) ∧ K (.d (u64 z))
theorem cLeaf_ok : ∀ args K, cLeaf args K → ∃ x, PCall Tryd.prog 77 args x ∧ K x := by
  rintro _ K ⟨p, _, rfl, ⟨hl, rfl⟩, h⟩; exact ⟨_, pcLeaf p hl, h⟩
end Go.Proofs.YtfeemohdpmdaoaaDoor.Am

namespace Go.Proofs.YtfeemohdpmdaoaaDoor.Am
set_option linter.unusedVariables false
open Go Go.RowKit Go.Proofs

/-! ### ContainsFunc over byte strings -/
def partsR (ps : List (List Int)) : List (List Dv) := ps.map fun p => [.sl 1 (bytesR p)]
theorem partsR_len (ps : List (List Int)) : (partsR ps).length = ps.length := by simp [partsR]
section
variable {β : Type} (wl : WLT β) (y : YieldT β) (b : β) (R : AV → β → Prop)
theorem f75_nf (xs : List (List Dv)) : wpFn Tryd.prog ⟨[], [], wl, y, false⟩ 100 Tryd.f75 [.d (.sl 1 xs)] b R = R (.d (bo (decide ((xs.length : Int) > 256)))) b := by kernel_rfl
theorem f59_nf (xs : List (List Dv)) : wpFn Tryd.prog ⟨[], [], wl, y, false⟩ 100 Tryd.f59 [.d (.sl 1 xs)] b R = R (.d (bo ((xs.length : Int) != 256))) b := by kernel_rfl
end
def c75 (args : List AV) (K : AV → Prop) : Prop := ∃ (xs : List (List Dv)), args = [.d (.sl 1 xs)] ∧ K (.d (bo (decide ((xs.length : Int) > 256))))
theorem c75_ok : ∀ args K, c75 args K → ∃ x, PCall Tryd.prog 75 args x ∧ K x := by
  rintro _ K ⟨xs, rfl, h⟩
  refine ⟨_, PCall.ofFn (n := 100) (u := false) mixed CallsOk.nil SCallsOk.nil Tryd.func75 (by rfl) (by rfl) fun Ev bb => ?_, h⟩
  rw [f75_nf]
def c59 (args : List AV) (K : AV → Prop) : Prop := ∃ (xs : List (List Dv)), args = [.d (.sl 1 xs)] ∧ K (.d (bo ((xs.length : Int) != 256)))
theorem c59_ok : ∀ args K, c59 args K → ∃ x, PCall Tryd.prog 59 args x ∧ K x := by
  rintro _ K ⟨xs, rfl, h⟩
  refine ⟨_, PCall.ofFn (n := 100) (u := false) mixed CallsOk.nil SCallsOk.nil Tryd.func59 (by rfl) (by rfl) fun Ev bb => ?_, h⟩
  rw [f59_nf]
def TIx : List (Nat × (List AV → (AV → Prop) → Prop)) := [(75, c75), (59, c59)]
theorem TIx_ok : CallsOk Tryd.prog TIx := CallsOk.cons c75_ok (CallsOk.cons c59_ok CallsOk.nil)
noncomputable def lpIx : Code := sub [1, 0, 1, 2, 3] (code Tryd.f80)
def tmIx (k : Nat) (xs : List (List Dv)) (n i : Int) : List AV := [.d (.sl 1 xs), .fn (.func k) [] [], .bad, .bad, .bad, .bad, .bad, .d (i64 n), .d (i64 i)] ++ List.replicate 10 .bad
section
variable {β : Type} (wl : WLT β) (y : YieldT β) (b : β) (K : Exit → List AV → List Blk → β → Prop)
def ixR {β : Type} (K : Exit → List AV → List Blk → β → Prop) (b : β) (P : Int → Bool) (f : Nat) (xs : List (List Dv)) (n i : Int) : Prop :=
  BIf (decide (i < n)) (BIf (true && decide (0 ≤ i)) (∃ (xs0 : List (List Dv)), xs[Int.toNat i]? = some [Dv.sl 1 xs0] ∧ ∃ (xs1 : List (List Dv)), [AV.d (.sl 1 xs0)] = [AV.d (.sl 1 xs1)] ∧
    BIf (P xs1.length) (K .ret ((tmIx f xs n i).set 4 (.d (i64 i))) [] b) (K .normal (tmIx f xs n (IntKind.wrap .i64 (i + 1))) [] b)) False) (K (.exit 0) (tmIx f xs n i) [] b)
theorem ix75 (xs : List (List Dv)) (n i : Int) : wpc Tryd.prog ⟨TIx, [], wl, y, false⟩ 100 lpIx (tmIx 75 xs n i) [] b (maskK 0 [0, 1, 4, 7, 8] K) = ixR K b (fun n => decide (n > 256)) 75 xs n i := by kernel_rfl
theorem ix59 (xs : List (List Dv)) (n i : Int) : wpc Tryd.prog ⟨TIx, [], wl, y, false⟩ 100 lpIx (tmIx 59 xs n i) [] b (maskK 0 [0, 1, 4, 7, 8] K) = ixR K b (fun n => n != 256) 59 xs n i := by kernel_rfl
end
/-- the place of the first string of such a length -/
def ixP (P : Int → Bool) : List (List Int) → Nat → Int
  | [], _ => -1
  | p :: ps, k => if P p.length then k else ixP P ps (k + 1)
theorem ixP_ge (P : Int → Bool) : ∀ (ps : List (List Int)) (k : Nat), decide (ixP P ps k ≥ 0) = ps.any fun p => P p.length
  | [], k => by simp [ixP]
  | p :: ps, k => by
    unfold ixP
    rw [List.any_cons]
    cases h : P p.length with
    | true => simp
    | false => simpa using ixP_ge P ps (k + 1)
def IxOk (P : Int → Bool) (f : Nat) : Prop := ∀ {β : Type} (wl : WLT β) (y : YieldT β) (b : β) (K : Exit → List AV → List Blk → β → Prop) (xs : List (List Dv)) (n i : Int),
  wpc Tryd.prog ⟨TIx, [], wl, y, false⟩ 100 lpIx (tmIx f xs n i) [] b (maskK 0 [0, 1, 4, 7, 8] K) = ixR K b P f xs n i
theorem wrIx {P : Int → Bool} {f : Nat} (hP : IxOk P f) {Ev : Env Tryd.prog} {b : Ev.β} {Q : Exit → St Ev.β → Prop} (ps : List (List Int)) (hl : ps.length ≤ 9223372036854775807) : ∀ (rest : List (List Int)) (k : Nat), ps.drop k = rest → k ≤ ps.length →
    (∀ i : Nat, ixP P rest k = i → Q .ret ⟨(tmIx f (partsR ps) ps.length i).set 4 (.d (i64 i)), [], b⟩) → (ixP P rest k = -1 → Q (.exit 0) ⟨tmIx f (partsR ps) ps.length ps.length, [], b⟩) → WR Ev lpIx (rest.length + 1) ⟨tmIx f (partsR ps) ps.length k, [], b⟩ Q
  | [], k, hd, hk, h1, h2 => by
    refine WR.ofMask [0, 1, 4, 7, 8] mixed (CX.Ok.of (u := false) TIx_ok SCallsOk.nil) (k := 100) ?_
    show wpc _ _ _ _ _ _ _ (maskK 0 _ _)
    rw [hP]
    have := drop_nil hd
    obtain rfl : k = ps.length := by omega
    exact BIf.f (by simp) (h2 rfl)
  | p :: rest, k, hd, hk, h1, h2 => by
    refine WR.ofMask [0, 1, 4, 7, 8] mixed (CX.Ok.of (u := false) TIx_ok SCallsOk.nil) (k := 100) ?_
    show wpc _ _ _ _ _ _ _ (maskK 0 _ _)
    rw [hP]
    obtain ⟨hk', hr, hd'⟩ := drop_cons hd
    refine BIf.t (by simp; omega) (BIf.t (by simp) ⟨bytesR p, by simp [partsR, hr], bytesR p, rfl, BIf.of (fun hz => ?_) fun hz => ?_⟩)
    · exact h1 k (by rw [bytesR_len] at hz; simp [ixP, hz])
    · rw [wrap_succ hk' hl]
      have e : ixP P (p :: rest) k = ixP P rest (k + 1) := by rw [bytesR_len] at hz; simp [ixP, hz]
      rw [e] at h1 h2
      exact wrIx hP ps hl rest (k + 1) hd' hk' h1 h2
def wlIx {β : Type} (P : Int → Bool) (f : Nat) : WLT β := fun c tm hp b K => ∃ (ps : List (List Int)), c = .loop lpIx ∧ maskTm [0, 1, 7, 8] 0 tm = tmIx f (partsR ps) (partsR ps).length 0 ∧ hp = [] ∧ ps.length ≤ 9223372036854775807 ∧
  (∀ i : Nat, ixP P ps 0 = i → K .ret ((tmIx f (partsR ps) (partsR ps).length i).set 4 (.d (i64 i))) [] b) ∧ (ixP P ps 0 = -1 → K (.exit 0) (tmIx f (partsR ps) (partsR ps).length (partsR ps).length) [] b)
theorem wlIx_ok {P : Int → Bool} {f : Nat} (hP : IxOk P f) {Ev : Env Tryd.prog} (c : Code) (tm : List AV) (hp : List Blk) (b : Ev.β) (K : Exit → List AV → List Blk → Ev.β → Prop) (h : wlIx P f c tm hp b K) : W Ev c ⟨tm, hp, b⟩ (fun e s => K e s.tm s.hp s.b) := by
  obtain ⟨ps, rfl, htm, rfl, hl, h1, h2⟩ := h
  rw [partsR_len] at htm h1 h2
  refine W.cast (htm ▸ maskTm_le _ tm 0) (LeH.refl _) ?_
  exact W.rounds (wrIx (Q := fun e s => K e s.tm s.hp s.b) hP ps hl ps 0 rfl (Nat.zero_le _) h1 h2)
section
variable {β : Type} (y : YieldT β) (b : β) (R : AV → β → Prop)
def ixF {β : Type} (R : AV → β → Prop) (b : β) (P : Int → Bool) (f : Nat) (xs : List (List Dv)) : Prop := ∃ (ps : List (List Int)), Code.loop lpIx = .loop lpIx ∧ tmIx f xs xs.length 0 = tmIx f (partsR ps) (partsR ps).length 0 ∧ ([] : List Blk) = [] ∧ ps.length ≤ 9223372036854775807 ∧
  (∀ i : Nat, ixP P ps 0 = i → R (.d (i64 i)) b) ∧ (ixP P ps 0 = -1 → R (.d (i64 (-1))) b)
theorem ixF75 (P : Int → Bool) (xs : List (List Dv)) : wpFn Tryd.prog ⟨TIx, [], wlIx P 75, y, false⟩ 100 Tryd.f80 [.d (.sl 1 xs), .fn (.func 75) [] []] b R = ixF R b P 75 xs := by kernel_rfl
theorem ixF59 (P : Int → Bool) (xs : List (List Dv)) : wpFn Tryd.prog ⟨TIx, [], wlIx P 59, y, false⟩ 100 Tryd.f80 [.d (.sl 1 xs), .fn (.func 59) [] []] b R = ixF R b P 59 xs := by kernel_rfl
end
theorem ixP_cases (P : Int → Bool) : ∀ (ps : List (List Int)) (k : Nat), (∃ i : Nat, ixP P ps k = i) ∨ ixP P ps k = -1
  | [], k => .inr rfl
  | p :: ps, k => by
    unfold ixP
    split
    · exact .inl ⟨k, rfl⟩
    · exact ixP_cases P ps (k + 1)
theorem pcIx75 (ps : List (List Int)) (hl : ps.length ≤ 9223372036854775807) : PCall Tryd.prog 80 [.d (.sl 1 (partsR ps)), .fn (.func 75) [] []] (.d (i64 (ixP (fun n => decide (n > 256)) ps 0))) := by
  refine PCall.ofFnW (n := 100) (u := false) (fun _ => wlIx (fun n => decide (n > 256)) 75) mixed TIx_ok SCallsOk.nil (fun Ev => wlIx_ok (fun wl y b K xs n i => ix75 wl y b K xs n i)) Tryd.func80 (by rfl) (by rfl) fun Ev bb => ?_
  rw [ixF75]
  exact ⟨ps, rfl, rfl, rfl, hl, fun i h => by rw [h], fun h => by rw [h]⟩
theorem pcIx59 (ps : List (List Int)) (hl : ps.length ≤ 9223372036854775807) : PCall Tryd.prog 80 [.d (.sl 1 (partsR ps)), .fn (.func 59) [] []] (.d (i64 (ixP (fun n => n != 256) ps 0))) := by
  refine PCall.ofFnW (n := 100) (u := false) (fun _ => wlIx (fun n => n != 256) 59) mixed TIx_ok SCallsOk.nil (fun Ev => wlIx_ok (fun wl y b K xs n i => ix59 wl y b K xs n i)) Tryd.func80 (by rfl) (by rfl) fun Ev bb => ?_
  rw [ixF59]
  exact ⟨ps, rfl, rfl, rfl, hl, fun i h => by rw [h], fun h => by rw [h]⟩
def cIx (args : List AV) (K : AV → Prop) : Prop := match args with
  | [_, .fn (.func 75) _ _] => ∃ (ps : List (List Int)) (z : Int), args = [.d (.sl 1 (partsR ps)), .fn (.func 75) [] []] ∧ (ps.length ≤ 9223372036854775807 ∧ z = ixP (fun n => decide (n > 256)) ps 0) ∧ K (.d (i64 z))
  | _ => ∃ (ps : List (List Int)) (z : Int), args = [.d (.sl 1 (partsR ps)), .fn (.func 59) [] []] ∧ (ps.length ≤ 9223372036854775807 ∧ z = ixP (fun n => n != 256) ps 0) ∧ K (.d (i64 z))
theorem cIx_ok : ∀ args K, cIx args K → ∃ x, PCall Tryd.prog 80 args x ∧ K x := by
  intro args K h
  unfold cIx at h
  split at h
  · obtain ⟨ps, _, e, ⟨hl, rfl⟩, h⟩ := h; rw [e]; exact ⟨_, pcIx75 ps hl, h⟩
  · obtain ⟨ps, _, e, ⟨hl, rfl⟩, h⟩ := h; rw [e]; exact ⟨_, pcIx59 ps hl, h⟩
def TCf : List (Nat × (List AV → (AV → Prop) → Prop)) := [(80, cIx)]
theorem TCf_ok : CallsOk Tryd.prog TCf := CallsOk.cons cIx_ok CallsOk.nil
section
variable {β : Type} (wl : WLT β) (y : YieldT β) (b : β) (R : AV → β → Prop)
theorem cf75_nf (xs : List (List Dv)) : wpFn Tryd.prog ⟨TCf, [], wl, y, false⟩ 100 Tryd.f58 [.d (.sl 1 xs), .fn (.func 75) [] []] b R = ( ∃ (ps0 : List (List Int)), ∃ (z1 : Int), [AV.d (Dv.sl 1 xs), AV.fn (Fn.func 75) [] []] = [AV.d (Dv.sl 1 (partsR ps0)), AV.fn (Fn.func 75) [] []] ∧ (List.length ps0 ≤ 9223372036854775807 ∧ z1 = ixP (fun (n2 : Int) => decide (n2 > (256 : Int))) ps0 0) ∧ R (AV.d (bo (decide (z1 ≥ (0 : Int))))) b) := by kernel_rfl
theorem cf59_nf (xs : List (List Dv)) : wpFn Tryd.prog ⟨TCf, [], wl, y, false⟩ 100 Tryd.f58 [.d (.sl 1 xs), .fn (.func 59) [] []] b R = ( ∃ (ps0 : List (List Int)), ∃ (z1 : Int), [AV.d (Dv.sl 1 xs), AV.fn (Fn.func 59) [] []] = [AV.d (Dv.sl 1 (partsR ps0)), AV.fn (Fn.func 59) [] []] ∧ (List.length ps0 ≤ 9223372036854775807 ∧ z1 = ixP (fun (n2 : Int) => n2 != (256 : Int)) ps0 0) ∧ R (AV.d (bo (decide (z1 ≥ (0 : Int))))) b) := by kernel_rfl
end
def anyLong (ps : List (List Int)) : Bool := ps.any fun p => decide ((p.length : Int) > 256)
def anyOther (ps : List (List Int)) : Bool := ps.any fun p => (p.length : Int) != 256
def cCf (args : List AV) (K : AV → Prop) : Prop := match args with
  | [_, .fn (.func 75) _ _] => ∃ (ps : List (List Int)) (z : Bool), args = [.d (.sl 1 (partsR ps)), .fn (.func 75) [] []] ∧ (ps.length ≤ 9223372036854775807 ∧ z = anyLong ps) ∧ K (.d (bo z))
  | _ => ∃ (ps : List (List Int)) (z : Bool), args = [.d (.sl 1 (partsR ps)), .fn (.func 59) [] []] ∧ (ps.length ≤ 9223372036854775807 ∧ z = anyOther ps) ∧ K (.d (bo z))
theorem cCf_ok : ∀ args K, cCf args K → ∃ x, PCall Tryd.prog 58 args x ∧ K x := by
  intro args K h
  unfold cCf at h
  split at h
  · obtain ⟨ps, _, e, ⟨hl, rfl⟩, h⟩ := h
    rw [e]
    refine ⟨_, PCall.ofFn (n := 100) (u := false) mixed TCf_ok SCallsOk.nil Tryd.func58 (by rfl) (by rfl) fun Ev bb => ?_, h⟩
    rw [cf75_nf]
    exact ⟨ps, _, rfl, ⟨hl, rfl⟩, by rw [ixP_ge]; rfl⟩
  · obtain ⟨ps, _, e, ⟨hl, rfl⟩, h⟩ := h
    rw [e]
    refine ⟨_, PCall.ofFn (n := 100) (u := false) mixed TCf_ok SCallsOk.nil Tryd.func58 (by rfl) (by rfl) fun Ev bb => ?_, h⟩
    rw [cf59_nf]
    exact ⟨ps, _, rfl, ⟨hl, rfl⟩, by rw [ixP_ge]; rfl⟩
def TPg : List (Nat × (List AV → (AV → Prop) → Prop)) := [(58, cCf)]
theorem TPg_ok : CallsOk Tryd.prog TPg := CallsOk.cons cCf_ok CallsOk.nil
section
variable {β : Type} (wl : WLT β) (y : YieldT β) (b : β) (R : AV → β → Prop)
theorem arePages_nf (xs : List (List Dv)) : wpFn Tryd.prog ⟨TPg, [], wl, y, false⟩ 100 Tryd.f53 [.d (.sl 1 xs)] b R = ( BIf (decide (↑(List.length xs) > (0 : Int))) (BIf (decide (↑(List.length xs) ≤ (16 : Int))) (∃ (ps0 : List (List Int)), ∃ (z1 : Bool), [AV.d (Dv.sl 1 xs), AV.fn (Fn.func 75) [] []] = [AV.d (Dv.sl 1 (partsR ps0)), AV.fn (Fn.func 75) [] []] ∧ (List.length ps0 ≤ 9223372036854775807 ∧ z1 = anyLong ps0) ∧ R (AV.d (bo !z1)) b) (R (AV.d (bo false)) b)) (R (AV.d (bo false)) b)) := by kernel_rfl
theorem paged_nf (xs : List (List Dv)) : wpFn Tryd.prog ⟨TPg, [], wl, y, false⟩ 100 Tryd.f37 [.d (.sl 1 xs)] b R = ( ∃ (ps0 : List (List Int)), ∃ (z1 : Bool), [AV.d (Dv.sl 1 xs), AV.fn (Fn.func 59) [] []] = [AV.d (Dv.sl 1 (partsR ps0)), AV.fn (Fn.func 59) [] []] ∧ (List.length ps0 ≤ 9223372036854775807 ∧ z1 = anyOther ps0) ∧ R (AV.d (bo !z1)) b) := by kernel_rfl
end
end Go.Proofs.YtfeemohdpmdaoaaDoor.Am

namespace Go.Proofs.YtfeemohdpmdaoaaDoor.Am
set_option linter.unusedVariables false
open Go Go.RowKit Go.Proofs

def areS (ps : List (List Int)) : Bool := decide ((ps.length : Int) > 0) && (decide ((ps.length : Int) ≤ 16) && !anyLong ps)
theorem pcArePages (ps : List (List Int)) : PCall Tryd.prog 53 [.d (.sl 1 (partsR ps))] (.d (bo (areS ps))) := by
  refine PCall.ofFn (n := 100) (u := false) mixed TPg_ok SCallsOk.nil Tryd.func53 (by rfl) (by rfl) fun Ev bb => ?_
  rw [arePages_nf, partsR_len]
  refine BIf.of (fun h1 => BIf.of (fun h2 => ⟨ps, _, rfl, ⟨by simp at h2; omega, rfl⟩, ?_⟩) fun h2 => ?_) fun h1 => ?_
  · rw [areS, h1, h2]; rfl
  · rw [areS, h1, h2]; rfl
  · rw [areS, h1]; rfl
def cArePages (args : List AV) (K : AV → Prop) : Prop := ∃ (ps : List (List Int)) (z : Bool), args = [.d (.sl 1 (partsR ps))] ∧ z = areS ps ∧ K (.d (bo z))
theorem cArePages_ok : ∀ args K, cArePages args K → ∃ x, PCall Tryd.prog 53 args x ∧ K x := by
  rintro _ K ⟨ps, _, rfl, rfl, h⟩; exact ⟨_, pcArePages ps, h⟩
theorem pcPaged (ps : List (List Int)) (hl : ps.length ≤ 9223372036854775807) : PCall Tryd.prog 37 [.d (.sl 1 (partsR ps))] (.d (bo (!anyOther ps))) := by
  refine PCall.ofFn (n := 100) (u := false) mixed TPg_ok SCallsOk.nil Tryd.func37 (by rfl) (by rfl) fun Ev bb => ?_
  rw [paged_nf]
  exact ⟨ps, _, rfl, ⟨hl, rfl⟩, rfl⟩
def cPaged (args : List AV) (K : AV → Prop) : Prop := ∃ (ps : List (List Int)) (z : Bool), args = [.d (.sl 1 (partsR ps))] ∧ (ps.length ≤ 9223372036854775807 ∧ z = !anyOther ps) ∧ K (.d (bo z))
theorem cPaged_ok : ∀ args K, cPaged args K → ∃ x, PCall Tryd.prog 37 args x ∧ K x := by
  rintro _ K ⟨ps, _, rfl, ⟨hl, rfl⟩, h⟩; exact ⟨_, pcPaged ps hl, h⟩

/-! ### Chunk -/
noncomputable def lpCh : Code := sub [1, 2, 3] (code Tryd.f88)
def tmCh (xs : List (List Dv)) (m i : Int) : List AV := [.yl, .rptr [.sl 1 xs], .rptr [i64 m], .bad, .d (i64 i)] ++ List.replicate 26 .bad
noncomputable def lpCb : Code := sub [1, 2, 3] (code Tryd.f57)
def restLen (xs : List (List Dv)) (i : Int) : Int := ((List.take (Int.toNat (xs.length : Int) - Int.toNat i) (List.drop (Int.toNat i) xs)).length : Int)
def chPart (xs : List (List Dv)) (i z : Int) : List (List Dv) := List.take (Int.toNat (IntKind.wrap .i64 (i + z)) - Int.toNat i) (List.drop (Int.toNat i) xs)
def chOk1 (xs : List (List Dv)) (i : Int) : Prop := 0 ≤ i ∧ i ≤ (xs.length : Int) ∧ (xs.length : Int) ≤ (xs.length : Int) ∧ (xs.length : Int) ≤ (xs.length : Int)
def chOk2 (xs : List (List Dv)) (i z : Int) : Prop := 0 ≤ i ∧ i ≤ IntKind.wrap .i64 (i + z) ∧ IntKind.wrap .i64 (i + z) ≤ IntKind.wrap .i64 (i + z) ∧ IntKind.wrap .i64 (i + z) ≤ (xs.length : Int)
instance (xs : List (List Dv)) (i : Int) : Decidable (chOk1 xs i) := inferInstanceAs (Decidable (_ ∧ _))
instance (xs : List (List Dv)) (i z : Int) : Decidable (chOk2 xs i z) := inferInstanceAs (Decidable (_ ∧ _))
def chR {β : Type} (y : YieldT β) (b : β) (K : Exit → List AV → List Blk → β → Prop) (xs : List (List Dv)) (m i : Int) : Prop :=
  BIf (decide (i < xs.length)) (BIf (true && decide (chOk1 xs i)) (∃ (z : Int), (z = if restLen xs i < m then restLen xs i else m) ∧ BIf (true && decide (chOk2 xs i z)) (BIf (true && Int.toNat (IntKind.wrap .i64 (i + z)) == Int.toNat (IntKind.wrap .i64 (i + z)))
      (y b [.full 1 (chPart xs i z)] fun (c : Bool) (b1 : β) => BIf (!c) (K .ret (tmCh xs m i) [] b1) (K .normal (tmCh xs m (IntKind.wrap .i64 (i + m))) [] b1))
      (y b [.d (.sl 1 (chPart xs i z))] fun (c : Bool) (b1 : β) => BIf (!c) (K .ret (tmCh xs m i) [] b1) (K .normal (tmCh xs m (IntKind.wrap .i64 (i + m))) [] b1))) False) False)
    (K (.exit 0) (tmCh xs m i) [] b)
def ChOk (lp : Code) : Prop := ∀ {β : Type} (wl : WLT β) (y : YieldT β) (b : β) (K : Exit → List AV → List Blk → β → Prop) (xs : List (List Dv)) (m i : Int),
  wpc Tryd.prog ⟨[], [], wl, y, false⟩ 100 lp (tmCh xs m i) [] b (maskT [0, 1, 2, 4] K) = chR y b K xs m i
section
variable {β : Type} (wl : WLT β) (y : YieldT β) (b : β) (K : Exit → List AV → List Blk → β → Prop)
theorem ch88 (xs : List (List Dv)) (m i : Int) : wpc Tryd.prog ⟨[], [], wl, y, false⟩ 100 lpCh (tmCh xs m i) [] b (maskT [0, 1, 2, 4] K) = chR y b K xs m i := by kernel_rfl
theorem ch57 (xs : List (List Dv)) (m i : Int) : wpc Tryd.prog ⟨[], [], wl, y, false⟩ 100 lpCb (tmCh xs m i) [] b (maskT [0, 1, 2, 4] K) = chR y b K xs m i := by kernel_rfl
end
/-- a list in pieces of m -/
def chunkD {α : Type} (m : Nat) : Nat → List α → List (List α)
  | 0, _ => []
  | n + 1, xs => if xs.isEmpty then [] else xs.take m :: chunkD m n (xs.drop m)
def itemC (c : List (List Dv)) : List AV := [.full 1 c]
theorem chPart_eq {xs : List (List Dv)} {m i : Nat} (hi : i < xs.length) (hm : 1 ≤ m) (hb : xs.length + 2 * m < 9223372036854775807) :
    ∃ z : Int, z = (if restLen xs i < (m : Int) then restLen xs i else m) ∧ chPart xs i z = (xs.drop i).take m ∧ chOk2 xs i z := by
  have e1 : restLen xs (i : Int) = ((xs.length - i : Nat) : Int) := by unfold restLen; simp
  rw [e1]
  by_cases h : ((xs.length - i : Nat) : Int) < (m : Int)
  · refine ⟨_, rfl, ?_, ?_⟩ <;> rw [if_pos h]
    · unfold chPart
      rw [wrap_i64 (by omega) (by omega)]
      have e2 : ((i : Int) + ((xs.length - i : Nat) : Int)).toNat - (i : Int).toNat = xs.length - i := by omega
      rw [e2, Int.toNat_natCast, List.take_of_length_le (by simp), List.take_of_length_le (by simp; omega)]
    · unfold chOk2; rw [wrap_i64 (by omega) (by omega)]; omega
  · refine ⟨_, rfl, ?_, ?_⟩ <;> rw [if_neg h]
    · unfold chPart
      rw [wrap_i64 (by omega) (by omega)]
      have e2 : ((i : Int) + (m : Int)).toNat - (i : Int).toNat = m := by omega
      rw [e2, Int.toNat_natCast]
    · unfold chOk2; rw [wrap_i64 (by omega) (by omega)]; omega
theorem wrCh {lp : Code} (hP : ChOk lp) {Ev : Env Tryd.prog} {Q : Exit → St Ev.β → Prop} (xs : List (List Dv)) (m : Nat) (hm : 1 ≤ m) (hb : xs.length + 2 * m < 9223372036854775807) : ∀ (n i : Nat) (b : Ev.β), (xs.drop i).length ≤ n → i ≤ xs.length + m →
    (YList Ev.Y ((chunkD m n (xs.drop i)).map itemC) b fun b' => ∀ i : Int, Q (.exit 0) ⟨tmCh xs m i, [], b'⟩ ∧ Q .ret ⟨tmCh xs m i, [], b'⟩) → WR Ev lp (n + 1) ⟨tmCh xs m i, [], b⟩ Q
  | 0, i, b, hn, hi, h => by
    refine WR.ofMaskT [0, 1, 2, 4] mixed (CX.Ok.of (u := false) CallsOk.nil SCallsOk.nil) (k := 100) ?_
    rw [hP]
    exact BIf.f (by simp at hn ⊢; omega) (h _).1
  | n + 1, i, b, hn, hi, h => by
    refine WR.ofMaskT [0, 1, 2, 4] mixed (CX.Ok.of (u := false) CallsOk.nil SCallsOk.nil) (k := 100) ?_
    rw [hP]
    by_cases hlt : i < xs.length
    · have e0 : (xs.drop i).isEmpty = false := by
        cases hx : xs.drop i with
        | nil => have := drop_nil hx; omega
        | cons => rfl
      rw [chunkD, if_neg (by rw [e0]; simp), List.map_cons] at h
      obtain ⟨z, hz, hp, hk⟩ := chPart_eq hlt hm hb
      refine BIf.t (by simp; omega) (BIf.t (by rw [show decide (chOk1 xs i) = true from decide_eq_true (by unfold chOk1; omega)]; rfl) ⟨z, hz, BIf.t (by rw [decide_eq_true hk]; rfl) (BIf.t (by simp) ?_)⟩)
      rw [hp]
      refine Ev.Ymono h fun c b' h => ?_
      cases c with
      | true =>
        refine BIf.f rfl ?_
        rw [wrap_i64 (by omega) (by omega), show (i : Int) + (m : Int) = ((i + m : Nat) : Int) by omega]
        rw [List.drop_drop] at h
        exact wrCh hP xs m hm hb n (i + m) b' (by simp at hn ⊢; omega) (by omega) h
      | false => exact BIf.t rfl (h _).2
    · have e0 : xs.drop i = [] := List.drop_eq_nil_of_le (by omega)
      rw [e0, chunkD, if_pos (show ([] : List (List Dv)).isEmpty = true from rfl)] at h
      exact BIf.f (by simp; omega) (h _).1
def wlCh {β : Type} (lp : Code) (y : YieldT β) : WLT β := fun c tm hp b K => ∃ (xs : List (List Dv)) (m : Nat), c = .loop lp ∧ maskTm [0, 1, 2, 4] 0 tm = tmCh xs m 0 ∧ hp = [] ∧ (1 ≤ m ∧ xs.length + 2 * m < 9223372036854775807) ∧
  YList y ((chunkD m xs.length xs).map itemC) b fun b' => ∀ i : Int, K (.exit 0) (tmCh xs m i) [] b' ∧ K .ret (tmCh xs m i) [] b'
theorem wlCh_ok {lp : Code} (hP : ChOk lp) {Ev : Env Tryd.prog} (c : Code) (tm : List AV) (hp : List Blk) (b : Ev.β) (K : Exit → List AV → List Blk → Ev.β → Prop) (h : wlCh lp Ev.Y c tm hp b K) : W Ev c ⟨tm, hp, b⟩ (fun e s => K e s.tm s.hp s.b) := by
  obtain ⟨xs, m, rfl, htm, rfl, ⟨hm, hb⟩, hK⟩ := h
  refine W.cast (htm ▸ maskTm_le _ tm 0) (LeH.refl _) ?_
  exact W.rounds (wrCh (Q := fun e s => K e s.tm s.hp s.b) hP xs m hm hb xs.length 0 b (by simp) (by omega) (by simpa using hK))
section
variable {β : Type} (y : YieldT β) (b : β) (Q : β → Prop)
theorem f88_nf (xs : List (List Dv)) (m : Int) : wpc Tryd.prog ⟨[], [], wlCh lpCh y, y, false⟩ 100 (code Tryd.f88) (startTm Tryd.f88 [.yl, .rptr [.sl 1 xs], .rptr [i64 m]]) [] b (fnK Tryd.prog Tryd.f88 fun _ b => Q b) = (
  ∃ (xs' : List (List Dv)) (m' : Nat), Code.loop lpCh = .loop lpCh ∧ tmCh xs m 0 = tmCh xs' m' 0 ∧ ([] : List Blk) = [] ∧ (1 ≤ m' ∧ xs'.length + 2 * m' < 9223372036854775807) ∧ YList y ((chunkD m' xs'.length xs').map itemC) b fun b' => ∀ _ : Int, Q b' ∧ Q b') := by kernel_rfl
theorem f57_nf (xs : List (List Dv)) (m : Int) : wpc Tryd.prog ⟨[], [], wlCh lpCb y, y, false⟩ 100 (code Tryd.f57) (startTm Tryd.f57 [.yl, .rptr [.sl 1 xs], .rptr [i64 m]]) [] b (fnK Tryd.prog Tryd.f57 fun _ b => Q b) = (
  ∃ (xs' : List (List Dv)) (m' : Nat), Code.loop lpCb = .loop lpCb ∧ tmCh xs m 0 = tmCh xs' m' 0 ∧ ([] : List Blk) = [] ∧ (1 ≤ m' ∧ xs'.length + 2 * m' < 9223372036854775807) ∧ YList y ((chunkD m' xs'.length xs').map itemC) b fun b' => ∀ _ : Int, Q b' ∧ Q b') := by kernel_rfl
end
set_option maxRecDepth 100000 in
theorem ic88 (xs : List (List Dv)) (m : Nat) (hm : 1 ≤ m) (hb : xs.length + 2 * m < 9223372036854775807) : ICall Tryd.prog 88 [.yl, .rptr [.sl 1 xs], .rptr [i64 m]] (fun Y b Q => YList Y ((chunkD m xs.length xs).map itemC) b Q) := by
  refine ICall.ofW (c := code Tryd.f88) Tryd.func88 rfl rfl fun Ev b Q h => ?_
  have h1 : wpc Tryd.prog ⟨[], [], wlCh lpCh Ev.Y, Ev.Y, false⟩ 100 (code Tryd.f88) (startTm Tryd.f88 [.yl, .rptr [.sl 1 xs], .rptr [i64 m]]) [] b (fnK Tryd.prog Tryd.f88 fun _ b => Q b) := by
    rw [f88_nf]
    exact ⟨xs, m, rfl, rfl, rfl, ⟨hm, hb⟩, YList.mono (fun b h _ => ⟨h, h⟩) _ _ h⟩
  refine wpc_sound mixed (CX.Ok.ofWl (wl := wlCh lpCh Ev.Y) (u := false) CallsOk.nil SCallsOk.nil (wlCh_ok fun wl y b K xs m i => ch88 wl y b K xs m i)) h1 fun e tm hp b hK => ?_
  obtain ⟨g1, ys, g2, z, g3, g4⟩ := fnK_sound hK
  exact ⟨g1, ys, g2, g4⟩
set_option maxRecDepth 100000 in
theorem ic57 (xs : List (List Dv)) (m : Nat) (hm : 1 ≤ m) (hb : xs.length + 2 * m < 9223372036854775807) : ICall Tryd.prog 57 [.yl, .rptr [.sl 1 xs], .rptr [i64 m]] (fun Y b Q => YList Y ((chunkD m xs.length xs).map itemC) b Q) := by
  refine ICall.ofW (c := code Tryd.f57) Tryd.func57 rfl rfl fun Ev b Q h => ?_
  have h1 : wpc Tryd.prog ⟨[], [], wlCh lpCb Ev.Y, Ev.Y, false⟩ 100 (code Tryd.f57) (startTm Tryd.f57 [.yl, .rptr [.sl 1 xs], .rptr [i64 m]]) [] b (fnK Tryd.prog Tryd.f57 fun _ b => Q b) := by
    rw [f57_nf]
    exact ⟨xs, m, rfl, rfl, rfl, ⟨hm, hb⟩, YList.mono (fun b h _ => ⟨h, h⟩) _ _ h⟩
  refine wpc_sound mixed (CX.Ok.ofWl (wl := wlCh lpCb Ev.Y) (u := false) CallsOk.nil SCallsOk.nil (wlCh_ok fun wl y b K xs m i => ch57 wl y b K xs m i)) h1 fun e tm hp b hK => ?_
  obtain ⟨g1, ys, g2, z, g3, g4⟩ := fnK_sound hK
  exact ⟨g1, ys, g2, g4⟩
end Go.Proofs.YtfeemohdpmdaoaaDoor.Am

namespace Go.Proofs.YtfeemohdpmdaoaaDoor.Am
set_option linter.unusedVariables false
open Go Go.RowKit Go.Proofs

/-! ### levels -/
theorem chunk_nf {β : Type} (wl : WLT β) (y : YieldT β) (b : β) (R : AV → β → Prop) (xs : List (List Dv)) : wpFn Tryd.prog ⟨[], [], wl, y, false⟩ 100 Tryd.f78 [.d (.sl 1 xs), .d (i64 2)] b R = R (.fn (.func 88) [] [.rptr [.sl 1 xs], .rptr [i64 2]]) b := by kernel_rfl
def cChunk2 (args : List AV) (K : AV → Prop) : Prop := ∃ (xs : List (List Dv)), args = [.d (.sl 1 xs), .d (i64 2)] ∧ K (.fn (.func 88) [] [.rptr [.sl 1 xs], .rptr [i64 2]])
theorem cChunk2_ok : ∀ args K, cChunk2 args K → ∃ x, PCall Tryd.prog 78 args x ∧ K x := by
  rintro _ K ⟨xs, rfl, h⟩
  refine ⟨_, PCall.ofFn (n := 100) (u := false) mixed CallsOk.nil SCallsOk.nil Tryd.func78 (by rfl) (by rfl) fun Ev bb => ?_, h⟩
  rw [chunk_nf]
def TLv : List (Nat × (List AV → (AV → Prop) → Prop)) := [(77, cLeaf), (78, cChunk2), (79, cPair)]
theorem TLv_ok : CallsOk Tryd.prog TLv := CallsOk.cons cLeaf_ok (CallsOk.cons cChunk2_ok (CallsOk.cons cPair_ok CallsOk.nil))
noncomputable def lpLa : Code := sub [1, 0, 1, 2, 3] (code Tryd.f76)
noncomputable def lpLb : Code := sub [1, 1, 2, 3] (code Tryd.f76)
noncomputable def rfLv : Code := sub [1, 1, 2, 3, 1, 2, 1, 0, 1, 2] (code Tryd.f76)
theorem rfLv_shape : rfLv = .rangeFunc (.tmp 30) #[31] (assignOf rfLv) (bodyOf rfLv) := by kernel_rfl
def tmLa (acc : AV) (ps : List (List Dv)) (n i : Int) : List AV := [.yl, .rptr [.sl 1 ps], .bad, acc, .bad, .bad, .bad, .bad, .d (.sl 1 ps), .d (i64 n), .d (i64 i)] ++ List.replicate 41 .bad
def tmLb (now : AV) : List AV := [.yl, .bad, .bad, now] ++ List.replicate 48 .bad
def tmLr (now : List (List Dv)) : List AV := [.yl, .bad, .bad, .d (.sl 1 now), .bad, .bad, .ptr 0 0] ++ List.replicate 23 .bad ++ [.fn (.func 88) [] [.rptr [.sl 1 now], .rptr [i64 2]]] ++ List.replicate 21 .bad
section
variable {β : Type} (wl : WLT β) (y : YieldT β) (b : β) (K : Exit → List AV → List Blk → β → Prop) (Kh : Exit → List Blk → β → Prop)
theorem la_round (ps xs : List (List Dv)) (n i : Int) : wpc Tryd.prog ⟨TLv, [], wl, y, false⟩ 100 lpLa (tmLa (.own 24 1 xs) ps n i) [] b (maskK 0 [0, 1, 3, 8, 9, 10] K) = (
  BIf (decide (i < n)) (BIf (true && decide (0 ≤ i)) (∃ (xs0 : List (List Dv)), ps[Int.toNat i]? = some [Dv.sl 1 xs0] ∧ ∃ (p3 : List Int) (z4 : Int), [AV.full 1 [[Dv.sl 1 xs0]]] = [.full 1 [[.sl 1 (bytesR p3)]]] ∧ (p3.length ≤ 9223372036854775807 ∧ z4 = leafS p3) ∧
    BIf (true && decide ((xs.length + 1) * 8 ≤ 140737488355328)) (K .normal (tmLa (.own 24 1 (xs ++ [[u64 z4]])) ps n (IntKind.wrap .i64 (i + 1))) [] b) False) False) (K (.exit 0) (tmLa (.own 24 1 xs) ps n i) [] b)) := by kernel_rfl
theorem lr_round (now xs x : List (List Dv)) : wpcY Tryd.prog ⟨TLv, [], wl, y, false⟩ 100 #[31] (assignOf rfLv) (bodyOf rfLv) (tmLr now) [.full 1 x] [cellV (.own 24 1 xs)] b (takeK 1 Kh) = (
  BIf ((x.length : Int) == 2) (∃ (x0 : Int), x[0]? = some [u64 x0] ∧ ∃ (x3 : Int), x[1]? = some [u64 x3] ∧ ∃ (a6 c7 z8 : Int), [AV.d (u64 x0), .d (u64 x3)] = [.d (u64 a6), .d (u64 c7)] ∧ z8 = pairS a6 c7 ∧ BIf (true && decide ((xs.length + 1) * 8 ≤ 140737488355328)) (Kh .normal [cellV (.own 24 1 (xs ++ [[u64 z8]]))] b) False)
    (∃ (x9 : Int), x[0]? = some [u64 x9] ∧ BIf (true && decide ((xs.length + 1) * 8 ≤ 140737488355328)) (Kh .normal [cellV (.own 24 1 (xs ++ [[u64 x9]]))] b) False)) := by kernel_rfl
end
/-- the level above -/
def nextL : List Int → List Int
  | [] => []
  | [a] => [a]
  | a :: c :: l => pairS a c :: nextL l
theorem nextL_len : ∀ l : List Int, (nextL l).length ≤ l.length ∧ (1 < l.length → (nextL l).length < l.length)
  | [] => by simp [nextL]
  | [a] => by simp [nextL]
  | a :: c :: l => by have := (nextL_len l).1; simp only [nextL, List.length_cons]; omega
theorem rangeLv {Ev : Env Tryd.prog} {b : Ev.β} {Q : Exit → St Ev.β → Prop} (now : List (List Dv)) : ∀ (n : Nat) (l acc : List Int), l.length ≤ n → acc.length + l.length ≤ 1000 → Q .normal ⟨tmLr now, [cellV (.own 24 1 (digR (acc ++ nextL l)))], b⟩ →
    YList (YBody Ev (tmLr now) #[31] (assignOf rfLv) (bodyOf rfLv) 1) ((chunkD 2 n (digR l)).map itemC) ([cellV (.own 24 1 (digR acc))], b, none) (rangeQ (tmLr now) Q)
  | 0, l, acc, hn, hb, h => by
    have : l = [] := List.length_eq_zero_iff.1 (by omega)
    subst this
    rw [show nextL [] = [] from rfl, List.append_nil] at h; exact h
  | n + 1, [], acc, hn, hb, h => by
    have e : chunkD 2 (n + 1) (digR []) = [] := rfl
    rw [e]
    rw [show nextL [] = [] from rfl, List.append_nil] at h; exact h
  | n + 1, [a], acc, hn, hb, h => by
    have e : chunkD 2 (n + 1) (digR [a]) = [[u64 a]] :: chunkD 2 n (digR []) := rfl
    rw [e, List.map_cons]
    refine YList.step (X := ⟨TLv, [], wlW Ev, Ev.Y, false⟩) (k := 100) mixed (CX.Ok.of TLv_ok SCallsOk.nil) rfl ?_
    show wpcY _ _ _ _ _ _ _ [.full 1 [[u64 a]]] [cellV _] b (takeK 1 _)
    rw [lr_round]
    refine BIf.f (by simp) ⟨a, rfl, BIf.t (by simp [digR_len] at hb ⊢; omega) ?_⟩
    rw [digs_app]
    refine rangeLv now n [] (acc ++ [a]) (by simp) (by simp at hb ⊢; omega) ?_
    simpa [nextL] using h
  | n + 1, a :: c :: l, acc, hn, hb, h => by
    have e : chunkD 2 (n + 1) (digR (a :: c :: l)) = [[u64 a], [u64 c]] :: chunkD 2 n (digR l) := rfl
    rw [e, List.map_cons]
    refine YList.step (X := ⟨TLv, [], wlW Ev, Ev.Y, false⟩) (k := 100) mixed (CX.Ok.of TLv_ok SCallsOk.nil) rfl ?_
    show wpcY _ _ _ _ _ _ _ [.full 1 [[u64 a], [u64 c]]] [cellV _] b (takeK 1 _)
    rw [lr_round]
    refine BIf.t (by simp) ⟨a, rfl, c, rfl, a, c, _, rfl, rfl, BIf.t (by simp [digR_len] at hb ⊢; omega) ?_⟩
    rw [digs_app]
    refine rangeLv now n l (acc ++ [pairS a c]) (by simp at hn; omega) (by simp at hb ⊢; omega) ?_
    have e2 : (acc ++ [pairS a c]) ++ nextL l = acc ++ nextL (a :: c :: l) := by simp [nextL]
    rw [e2]; exact h
def wlLr {β : Type} : WLT β := fun c tm hp b K => ∃ (now q : List Int), c = rfLv ∧ maskTm [0, 3, 6, 30] 0 tm = tmLr (digR now) ∧ hp = [cellV (.d (.s (.slice none 0 0)))] ∧ (now.length ≤ 1000 ∧ q = nextL now) ∧ K .normal (tmLr (digR now)) [cellV (.own 24 1 (digR q))] b
theorem wlLr_ok {Ev : Env Tryd.prog} (c : Code) (tm : List AV) (hp : List Blk) (b : Ev.β) (K : Exit → List AV → List Blk → Ev.β → Prop) (h : wlLr c tm hp b K) : W Ev c ⟨tm, hp, b⟩ (fun e s => K e s.tm s.hp s.b) := by
  obtain ⟨now, q, rfl, htm, rfl, ⟨hl, rfl⟩, hK⟩ := h
  refine W.cast (htm ▸ maskTm_le _ tm 0) (hp' := [cellV (.own 24 1 (digR []))]) (.cons (.cons (LeA.nilOwn rfl) .nil) .nil) ?_
  rw [rfLv_shape]
  exact W.range (s := ⟨tmLr (digR now), _, b⟩) (k := 88) (first := []) (caps := [.rptr [.sl 1 (digR now)], .rptr [i64 2]]) rfl rfl rfl (ic88 (digR now) 2 (by omega) (by rw [digR_len]; omega)) (rangeLv (digR now) _ now [] (by rw [digR_len]; exact Nat.le_refl _) (by simpa using hl) (by simpa using hK))
end Go.Proofs.YtfeemohdpmdaoaaDoor.Am

namespace Go.Proofs.YtfeemohdpmdaoaaDoor.Am
set_option linter.unusedVariables false
open Go Go.RowKit Go.Proofs

set_option maxRecDepth 10000 in
theorem wrLa {Ev : Env Tryd.prog} {b : Ev.β} {Q : Exit → St Ev.β → Prop} (ps : List (List Int)) (hl : ps.length ≤ 1000) (hp : ∀ p ∈ ps, p.length ≤ 9223372036854775807) : ∀ (rest : List (List Int)) (k : Nat) (acc : List Int), ps.drop k = rest → k ≤ ps.length → acc.length ≤ k →
    Q (.exit 0) ⟨tmLa (.own 24 1 (digR (acc ++ rest.map leafS))) (partsR ps) ps.length ps.length, [], b⟩ → WR Ev lpLa (rest.length + 1) ⟨tmLa (.own 24 1 (digR acc)) (partsR ps) ps.length k, [], b⟩ Q
  | [], k, acc, hd, hk, ha, h => by
    refine WR.ofMask [0, 1, 3, 8, 9, 10] mixed (CX.Ok.of (u := false) TLv_ok SCallsOk.nil) (k := 100) ?_
    show wpc _ _ _ _ _ _ _ (maskK 0 _ _)
    rw [la_round]
    have := drop_nil hd
    obtain rfl : k = ps.length := by omega
    rw [List.map_nil, List.append_nil] at h
    exact BIf.f (by simp) h
  | p :: rest, k, acc, hd, hk, ha, h => by
    refine WR.ofMask [0, 1, 3, 8, 9, 10] mixed (CX.Ok.of (u := false) TLv_ok SCallsOk.nil) (k := 100) ?_
    show wpc _ _ _ _ _ _ _ (maskK 0 _ _)
    rw [la_round]
    obtain ⟨hk', hr, hd'⟩ := drop_cons hd
    refine BIf.t (by simp; omega) (BIf.t (by simp) ⟨bytesR p, by simp [partsR, hr], p, _, rfl, ⟨hp p (List.mem_of_getElem? hr), rfl⟩, BIf.t (by simp [digR_len]; omega) ?_⟩)
    rw [digs_app, wrap_succ hk' (by omega)]
    refine wrLa ps hl hp rest (k + 1) (acc ++ [leafS p]) hd' hk' (by simp; omega) ?_
    rw [List.map_cons] at h
    rw [List.append_assoc]; exact h
/-- the levels of a tree, from the leaves up -/
def levelsF : Nat → List Int → List (List Int)
  | 0, now => [now]
  | n + 1, now => if 1 < now.length then now :: levelsF n (nextL now) else [now]
def itemL (l : List Int) : List AV := [.d (.sl 1 (digR l))]
section
variable {β : Type} (wl : WLT β) (y : YieldT β) (b : β) (K : Exit → List AV → List Blk → β → Prop)
theorem lb_round (now : List (List Dv)) : wpc Tryd.prog ⟨TLv, [], wlLr, y, false⟩ 100 lpLb (tmLb (.d (.sl 1 now))) [] b (maskK 0 [0, 3] K) = (
  y b [.d (.sl 1 now)] fun (c : Bool) (b1 : β) => BIf c (BIf (decide ((now.length : Int) > 1)) (∃ (xs2 : List (List Dv)), [AV.d (.sl 1 now), AV.d (i64 2)] = [.d (.sl 1 xs2), .d (i64 2)] ∧ ∃ (now3 q4 : List Int), rfLv = rfLv ∧
      [.yl, .bad, .bad, AV.d (.sl 1 now), .bad, .bad, .ptr 0 0] ++ List.replicate 23 .bad ++ [.fn (.func 88) [] [.rptr [.sl 1 xs2], .rptr [i64 2]]] ++ List.replicate 21 .bad = tmLr (digR now3) ∧
      [cellV (.d (.s (.slice none 0 0)))] = [cellV (.d (.s (.slice none 0 0)))] ∧ (now3.length ≤ 1000 ∧ q4 = nextL now3) ∧ K .normal (tmLb (.d (.sl 1 (digR q4)))) [] b1)
    (K (.exit 2) (tmLb (.d (.sl 1 now))) [] b1)) (K (.exit 2) (tmLb (.d (.sl 1 now))) [] b1)) := by kernel_rfl
end
set_option maxRecDepth 10000 in
theorem wrLb {Ev : Env Tryd.prog} {Q : Exit → St Ev.β → Prop} : ∀ (n : Nat) (now : List Int) (b : Ev.β), now.length ≤ n + 1 → now.length ≤ 1000 →
    (YList Ev.Y ((levelsF n now).map itemL) b fun b' => ∀ z : List (List Dv), Q (.exit 2) ⟨tmLb (.d (.sl 1 z)), [], b'⟩) → WR Ev lpLb (n + 1) ⟨tmLb (.d (.sl 1 (digR now))), [], b⟩ Q
  | 0, now, b, hn, hl, h => by
    refine WR.ofMask [0, 3] mixed (CX.Ok.ofWl (wl := wlLr) (u := false) TLv_ok SCallsOk.nil wlLr_ok) (k := 100) ?_
    show wpc _ _ _ _ _ _ _ (maskK 0 _ _)
    rw [lb_round]
    refine Ev.Ymono h fun c b' h => ?_
    have h' : ∀ z : List (List Dv), Q (.exit 2) ⟨tmLb (.d (.sl 1 z)), [], b'⟩ := by cases c <;> exact h
    cases c with
    | true => exact BIf.t rfl (BIf.f (by simp [digR_len]; omega) (h' _))
    | false => exact BIf.f rfl (h' _)
  | n + 1, now, b, hn, hl, h => by
    refine WR.ofMask [0, 3] mixed (CX.Ok.ofWl (wl := wlLr) (u := false) TLv_ok SCallsOk.nil wlLr_ok) (k := 100) ?_
    show wpc _ _ _ _ _ _ _ (maskK 0 _ _)
    rw [lb_round]
    by_cases h1 : 1 < now.length
    · rw [levelsF, if_pos h1, List.map_cons] at h
      refine Ev.Ymono h fun c b' h => ?_
      cases c with
      | true =>
        have := (nextL_len now).2 h1
        exact BIf.t rfl (BIf.t (by simp [digR_len]; omega) ⟨_, rfl, now, _, rfl, rfl, rfl, ⟨hl, rfl⟩, wrLb n (nextL now) b' (by omega) (by omega) h⟩)
      | false => exact BIf.f rfl (h _)
    · rw [levelsF, if_neg h1] at h
      refine Ev.Ymono h fun c b' h => ?_
      have h' : ∀ z : List (List Dv), Q (.exit 2) ⟨tmLb (.d (.sl 1 z)), [], b'⟩ := by cases c <;> exact h
      cases c with
      | true => exact BIf.t rfl (BIf.f (by simp [digR_len]; omega) (h' _))
      | false => exact BIf.f rfl (h' _)
def wl76 {β : Type} (y : YieldT β) : WLT β := fun c tm hp b K => match cidO c with
  | 3 => ∃ (ps : List (List Int)) (q : List Int), c = .loop lpLa ∧ maskTm [0, 1, 3, 8, 9, 10] 0 tm = tmLa nilV (partsR ps) (partsR ps).length 0 ∧ hp = [] ∧ ((ps.length ≤ 1000 ∧ ∀ p ∈ ps, p.length ≤ 9223372036854775807) ∧ q = ps.map leafS) ∧ K (.exit 0) (tmLa (.own 24 1 (digR q)) (partsR ps) (partsR ps).length (partsR ps).length) [] b
  | 7 => ∃ (now : List Int), c = .loop lpLb ∧ maskTm [0, 3] 0 (tm.map AV.view) = tmLb (.d (.sl 1 (digR now))) ∧ hp = [] ∧ now.length ≤ 1000 ∧ YList y ((levelsF now.length now).map itemL) b fun b' => ∀ z : List (List Dv), K (.exit 2) (tmLb (.d (.sl 1 z))) [] b'
  | _ => False
theorem map_view_le : ∀ l : List AV, LeL l (l.map AV.view)
  | [] => .nil
  | x :: l => .cons LeA.view (map_view_le l)
theorem wl76_ok {Ev : Env Tryd.prog} (c : Code) (tm : List AV) (hp : List Blk) (b : Ev.β) (K : Exit → List AV → List Blk → Ev.β → Prop) (h : wl76 Ev.Y c tm hp b K) : W Ev c ⟨tm, hp, b⟩ (fun e s => K e s.tm s.hp s.b) := by
  unfold wl76 at h
  split at h
  · obtain ⟨ps, q, rfl, htm, rfl, ⟨⟨hl, hp⟩, rfl⟩, hK⟩ := h
    rw [partsR_len] at htm hK
    refine W.cast (htm ▸ maskTm_le _ tm 0) (LeH.refl _) ?_
    refine W.cast (tm' := tmLa (.own 24 1 (digR [])) (partsR ps) ps.length 0) (LeL.at [_, _, _] _ (LeA.nilOwn rfl)) (LeH.refl _) ?_
    exact W.rounds (wrLa (Q := fun e s => K e s.tm s.hp s.b) ps hl hp ps 0 [] rfl (Nat.zero_le _) (Nat.zero_le _) hK)
  · obtain ⟨now, rfl, htm, rfl, hl, hK⟩ := h
    refine W.cast (map_view_le _) (LeH.refl _) ?_
    refine W.cast (htm ▸ maskTm_le _ _ 0) (LeH.refl _) ?_
    exact W.rounds (wrLb (Q := fun e s => K e s.tm s.hp s.b) now.length now b (by omega) hl hK)
  · exact h.elim
end Go.Proofs.YtfeemohdpmdaoaaDoor.Am

namespace Go.Proofs.YtfeemohdpmdaoaaDoor.Am
set_option linter.unusedVariables false
open Go Go.RowKit Go.Proofs

section
variable {β : Type} (wl : WLT β) (y : YieldT β) (b : β) (R : AV → β → Prop) (Q : β → Prop)
theorem f76_nf (ps : List (List Dv)) : wpc Tryd.prog ⟨TLv, [], wl76 y, y, false⟩ 100 (code Tryd.f76) (startTm Tryd.f76 [.yl, .rptr [.sl 1 ps]]) [] b (fnK Tryd.prog Tryd.f76 fun _ b => Q b) = (
  ∃ (ps0 : List (List Int)) (q1 : List Int), Code.loop lpLa = .loop lpLa ∧ tmLa nilV ps ps.length 0 = tmLa nilV (partsR ps0) (partsR ps0).length 0 ∧ ([] : List Blk) = [] ∧ ((ps0.length ≤ 1000 ∧ ∀ p ∈ ps0, p.length ≤ 9223372036854775807) ∧ q1 = ps0.map leafS) ∧
    ∃ (now2 : List Int), Code.loop lpLb = .loop lpLb ∧ tmLb (.d (.sl 1 (digR q1))) = tmLb (.d (.sl 1 (digR now2))) ∧ ([] : List Blk) = [] ∧ now2.length ≤ 1000 ∧ YList y ((levelsF now2.length now2).map itemL) b fun b' => ∀ _ : List (List Dv), Q b') := by kernel_rfl
theorem levels_nf (ps : List (List Dv)) : wpFn Tryd.prog ⟨[], [], wl, y, false⟩ 100 Tryd.f54 [.d (.sl 1 ps)] b R = R (.fn (.func 76) [] [.rptr [.sl 1 ps]]) b := by kernel_rfl
end
/-- the levels of a tree over these pages -/
def levelsS (ps : List (List Int)) : List (List Int) := levelsF (ps.map leafS).length (ps.map leafS)
set_option maxRecDepth 100000 in
theorem ic76 (ps : List (List Int)) (hl : ps.length ≤ 1000) (hp : ∀ p ∈ ps, p.length ≤ 9223372036854775807) : ICall Tryd.prog 76 [.yl, .rptr [.sl 1 (partsR ps)]] (fun Y b Q => YList Y ((levelsS ps).map itemL) b Q) := by
  refine ICall.ofW (c := code Tryd.f76) Tryd.func76 rfl rfl fun Ev b Q h => ?_
  have h1 : wpc Tryd.prog ⟨TLv, [], wl76 Ev.Y, Ev.Y, false⟩ 100 (code Tryd.f76) (startTm Tryd.f76 [.yl, .rptr [.sl 1 (partsR ps)]]) [] b (fnK Tryd.prog Tryd.f76 fun _ b => Q b) := by
    rw [f76_nf]
    exact ⟨ps, _, rfl, rfl, rfl, ⟨⟨hl, hp⟩, rfl⟩, _, rfl, rfl, rfl, by simpa using hl, YList.mono (fun b h _ => h) _ _ h⟩
  refine wpc_sound mixed (CX.Ok.ofWl (wl := wl76 Ev.Y) (u := false) TLv_ok SCallsOk.nil wl76_ok) h1 fun e tm hp b hK => ?_
  obtain ⟨g1, ys, g2, z, g3, g4⟩ := fnK_sound hK
  exact ⟨g1, ys, g2, g4⟩
def cLevels (args : List AV) (K : AV → Prop) : Prop := ∃ (ps : List (List Dv)), args = [.d (.sl 1 ps)] ∧ K (.fn (.func 76) [] [.rptr [.sl 1 ps]])
theorem cLevels_ok : ∀ args K, cLevels args K → ∃ x, PCall Tryd.prog 54 args x ∧ K x := by
  rintro _ K ⟨ps, rfl, h⟩
  refine ⟨_, PCall.ofFn (n := 100) (u := false) mixed CallsOk.nil SCallsOk.nil Tryd.func54 (by rfl) (by rfl) fun Ev bb => ?_, h⟩
  rw [levels_nf]
def TRt : List (Nat × (List AV → (AV → Prop) → Prop)) := [(53, cArePages), (54, cLevels)]
theorem TRt_ok : CallsOk Tryd.prog TRt := CallsOk.cons cArePages_ok (CallsOk.cons cLevels_ok CallsOk.nil)
noncomputable def rfRt : Code := sub [1, 1, 1, 0, 1, 2] (code Tryd.f42)
theorem rfRt_shape : rfRt = .rangeFunc (.tmp 10) #[11] (assignOf rfRt) (bodyOf rfRt) := by kernel_rfl
def tmRt (ps : List (List Dv)) : List AV := [.bad, .bad, .bad, .bad, .ptr 0 0] ++ List.replicate 5 .bad ++ [.fn (.func 76) [] [.rptr [.sl 1 ps]]] ++ List.replicate 5 .bad
noncomputable def rfPr : Code := sub [1, 1, 1, 0, 1, 2] (code Tryd.f29)
theorem rfPr_shape : rfPr = .rangeFunc (.tmp 23) #[24] (assignOf rfPr) (bodyOf rfPr) := by kernel_rfl
def tmPr (ps : List (List Dv)) : List AV := [.bad, .bad, .bad, .ptr 0 0, .bad, .bad, .ptr 1 0] ++ List.replicate 16 .bad ++ [.fn (.func 76) [] [.rptr [.sl 1 ps]]] ++ List.replicate 17 .bad
end Go.Proofs.YtfeemohdpmdaoaaDoor.Am

namespace Go.Proofs.YtfeemohdpmdaoaaDoor.Am
set_option linter.unusedVariables false
open Go Go.RowKit Go.Proofs

def sibB (v : Int) : Int := IntKind.wrap IntKind.i64 ↑(BitVec.toNat (BitVec.ofInt 64 v ^^^ BitVec.ofInt 64 1))
section
variable {β : Type} (wl : WLT β) (y : YieldT β) (b : β) (Kh : Exit → List Blk → β → Prop)
theorem rt_round (ps x : List (List Dv)) (v : Int) : wpcY Tryd.prog ⟨[], [], wl, y, false⟩ 100 #[11] (assignOf rfRt) (bodyOf rfRt) (tmRt ps) [.d (.sl 1 x)] [cellV (.d (u64 v))] b (takeK 1 Kh) = (
  ∃ (x0 : Int), x[0]? = some [u64 x0] ∧ Kh .normal [cellV (.d (u64 x0))] b) := by kernel_rfl
theorem pr_round (ps x xs : List (List Dv)) (v : Int) : wpcY Tryd.prog ⟨[], [], wl, y, false⟩ 100 #[24] (assignOf rfPr) (bodyOf rfPr) (tmPr ps) [.d (.sl 1 x)] [cellV (.d (i64 v)), cellV (.own 24 1 xs)] b (takeK 2 Kh) = (
  BIf (decide (sibB v < (x.length : Int))) (BIf (true && decide (0 ≤ sibB v)) (∃ (x0 : Int), x[Int.toNat (sibB v)]? = some [u64 x0] ∧ BIf (true && decide ((xs.length + 1) * 8 ≤ 140737488355328)) (Kh .normal [cellV (.d (i64 (IntKind.wrap .i64 (Int.tdiv v 2)))), cellV (.own 24 1 (xs ++ [[u64 x0]]))] b) False) False)
    (Kh .normal [cellV (.d (i64 (IntKind.wrap .i64 (Int.tdiv v 2)))), cellV (.own 24 1 xs)] b)) := by kernel_rfl
end
/-- the neighbour of a place -/
def sibN (k : Nat) : Nat := if k % 2 = 0 then k + 1 else k - 1
theorem sibB_nat {k : Nat} (h : k < 1000000) : sibB (k : Int) = ((sibN k : Nat) : Int) := by
  have e1 : (BitVec.ofInt 64 (k : Int) ^^^ BitVec.ofInt 64 1).toNat = k ^^^ 1 := by
    rw [BitVec.toNat_xor, show BitVec.ofInt 64 (k : Int) = BitVec.ofNat 64 k by simp, BitVec.toNat_ofNat, Nat.mod_eq_of_lt (by omega)]; rfl
  have h1 : (k ^^^ 1) / 2 = k / 2 := by rw [Nat.xor_div_two]; simp
  have e2 : (k ^^^ 1).testBit 0 = (k.testBit 0 ^^ (1 : Nat).testBit 0) := Nat.testBit_xor ..
  rw [Nat.testBit_zero, Nat.testBit_zero, Nat.testBit_zero] at e2
  have h2 : (k ^^^ 1) % 2 = (k + 1) % 2 := by
    rcases Nat.mod_two_eq_zero_or_one k with h | h <;> rcases Nat.mod_two_eq_zero_or_one (k ^^^ 1) with h' | h' <;> simp [h, h'] at e2 <;> omega
  have h3 : k ^^^ 1 = sibN k := by unfold sibN; split <;> omega
  have h4 : sibN k ≤ k + 1 := by unfold sibN; split <;> omega
  rw [sibB, e1, h3, wrap_i64 (by omega) (by omega)]
theorem levelsF_len : ∀ (n : Nat) (now : List Int), (levelsF n now).length ≤ n + 1
  | 0, now => by simp [levelsF]
  | n + 1, now => by
    rw [levelsF]; split
    · simp [levelsF_len n (nextL now)]
    · simp
theorem levelsS_len (ps : List (List Int)) : (levelsS ps).length ≤ ps.length + 1 := by
  have := levelsF_len (ps.map leafS).length (ps.map leafS)
  rw [List.length_map] at this
  unfold levelsS; rw [List.length_map]; exact this
theorem nextL_ne : ∀ {l : List Int}, l ≠ [] → nextL l ≠ []
  | [], h => (h rfl).elim
  | [a], h => by simp [nextL]
  | a :: c :: l, h => by simp [nextL]
theorem levelsF_ne : ∀ (n : Nat) (now : List Int), now ≠ [] → ∀ l ∈ levelsF n now, l ≠ []
  | 0, now, h => by simpa [levelsF] using h
  | n + 1, now, h => by
    rw [levelsF]; split
    · intro l hl
      rcases List.mem_cons.1 hl with rfl | hl
      · exact h
      · exact levelsF_ne n _ (nextL_ne h) l hl
    · simpa using h
theorem levelsS_ne {ps : List (List Int)} (h : ps ≠ []) : ∀ l ∈ levelsS ps, l ≠ [] := levelsF_ne _ _ (by simpa using h)
/-- the first digest of the last level -/
def lastS : List (List Int) → Int → Int
  | [], v => v
  | l :: ls, _ => lastS ls (nth l 0)
theorem rangeRt {Ev : Env Tryd.prog} {b : Ev.β} {Q : Exit → St Ev.β → Prop} (ps : List (List Dv)) : ∀ (ls : List (List Int)) (v : Int), (∀ l ∈ ls, l ≠ []) → Q .normal ⟨tmRt ps, [cellV (.d (u64 (lastS ls v)))], b⟩ →
    YList (YBody Ev (tmRt ps) #[11] (assignOf rfRt) (bodyOf rfRt) 1) (ls.map itemL) ([cellV (.d (u64 v))], b, none) (rangeQ (tmRt ps) Q)
  | [], v, hn, h => h
  | l :: ls, v, hn, h => by
    rw [List.map_cons]
    refine YList.step (X := ⟨[], [], wlW Ev, Ev.Y, false⟩) (k := 100) mixed (CX.Ok.of CallsOk.nil SCallsOk.nil) rfl ?_
    show wpcY _ _ _ _ _ _ _ [.d (.sl 1 (digR l))] [cellV _] b (takeK 1 _)
    rw [rt_round]
    have h0 : 0 < l.length := List.length_pos_iff.2 (hn l List.mem_cons_self)
    exact ⟨nth l 0, digs_at h0, rangeRt ps ls (nth l 0) (fun l hl => hn l (List.mem_cons_of_mem _ hl)) h⟩
/-- the neighbours on the way up from place k -/
def proofF : List (List Int) → Nat → List Int
  | [], _ => []
  | l :: ls, k => (if sibN k < l.length then [nth l (sibN k)] else []) ++ proofF ls (k / 2)
theorem rangePr {Ev : Env Tryd.prog} {b : Ev.β} {Q : Exit → St Ev.β → Prop} (ps : List (List Dv)) : ∀ (ls : List (List Int)) (k : Nat) (acc : List Int), k < 1000000 → acc.length + ls.length ≤ 100000 →
    (∀ z : Int, Q .normal ⟨tmPr ps, [cellV (.d (i64 z)), cellV (.own 24 1 (digR (acc ++ proofF ls k)))], b⟩) →
    YList (YBody Ev (tmPr ps) #[24] (assignOf rfPr) (bodyOf rfPr) 2) (ls.map itemL) ([cellV (.d (i64 k)), cellV (.own 24 1 (digR acc))], b, none) (rangeQ (tmPr ps) Q)
  | [], k, acc, hk, hl, h => by
    have h := h k
    rw [proofF, List.append_nil] at h; exact h
  | l :: ls, k, acc, hk, hl, h => by
    rw [List.map_cons]
    refine YList.step (X := ⟨[], [], wlW Ev, Ev.Y, false⟩) (k := 100) mixed (CX.Ok.of CallsOk.nil SCallsOk.nil) rfl ?_
    show wpcY _ _ _ _ _ _ _ [.d (.sl 1 (digR l))] [cellV _, cellV _] b (takeK 2 _)
    rw [pr_round, sibB_nat hk, digR_len, show Int.tdiv (k : Int) 2 = ((k / 2 : Nat) : Int) from rfl, wrap_i64 (by omega) (by omega)]
    simp only [List.length_cons] at hl
    refine BIf.of (fun h1 => ?_) fun h1 => ?_
    · have h2 : sibN k < l.length := by simp at h1; omega
      refine BIf.t (by simp) ⟨nth l (sibN k), by rw [Int.toNat_natCast]; exact digs_at h2, BIf.t (by simp [digR_len]; omega) ?_⟩
      rw [digs_app]
      refine rangePr ps ls (k / 2) (acc ++ [nth l (sibN k)]) (by omega) (by simp; omega) ?_
      rw [proofF, if_pos h2] at h
      rw [List.append_assoc]; exact h
    · have h2 : ¬ sibN k < l.length := by simp at h1; omega
      refine rangePr ps ls (k / 2) acc (by omega) (by omega) ?_
      rw [proofF, if_neg h2, List.nil_append] at h
      exact h
def wlRt {β : Type} : WLT β := fun c tm hp b K => ∃ (ps : List (List Int)) (v q : Int), c = rfRt ∧ maskTm [4, 10] 0 tm = tmRt (partsR ps) ∧ hp = [cellV (.d (u64 v))] ∧ ((ps.length ≤ 1000 ∧ ps ≠ [] ∧ ∀ p ∈ ps, p.length ≤ 9223372036854775807) ∧ q = lastS (levelsS ps) v) ∧ K .normal (tmRt (partsR ps)) [cellV (.d (u64 q))] b
theorem wlRt_ok {Ev : Env Tryd.prog} (c : Code) (tm : List AV) (hp : List Blk) (b : Ev.β) (K : Exit → List AV → List Blk → Ev.β → Prop) (h : wlRt c tm hp b K) : W Ev c ⟨tm, hp, b⟩ (fun e s => K e s.tm s.hp s.b) := by
  obtain ⟨ps, v, q, rfl, htm, rfl, ⟨⟨hl, h0, hp⟩, rfl⟩, hK⟩ := h
  refine W.cast (htm ▸ maskTm_le _ tm 0) (LeH.refl _) ?_
  rw [rfRt_shape]
  exact W.range (s := ⟨tmRt (partsR ps), _, b⟩) (k := 76) (first := []) (caps := [.rptr [.sl 1 (partsR ps)]]) rfl rfl rfl (ic76 ps hl hp) (rangeRt (partsR ps) (levelsS ps) v (levelsS_ne h0) hK)
def wlPr {β : Type} : WLT β := fun c tm hp b K => ∃ (ps : List (List Int)) (k : Nat) (q : List Int), c = rfPr ∧ maskTm [3, 6, 23] 0 tm = tmPr (partsR ps) ∧ hp = [cellV (.d (i64 k)), cellV nilV] ∧ ((ps.length ≤ 1000 ∧ k < 1000000 ∧ ∀ p ∈ ps, p.length ≤ 9223372036854775807) ∧ q = proofF (levelsS ps) k) ∧ ∀ z : Int, K .normal (tmPr (partsR ps)) [cellV (.d (i64 z)), cellV (.own 24 1 (digR q))] b
theorem wlPr_ok {Ev : Env Tryd.prog} (c : Code) (tm : List AV) (hp : List Blk) (b : Ev.β) (K : Exit → List AV → List Blk → Ev.β → Prop) (h : wlPr c tm hp b K) : W Ev c ⟨tm, hp, b⟩ (fun e s => K e s.tm s.hp s.b) := by
  obtain ⟨ps, k, q, rfl, htm, rfl, ⟨⟨hl, h0, hp⟩, rfl⟩, hK⟩ := h
  refine W.cast (htm ▸ maskTm_le _ tm 0) (hp' := [cellV (.d (i64 k)), cellV (.own 24 1 (digR []))]) (.cons (.cons LeA.rfl .nil) (.cons (.cons (LeA.nilOwn rfl) .nil) .nil)) ?_
  rw [rfPr_shape]
  have := levelsS_len ps
  exact W.range (s := ⟨tmPr (partsR ps), _, b⟩) (k := 76) (first := []) (caps := [.rptr [.sl 1 (partsR ps)]]) rfl rfl rfl (ic76 ps hl hp) (rangePr (partsR ps) (levelsS ps) k [] h0 (by simp; omega) hK)
end Go.Proofs.YtfeemohdpmdaoaaDoor.Am

namespace Go.Proofs.YtfeemohdpmdaoaaDoor.Am
set_option linter.unusedVariables false
open Go Go.RowKit Go.Proofs

def rootS (ps : List (List Int)) : Int × Int := if areS ps then (lastS (levelsS ps) 0, 0) else (0, 1)
def proofS (ps : List (List Int)) (i : Int) : List Int × Int := if areS ps && !decide (i < 0) && !decide (i ≥ ps.length) then (proofF (levelsS ps) i.toNat, 0) else ([], 1)
theorem areS_ok {ps : List (List Int)} (h : areS ps = true) : ps.length ≤ 16 ∧ ps ≠ [] ∧ ∀ p ∈ ps, p.length ≤ 256 := by
  simp [areS, anyLong] at h
  obtain ⟨h1, h2, h3⟩ := h
  refine ⟨by omega, fun h => by simp [h] at h1, fun p hp => ?_⟩
  have := h3 p hp
  omega
section
variable {β : Type} (y : YieldT β) (b : β) (R : AV → β → Prop)
theorem root_nf (ps : List (List Dv)) : wpFn Tryd.prog ⟨TRt, [], wlRt, y, false⟩ 100 Tryd.f42 [.d (.sl 1 ps)] b R = (
  ∃ (ps0 : List (List Int)) (z1 : Bool), [AV.d (.sl 1 ps)] = [.d (.sl 1 (partsR ps0))] ∧ z1 = areS ps0 ∧ BIf (!z1) (R (.tup [.d (u64 0), .d (i64 1)]) b) (∃ (ps2 : List (List Dv)), [AV.d (.sl 1 ps)] = [.d (.sl 1 ps2)] ∧ ∃ (ps3 : List (List Int)) (v4 q5 : Int), rfRt = rfRt ∧
    tmRt ps2 = tmRt (partsR ps3) ∧ [cellV (.d (u64 0))] = [cellV (.d (u64 v4))] ∧ ((ps3.length ≤ 1000 ∧ ps3 ≠ [] ∧ ∀ p ∈ ps3, p.length ≤ 9223372036854775807) ∧ q5 = lastS (levelsS ps3) v4) ∧ R (.tup [.d (u64 q5), .d (i64 0)]) b)) := by kernel_rfl
theorem proof_nf (ps : List (List Dv)) (i : Int) : wpFn Tryd.prog ⟨TRt, [], wlPr, y, false⟩ 100 Tryd.f29 [.d (.sl 1 ps), .d (i64 i)] b R = (
  ∃ (ps0 : List (List Int)) (z1 : Bool), [AV.d (.sl 1 ps)] = [.d (.sl 1 (partsR ps0))] ∧ z1 = areS ps0 ∧ BIf (!z1) (R (.tup [nilV, .d (i64 1)]) b) (BIf (decide (i < 0)) (R (.tup [nilV, .d (i64 1)]) b) (BIf (decide (i ≥ (ps.length : Int))) (R (.tup [nilV, .d (i64 1)]) b)
    (∃ (ps2 : List (List Dv)), [AV.d (.sl 1 ps)] = [.d (.sl 1 ps2)] ∧ ∃ (ps3 : List (List Int)) (k4 : Nat) (q5 : List Int), rfPr = rfPr ∧ tmPr ps2 = tmPr (partsR ps3) ∧ [cellV (.d (i64 i)), cellV nilV] = [cellV (.d (i64 k4)), cellV nilV] ∧
      ((ps3.length ≤ 1000 ∧ k4 < 1000000 ∧ ∀ p ∈ ps3, p.length ≤ 9223372036854775807) ∧ q5 = proofF (levelsS ps3) k4) ∧ ∀ _ : Int, R (.tup [.d (.sl 1 (digR q5)), .d (i64 0)]) b)))) := by kernel_rfl
end
theorem pcRoot (ps : List (List Int)) : PCall Tryd.prog 42 [.d (.sl 1 (partsR ps))] (.tup [.d (u64 (rootS ps).1), .d (i64 (rootS ps).2)]) := by
  refine PCall.ofFnW (n := 100) (u := false) (fun _ => wlRt) mixed TRt_ok SCallsOk.nil (fun Ev => wlRt_ok) Tryd.func42 (by rfl) (by rfl) fun Ev bb => ?_
  rw [root_nf]
  refine ⟨ps, _, rfl, rfl, BIf.of (fun h => ?_) fun h => ?_⟩
  · have h : areS ps = false := by simpa using h
    rw [rootS, if_neg (by rw [h]; simp)]
  · have h : areS ps = true := by simpa using h
    obtain ⟨h1, h2, h3⟩ := areS_ok h
    rw [rootS, if_pos h]
    exact ⟨_, rfl, ps, 0, _, rfl, rfl, rfl, ⟨⟨by omega, h2, fun p hp => by have := h3 p hp; omega⟩, rfl⟩, rfl⟩
def cRoot (args : List AV) (K : AV → Prop) : Prop := ∃ (ps : List (List Int)) (z : Int × Int), args = [.d (.sl 1 (partsR ps))] ∧ z = rootS ps ∧ K (.tup [.d (u64 z.1), .d (i64 z.2)])
theorem cRoot_ok : ∀ args K, cRoot args K → ∃ x, PCall Tryd.prog 42 args x ∧ K x := by
  rintro _ K ⟨ps, _, rfl, rfl, h⟩; exact ⟨_, pcRoot ps, h⟩
theorem pcProof (ps : List (List Int)) (i : Int) : PCall Tryd.prog 29 [.d (.sl 1 (partsR ps)), .d (i64 i)] (.tup [.d (.sl 1 (digR (proofS ps i).1)), .d (i64 (proofS ps i).2)]) := by
  refine PCall.ofFnV (n := 100) (u := false) (fun _ => wlPr) mixed TRt_ok SCallsOk.nil (fun Ev => wlPr_ok) Tryd.func29 (by rfl) (by rfl) fun Ev bb => ?_
  rw [proof_nf, partsR_len]
  have hn : LeV (.tup [nilV, .d (i64 1)]) (.tup [.d (.sl 1 (digR [])), .d (i64 1)]) := .tups (.cons (.nil rfl) (.cons .rfl .nil))
  refine ⟨ps, _, rfl, rfl, BIf.of (fun h => ?_) fun h => BIf.of (fun g => ?_) fun g => BIf.of (fun f => ?_) fun f => ?_⟩
  · have h : areS ps = false := by simpa using h
    rw [proofS, if_neg (by rw [h]; simp)]; exact hn
  · rw [proofS, if_neg (by rw [g]; simp)]; exact hn
  · rw [proofS, if_neg (by rw [f]; simp)]; exact hn
  · have h : areS ps = true := by simpa using h
    obtain ⟨h1, h2, h3⟩ := areS_ok h
    rw [proofS, if_pos (by rw [h, g, f]; rfl)]
    simp at g f
    obtain ⟨k, rfl⟩ := Int.eq_ofNat_of_zero_le g
    exact ⟨_, rfl, ps, k, _, rfl, rfl, rfl, ⟨⟨by omega, by omega, fun p hp => by have := h3 p hp; omega⟩, rfl⟩, fun _ => .rfl⟩
def cProof (args : List AV) (K : AV → Prop) : Prop := ∃ (ps : List (List Int)) (i : Int) (z : List Int × Int), args = [.d (.sl 1 (partsR ps)), .d (i64 i)] ∧ z = proofS ps i ∧ K (.tup [.d (.sl 1 (digR z.1)), .d (i64 z.2)])
theorem cProof_ok : ∀ args K, cProof args K → ∃ x, PCall Tryd.prog 29 args x ∧ K x := by
  rintro _ K ⟨ps, i, _, rfl, rfl, h⟩; exact ⟨_, pcProof ps i, h⟩
end Go.Proofs.YtfeemohdpmdaoaaDoor.Am

namespace Go.Proofs.YtfeemohdpmdaoaaDoor.Am
set_option linter.unusedVariables false
open Go Go.RowKit Go.Proofs

/-! ### walk -/
noncomputable def lpWk : Code := sub [2, 3] (code Tryd.f92)
def tmWk : List AV := [.yl, .ptr 0 0, .ptr 1 0] ++ List.replicate 18 .bad
def cellN (x : Int) : Blk := cellV (.d (i64 x))
section
variable {β : Type} (wl : WLT β) (y : YieldT β) (b : β) (K : Exit → List AV → List Blk → β → Prop) (R : AV → List Blk → β → Prop)
theorem wk_round (x k : Int) : wpc Tryd.prog ⟨[], [], wl, y, false⟩ 100 lpWk tmWk [cellN x, cellN k] b (maskT [0, 1, 2] K) = (
  BIf (decide (x > 1)) (y b [.d (bo (decide (sibB k < x))), .d (bo (Int.tmod k 2 == 1))] fun (c : Bool) (b1 : β) => BIf (!c) (K .ret tmWk [cellN x, cellN k] b1)
    (K .normal tmWk [cellN (IntKind.wrap .i64 (Int.tdiv (IntKind.wrap .i64 (x + 1)) 2)), cellN (IntKind.wrap .i64 (Int.tdiv k 2))] b1)) (K (.exit 0) tmWk [cellN x, cellN k] b)) := by kernel_rfl
theorem walk_nf (x k : Int) : wpFnS Tryd.prog ⟨[], [], wl, y, false⟩ 100 Tryd.f85 [.d (i64 x), .d (i64 k)] b R = R (.fn (.func 92) [] [.ptr 0 0, .ptr 1 0]) [cellN x, cellN k] b := by kernel_rfl
end
/-- a walk up a tree: is there a neighbour, is it on the left -/
def walkP : Nat → Nat → Nat → List (Bool × Bool)
  | 0, _, _ => []
  | n + 1, w, k => if 1 < w then (decide (sibN k < w), k % 2 == 1) :: walkP n ((w + 1) / 2) (k / 2) else []
def walkS (w k : Nat) : List (Bool × Bool) := walkP w w k
def itemK (p : Bool × Bool) : List AV := [.d (bo p.1), .d (bo p.2)]
theorem wrWk {Ev : Env Tryd.prog} {Q : Exit → St Ev.β → Prop} : ∀ (n w k : Nat) (b : Ev.β), w ≤ n + 1 → w < 1000000 → k < 1000000 →
    (YList Ev.Y ((walkP n w k).map itemK) b fun b' => ∀ z t : Int, Q (.exit 0) ⟨tmWk, [cellN z, cellN t], b'⟩ ∧ Q .ret ⟨tmWk, [cellN z, cellN t], b'⟩) → WR Ev lpWk (n + 1) ⟨tmWk, [cellN w, cellN k], b⟩ Q
  | 0, w, k, b, hn, hw, hk, h => by
    refine WR.ofMaskT [0, 1, 2] mixed (CX.Ok.of (u := false) CallsOk.nil SCallsOk.nil) (k := 100) ?_
    rw [wk_round]
    exact BIf.f (by simp; omega) (h _ _).1
  | n + 1, w, k, b, hn, hw, hk, h => by
    refine WR.ofMaskT [0, 1, 2] mixed (CX.Ok.of (u := false) CallsOk.nil SCallsOk.nil) (k := 100) ?_
    rw [wk_round]
    by_cases h1 : 1 < w
    · rw [walkP, if_pos h1, List.map_cons] at h
      refine BIf.t (by simp; omega) ?_
      have e1 : decide (sibB (k : Int) < (w : Int)) = decide (sibN k < w) := by rw [sibB_nat hk]; simp
      have e2 : (Int.tmod (k : Int) 2 == 1) = (k % 2 == 1) := by
        rw [show Int.tmod (k : Int) 2 = ((k % 2 : Nat) : Int) from rfl]
        rcases Nat.mod_two_eq_zero_or_one k with h | h <;> rw [h] <;> rfl
      rw [e1, e2]
      refine Ev.Ymono h fun c b' h => ?_
      cases c with
      | true =>
        refine BIf.f rfl ?_
        rw [wrap_i64 (x := (w : Int) + 1) (by omega) (by omega), show Int.tdiv ((w : Int) + 1) 2 = (((w + 1) / 2 : Nat) : Int) from rfl, show Int.tdiv (k : Int) 2 = ((k / 2 : Nat) : Int) from rfl, wrap_i64 (by omega) (by omega), wrap_i64 (by omega) (by omega)]
        exact wrWk n ((w + 1) / 2) (k / 2) b' (by omega) (by omega) (by omega) h
      | false => exact BIf.t rfl (h _ _).2
    · rw [walkP, if_neg h1] at h
      exact BIf.f (by simp; omega) (h _ _).1
def wlWk {β : Type} (y : YieldT β) : WLT β := fun c tm hp b K => ∃ (w k : Nat), c = .loop lpWk ∧ maskTm [0, 1, 2] 0 tm = tmWk ∧ hp = [cellN w, cellN k] ∧ (w < 1000000 ∧ k < 1000000) ∧ YList y ((walkS w k).map itemK) b fun b' => ∀ z t : Int, K (.exit 0) tmWk [cellN z, cellN t] b' ∧ K .ret tmWk [cellN z, cellN t] b'
theorem wlWk_ok {Ev : Env Tryd.prog} (c : Code) (tm : List AV) (hp : List Blk) (b : Ev.β) (K : Exit → List AV → List Blk → Ev.β → Prop) (h : wlWk Ev.Y c tm hp b K) : W Ev c ⟨tm, hp, b⟩ (fun e s => K e s.tm s.hp s.b) := by
  obtain ⟨w, k, rfl, htm, rfl, ⟨hw, hk⟩, hK⟩ := h
  refine W.cast (htm ▸ maskTm_le _ tm 0) (LeH.refl _) ?_
  exact W.rounds (wrWk (Q := fun e s => K e s.tm s.hp s.b) w w k b (by omega) hw hk hK)
section
variable {β : Type} (y : YieldT β) (b : β) (Q : β → Prop)
theorem f92_nf (x k : Int) : wpc Tryd.prog ⟨[], [], wlWk y, y, false⟩ 100 (code Tryd.f92) (startTm Tryd.f92 [.yl, .ptr 0 0, .ptr 1 0]) [cellN x, cellN k] b (fnK Tryd.prog Tryd.f92 fun _ b => Q b) = (
  ∃ (w' k' : Nat), Code.loop lpWk = .loop lpWk ∧ tmWk = tmWk ∧ [cellN x, cellN k] = [cellN w', cellN k'] ∧ (w' < 1000000 ∧ k' < 1000000) ∧ YList y ((walkS w' k').map itemK) b fun b' => ∀ _ _ : Int, Q b' ∧ Q b') := by kernel_rfl
end
set_option maxRecDepth 100000 in
theorem ic92 (w k : Nat) (hw : w < 1000000) (hk : k < 1000000) : ICallBs Tryd.prog 92 (.yl :: ptrsFrom 0 2) [cellN w, cellN k] (fun Y b Q => YList Y ((walkS w k).map itemK) b Q) := by
  refine ICallBs.ofW (c := code Tryd.f92) Tryd.func92 rfl rfl fun Ev b Q h => ?_
  have h1 : wpc Tryd.prog ⟨[], [], wlWk Ev.Y, Ev.Y, false⟩ 100 (code Tryd.f92) (startTm Tryd.f92 [.yl, .ptr 0 0, .ptr 1 0]) [cellN w, cellN k] b (fnK Tryd.prog Tryd.f92 fun _ b => Q b) := by
    rw [f92_nf]
    exact ⟨w, k, rfl, rfl, rfl, ⟨hw, hk⟩, YList.mono (fun b h _ _ => ⟨h, h⟩) _ _ h⟩
  refine wpc_sound mixed (CX.Ok.ofWl (wl := wlWk Ev.Y) (u := false) CallsOk.nil SCallsOk.nil wlWk_ok) h1 fun e tm hp b hK => ?_
  obtain ⟨g1, ys, g2, z, g3, g4⟩ := fnK_sound hK
  exact ⟨g1, ys, g2, g4⟩
theorem fcWalk (x k : Int) : FCall Tryd.prog 85 [.d (i64 x), .d (i64 k)] (.fn (.func 92) [] [.ptr 0 0, .ptr 1 0]) [cellN x, cellN k] := by
  refine FCall.ofFnW (n := 100) (u := false) (fun _ => fun _ _ _ _ _ => False) mixed CallsOk.nil SCallsOk.nil (fun Ev _ _ _ _ _ h => h.elim) Tryd.func85 (by rfl) (by rfl) (by rfl) fun Ev bb => ?_
  rw [walk_nf]
  exact ⟨rfl, rfl⟩
def sWalk (args : List AV) (hp : List Blk) (K : AV → List Blk → Prop) : Prop := ∃ (x k : Int), args = [.d (i64 x), .d (i64 k)] ∧ K (.fn (.func 92) [] [.ptr hp.length 0, .ptr (hp.length + 1) 0]) (hp ++ [cellN x, cellN k])
theorem sWalk_ok : ∀ args hp K, sWalk args hp K → ∃ x hp', SCall Tryd.prog 85 args hp x hp' ∧ K x hp' := by
  rintro _ hp K ⟨x, k, rfl, h⟩
  exact ⟨_, _, (fcWalk x k).toS rfl hp, by simpa [shift, shifts, shiftH, shiftB, cellN, cellV, Nat.add_comm] using h⟩
end Go.Proofs.YtfeemohdpmdaoaaDoor.Am

namespace Go.Proofs.YtfeemohdpmdaoaaDoor.Am
set_option linter.unusedVariables false
open Go Go.RowKit Go.Proofs

/-! ### Check -/
def SCk : List (Nat × (List AV → List Blk → (AV → List Blk → Prop) → Prop)) := [(85, sWalk)]
theorem SCk_ok : SCallsOk Tryd.prog SCk := SCallsOk.cons sWalk_ok SCallsOk.nil
noncomputable def rfCk : Code := sub [1, 1, 1, 0, 1, 2] (code Tryd.f71)
theorem rfCk_shape : rfCk = .rangeFunc (.tmp 41) #[42, 43] (assignOf rfCk) (bodyOf rfCk) := by kernel_rfl
theorem f71_shape : code Tryd.f71 = .seq (sub [0] (code Tryd.f71)) (.seq (sub [1, 0] (code Tryd.f71)) (.seq (sub [1, 1, 0] (code Tryd.f71)) (.seq (.seq (sub [1, 1, 1, 0, 0] (code Tryd.f71)) (.block 0 rfCk)) (sub [1, 1, 1, 1] (code Tryd.f71))))) := by kernel_rfl
def tmCa (r n i : Int) (p q : List (List Dv)) : List AV := [.d (u64 r), .d (i64 n), .d (i64 i), .d (.sl 1 p), .d (.sl 1 q), .bad, .bad, .bad, .bad, .ptr 0 0, .ptr 1 0] ++ List.replicate 58 .bad
def tmCb (r n i : Int) : List AV := [.d (u64 r), .d (i64 n), .d (i64 i), .bad, .bad, .bad, .bad, .bad, .bad, .ptr 0 0, .ptr 1 0, .ptr 2 0] ++ List.replicate 57 .bad
def tmCc (r : Int) : List AV := [.d (u64 r), .bad, .bad, .bad, .bad, .bad, .bad, .bad, .bad, .ptr 0 0, .ptr 1 0, .ptr 2 0] ++ List.replicate 29 .bad ++ [.fn (.func 92) [] [.ptr 3 0, .ptr 4 0]] ++ List.replicate 27 .bad
def tmCd (r : Int) : List AV := [.d (u64 r), .bad, .bad, .bad, .bad, .bad, .bad, .bad, .bad, .ptr 0 0, .ptr 1 0, .ptr 2 0] ++ List.replicate 57 .bad
def ckH (q : List (List Dv)) (z : Bool) (s : Int) : List Blk := [cellV (.d (.sl 1 q)), cellV (.d (bo z)), cellV (.d (u64 s))]
section
variable {β : Type} (wl : WLT β) (y : YieldT β) (b : β) (K : Exit → List AV → List Blk → β → Prop) (Kh : Exit → List Blk → β → Prop)
def ckH2 (q : List (List Dv)) : List Blk := [cellV (.d (.sl 1 q)), cellV (.d (bo false))]
theorem ck_a (r n i : Int) (p q : List (List Dv)) : wpc Tryd.prog ⟨[], [], wl, y, false⟩ 100 (sub [0] (code Tryd.f71)) (startTm Tryd.f71 [.d (u64 r), .d (i64 n), .d (i64 i), .d (.sl 1 p), .d (.sl 1 q)]) [] b K = K .normal (tmCa r n i p q) (ckH2 q) b := by kernel_rfl
theorem ck_b (r n i : Int) (p q : List (List Dv)) : wpc Tryd.prog ⟨[], [], wl, y, false⟩ 100 (sub [1, 0] (code Tryd.f71)) (tmCa r n i p q) (ckH2 q) b (maskT [0, 1, 2, 3, 4, 9, 10] K) = (
  BIf (decide (n < 1)) (K .ret (tmCa r n i p q) (ckH2 q) b) (BIf (decide (n > 16)) (K .ret (tmCa r n i p q) (ckH2 q) b) (BIf (decide (i < 0)) (K .ret (tmCa r n i p q) (ckH2 q) b) (BIf (decide (i ≥ n)) (K .ret (tmCa r n i p q) (ckH2 q) b)
    (BIf (decide ((p.length : Int) > 256)) (K .ret (tmCa r n i p q) (ckH2 q) b) (K .normal (tmCa r n i p q) (ckH2 q) b)))))) := by kernel_rfl
theorem ck_c (r n i : Int) (p q : List (List Dv)) : wpc Tryd.prog ⟨TLv, [], wl, y, false⟩ 100 (sub [1, 1, 0] (code Tryd.f71)) (tmCa r n i p q) (ckH2 q) b (maskT [0, 1, 2, 9, 10, 11] K) = (
  ∃ (p0 : List Int) (z1 : Int), [AV.full 1 [[.sl 1 p]]] = [.full 1 [[.sl 1 (bytesR p0)]]] ∧ (p0.length ≤ 9223372036854775807 ∧ z1 = leafS p0) ∧ K .normal (tmCb r n i) (ckH q false z1) b) := by kernel_rfl
theorem ck_d (r n i s : Int) (q : List (List Dv)) : wpc Tryd.prog ⟨TLv, SCk, wl, y, false⟩ 100 (sub [1, 1, 1, 0, 0] (code Tryd.f71)) (tmCb r n i) (ckH q false s) b (maskT [0, 9, 10, 11, 41] K) = (
  ∃ (x0 k1 : Int), [AV.d (i64 n), .d (i64 i)] = [.d (i64 x0), .d (i64 k1)] ∧ K .normal (tmCc r) (ckH q false s ++ [cellN x0, cellN k1]) b) := by kernel_rfl
def rest1 (q : List (List Dv)) : List (List Dv) := List.take (Int.toNat (q.length : Int) - Int.toNat 1) (List.drop (Int.toNat 1) q)
theorem ck_round (r s : Int) (t u : Bool) (q : List (List Dv)) : wpcY Tryd.prog ⟨TLv, [], wl, y, false⟩ 100 #[42, 43] (assignOf rfCk) (bodyOf rfCk) (lowTm 3 (tmCc r)) [.d (bo t), .d (bo u)] (ckH q false s) b (takeK 3 Kh) = (
  BIf (!t) (Kh .normal (ckH q false s) b) (BIf ((q.length : Int) == 0) (Kh .ret (ckH q false s) b) (∃ (x0 : Int), q[0]? = some [u64 x0] ∧
    BIf u (∃ (a3 c4 z5 : Int), [AV.d (u64 x0), .d (u64 s)] = [.d (u64 a3), .d (u64 c4)] ∧ z5 = pairS a3 c4 ∧ BIf (true && decide ((0 : Int) ≤ 1 ∧ (1 : Int) ≤ q.length ∧ (q.length : Int) ≤ q.length ∧ (q.length : Int) ≤ q.length)) (Kh .normal (ckH (rest1 q) false z5) b) False)
      (∃ (a6 c7 z8 : Int), [AV.d (u64 s), .d (u64 x0)] = [.d (u64 a6), .d (u64 c7)] ∧ z8 = pairS a6 c7 ∧ BIf (true && decide ((0 : Int) ≤ 1 ∧ (1 : Int) ≤ q.length ∧ (q.length : Int) ≤ q.length ∧ (q.length : Int) ≤ q.length)) (Kh .normal (ckH (rest1 q) false z8) b) False)))) := by kernel_rfl
theorem ck_e (r s : Int) (q : List (List Dv)) : wpc Tryd.prog ⟨[], [], wl, y, false⟩ 100 (sub [1, 1, 1, 1] (code Tryd.f71)) (lowTm 3 (tmCc r)) (ckH q false s) b (maskT [10] K) = (
  BIf ((q.length : Int) == 0) (K .ret (List.replicate 10 .bad ++ [.ptr 1 0] ++ List.replicate 58 .bad) (ckH q (s == r) s) b) (K .ret (List.replicate 10 .bad ++ [.ptr 1 0] ++ List.replicate 58 .bad) (ckH q false s) b)) := by kernel_rfl
end
end Go.Proofs.YtfeemohdpmdaoaaDoor.Am

namespace Go.Proofs.YtfeemohdpmdaoaaDoor.Am
set_option linter.unusedVariables false
open Go Go.RowKit Go.Proofs

/-- a walk with a path: the rest of the path and the digest on top -/
def checkF : List (Bool × Bool) → List Int → Int → Option (List Int × Int)
  | [], q, s => some (q, s)
  | (t, u) :: l, q, s => if t then match q with
      | [] => none
      | x :: q => checkF l q (if u then pairS x s else pairS s x)
    else checkF l q s
theorem checkF_f (u : Bool) (l : List (Bool × Bool)) (q : List Int) (s : Int) : checkF ((false, u) :: l) q s = checkF l q s := by cases q <;> simp [checkF]
theorem checkF_nil (u : Bool) (l : List (Bool × Bool)) (s : Int) : checkF ((true, u) :: l) [] s = none := by rw [checkF, if_pos rfl]
theorem checkF_t (l : List (Bool × Bool)) (x : Int) (q : List Int) (s : Int) : checkF ((true, true) :: l) (x :: q) s = checkF l q (pairS x s) := by rw [checkF, if_pos rfl, if_pos rfl]
theorem checkF_g (l : List (Bool × Bool)) (x : Int) (q : List Int) (s : Int) : checkF ((true, false) :: l) (x :: q) s = checkF l q (pairS s x) := by rw [checkF, if_pos rfl, if_neg (by simp)]
def topS (r : Int) : Option (List Int × Int) → Bool
  | some (q, s) => q.isEmpty && s == r
  | none => false
def checkS (r n i : Int) (p q : List Int) : Bool := !decide (n < 1) && (!decide (n > 16) && (!decide (i < 0) && (!decide (i ≥ n) && (!decide ((p.length : Int) > 256) && topS r (checkF (walkS n.toNat i.toNat) q (leafS p))))))
theorem rest1_eq (x : Int) (q : List Int) : rest1 (digR (x :: q)) = digR q := by
  unfold rest1
  rw [show Int.toNat 1 = 1 from rfl, Int.toNat_natCast, digR_len, show (digR (x :: q)).drop 1 = digR q from rfl]
  exact List.take_of_length_le (by rw [digR_len]; simp)
theorem rangeCk {Ev : Env Tryd.prog} {b : Ev.β} {Q : Exit → St Ev.β → Prop} (r : Int) : ∀ (ls : List (Bool × Bool)) (q : List Int) (s : Int),
    (∀ q' s', checkF ls q s = some (q', s') → Q .normal ⟨lowTm 3 (tmCc r), ckH (digR q') false s', b⟩) → (checkF ls q s = none → ∀ q' s', Q .ret ⟨lowTm 3 (tmCc r), ckH q' false s', b⟩) →
    YList (YBody Ev (lowTm 3 (tmCc r)) #[42, 43] (assignOf rfCk) (bodyOf rfCk) 3) (ls.map itemK) (ckH (digR q) false s, b, none) (rangeQ (lowTm 3 (tmCc r)) Q)
  | [], q, s, h1, h2 => h1 q s rfl
  | (t, u) :: ls, q, s, h1, h2 => by
    rw [List.map_cons]
    refine YList.step (X := ⟨TLv, [], wlW Ev, Ev.Y, false⟩) (k := 100) mixed (CX.Ok.of TLv_ok SCallsOk.nil) rfl ?_
    show wpcY _ _ _ _ _ _ _ [.d (bo t), .d (bo u)] _ b (takeK 3 _)
    rw [ck_round]
    cases t with
    | false =>
      rw [checkF_f] at h1 h2
      exact BIf.t rfl (rangeCk r ls q s h1 h2)
    | true =>
      refine BIf.f rfl ?_
      cases q with
      | nil => exact BIf.t rfl (h2 (checkF_nil _ _ _) _ _)
      | cons x q =>
        refine BIf.f (by rw [digR_len]; simp; omega) ⟨x, rfl, ?_⟩
        have hc : decide ((0 : Int) ≤ 1 ∧ (1 : Int) ≤ (digR (x :: q)).length ∧ ((digR (x :: q)).length : Int) ≤ (digR (x :: q)).length ∧ ((digR (x :: q)).length : Int) ≤ (digR (x :: q)).length) = true := decide_eq_true (by rw [digR_len]; simp only [List.length_cons]; omega)
        cases u with
        | true =>
          rw [checkF_t] at h1 h2
          refine BIf.t rfl ⟨_, _, _, rfl, rfl, BIf.t (by rw [hc]; rfl) ?_⟩
          rw [rest1_eq]
          exact rangeCk r ls q (pairS x s) h1 h2
        | false =>
          rw [checkF_g] at h1 h2
          refine BIf.f rfl ⟨_, _, _, rfl, rfl, BIf.t (by rw [hc]; rfl) ?_⟩
          rw [rest1_eq]
          exact rangeCk r ls q (pairS s x) h1 h2
theorem ckRes1 (r n i : Int) (p q : List (List Dv)) : resAs Tryd.prog (ckH2 q) (tmCa r n i p q) Tryd.f71.results.toList = some [.d (bo false)] := by kernel_rfl
theorem ckRes2 (r s : Int) (z : Bool) (q : List (List Dv)) : resAs Tryd.prog (ckH q z s) (lowTm 3 (tmCc r)) Tryd.f71.results.toList = some [.d (bo z)] := by kernel_rfl
theorem ckRes3 (s : Int) (z : Bool) (q : List (List Dv)) : resAs Tryd.prog (ckH q z s) (List.replicate 10 .bad ++ [.ptr 1 0] ++ List.replicate 58 .bad) Tryd.f71.results.toList = some [.d (bo z)] := by kernel_rfl
theorem pcCheck (r n i : Int) (p q : List Int) : PCall Tryd.prog 71 [.d (u64 r), .d (i64 n), .d (i64 i), .d (.sl 1 (bytesR p)), .d (.sl 1 (digR q))] (.d (bo (checkS r n i p q))) := by
  refine PCall.ofW0 (x0 := bo (checkS r n i p q)) (c := code Tryd.f71) Tryd.func71 rfl rfl rfl fun Ev b => ?_
  have hfin : ∀ {tm : List AV} {hp : List Blk} {b' : Ev.β} (z : Bool), resAs Tryd.prog hp tm Tryd.f71.results.toList = some [.d (bo z)] → z = checkS r n i p q → FnPost Tryd.prog Tryd.f71 (fun y hp _ => y = .d (bo (checkS r n i p q)) ∧ AV.d (bo (checkS r n i p q)) = .d (bo (checkS r n i p q))) .ret (⟨tm, hp, b'⟩ : St Ev.β) := by
    rintro tm hp b' z h rfl; exact ⟨.inl rfl, _, h, rfl, rfl⟩
  rw [f71_shape]
  refine W0.seq (W0.of (wpc_sound mixed (CX.Ok.of (u := false) CallsOk.nil SCallsOk.nil) (n := 100) (K := thenK (fun tm hp b' => tm = tmCa r n i (bytesR p) (digR q) ∧ hp = ckH2 (digR q)) fun _ _ _ _ => False) ?_ ?_))
  · rw [ck_a]; exact ⟨rfl, rfl⟩
  intro e tm hp b' h
  cases e <;> first | exact h.elim | skip
  obtain ⟨rfl, rfl⟩ := h
  refine W0.seq (W0.of (W.castPost (wpc_sound mixed (CX.Ok.of (u := false) CallsOk.nil SCallsOk.nil) (n := 100) (K := maskT [0, 1, 2, 3, 4, 9, 10] fun e tm hp b' => tm = tmCa r n i (bytesR p) (digR q) ∧ hp = ckH2 (digR q) ∧
    ((e = .normal ∧ 1 ≤ n ∧ n ≤ 16 ∧ 0 ≤ i ∧ i < n ∧ p.length ≤ 256 ∧ checkS r n i p q = topS r (checkF (walkS n.toNat i.toNat) q (leafS p))) ∨ (e = .ret ∧ false = checkS r n i p q))) ?_ ?_)))
  · rw [ck_b, bytesR_len]
    refine BIf.of (fun g => ⟨rfl, rfl, .inr ⟨rfl, by rw [checkS, g]; rfl⟩⟩) fun g1 => BIf.of (fun g => ⟨rfl, rfl, .inr ⟨rfl, by rw [checkS, g1, g]; rfl⟩⟩) fun g2 => BIf.of (fun g => ⟨rfl, rfl, .inr ⟨rfl, by rw [checkS, g1, g2, g]; rfl⟩⟩) fun g3 =>
      BIf.of (fun g => ⟨rfl, rfl, .inr ⟨rfl, by rw [checkS, g1, g2, g3, g]; rfl⟩⟩) fun g4 => BIf.of (fun g => ⟨rfl, rfl, .inr ⟨rfl, by rw [checkS, g1, g2, g3, g4, g]; rfl⟩⟩) fun g5 => ⟨rfl, rfl, .inl ⟨rfl, ?_⟩⟩
    refine ⟨?_, ?_, ?_, ?_, ?_, by rw [checkS, g1, g2, g3, g4, g5]; rfl⟩
    · simp at g1; omega
    · simp at g2; omega
    · simp at g3; omega
    · simp at g4; omega
    · simp at g5; omega
  intro e tm hp b' h
  refine ⟨_, _, maskTm_le [0, 1, 2, 3, 4, 9, 10] tm 0, LeH.refl _, ?_⟩
  obtain ⟨h1, rfl, h2⟩ := h
  rcases h2 with ⟨rfl, n1, n2, i1, i2, hp, hck⟩ | ⟨rfl, hz⟩
  rotate_left
  · rw [h1]
    exact hfin false (ckRes1 _ _ _ _ _) hz
  show W0 Ev _ _ _
  rw [h1]
  clear h1
  obtain ⟨w, rfl⟩ := Int.eq_ofNat_of_zero_le (show 0 ≤ n by omega)
  obtain ⟨k, rfl⟩ := Int.eq_ofNat_of_zero_le i1
  rw [Int.toNat_natCast, Int.toNat_natCast] at hck
  refine W0.seq (W0.of (W.castPost (wpc_sound mixed (CX.Ok.of (u := false) TLv_ok SCallsOk.nil) (n := 100) (K := maskT [0, 1, 2, 9, 10, 11] (thenK (fun tm hp b' => tm = tmCb r w k ∧ hp = ckH (digR q) false (leafS p)) fun _ _ _ _ => False)) ?_ ?_)))
  · rw [ck_c]; exact ⟨p, _, rfl, ⟨by omega, rfl⟩, rfl, rfl⟩
  intro e tm hp b' h
  refine ⟨_, _, maskTm_le [0, 1, 2, 9, 10, 11] tm 0, LeH.refl _, ?_⟩
  cases e <;> first | exact h.elim | skip
  obtain ⟨h1, rfl⟩ := h
  show W0 Ev _ _ _
  rw [h1]
  clear h1
  refine W0.seq (W0.seq (W0.of (W.castPost (wpc_sound mixed (CX.Ok.of (u := false) TLv_ok SCk_ok) (n := 100) (K := maskT [0, 9, 10, 11, 41] (thenK (fun tm hp b' => tm = tmCc r ∧ hp = ckH (digR q) false (leafS p) ++ [cellN w, cellN k]) fun _ _ _ _ => False)) ?_ ?_))))
  · rw [ck_d]; exact ⟨_, _, rfl, rfl, rfl⟩
  intro e tm hp b' h
  refine ⟨_, _, maskTm_le [0, 9, 10, 11, 41] tm 0, LeH.refl _, ?_⟩
  cases e <;> first | exact h.elim | skip
  obtain ⟨h1, rfl⟩ := h
  show W0 Ev _ _ _
  rw [h1]
  clear h1
  refine W0.block ?_
  rw [rfCk_shape]
  refine W0.ranges (hp0 := ckH (digR q) false (leafS p)) (lent := [cellN w, cellN k]) rfl ?_ rfl ?_ rfl (ic92 w k (by omega) (by omega)) ?_
  · intro q hq; simp at hq; rcases hq with rfl | rfl <;> rfl
  · intro q hq; simp at hq; rcases hq with rfl | rfl <;> exact ⟨rfl, rfl⟩
  refine rangeCk r (walkS w k) q (leafS p) (fun q' s' hc => ?_) fun hc q' s' => ?_
  · show W0 Ev _ _ _
    refine W0.of (W.castPost (wpc_sound mixed (CX.Ok.of (u := false) CallsOk.nil SCallsOk.nil) (n := 100) (K := maskT [10] fun e tm hp b' => e = .ret ∧ tm = List.replicate 10 .bad ++ [.ptr 1 0] ++ List.replicate 58 .bad ∧ hp = ckH (digR q') (topS r (some (q', s'))) s') ?_ ?_))
    · rw [ck_e, digR_len]
      refine BIf.of (fun g => ⟨rfl, rfl, ?_⟩) fun g => ⟨rfl, rfl, ?_⟩
      · have : q' = [] := by simpa using g
        subst this; rfl
      · cases q' with
        | nil => simp at g
        | cons => rfl
    intro e tm hp b' h
    refine ⟨_, _, maskTm_le [10] tm 0, LeH.refl _, ?_⟩
    obtain ⟨rfl, h1, rfl⟩ := h
    rw [h1]
    exact hfin _ (ckRes3 _ _ _) (by rw [hck, hc])
  · exact hfin false (ckRes2 _ _ _ _) (by rw [hck, hc]; rfl)
def cCheck (args : List AV) (K : AV → Prop) : Prop := ∃ (r n i : Int) (p q : List Int) (z : Bool), args = [.d (u64 r), .d (i64 n), .d (i64 i), .d (.sl 1 (bytesR p)), .d (.sl 1 (digR q))] ∧ z = checkS r n i p q ∧ K (.d (bo z))
theorem cCheck_ok : ∀ args K, cCheck args K → ∃ x, PCall Tryd.prog 71 args x ∧ K x := by
  rintro _ K ⟨r, n, i, p, q, _, rfl, rfl, h⟩; exact ⟨_, pcCheck r n i p q, h⟩
end Go.Proofs.YtfeemohdpmdaoaaDoor.Am

namespace Go.Proofs.YtfeemohdpmdaoaaDoor.Am
set_option linter.unusedVariables false
open Go Go.RowKit Go.Proofs

/-! ### package image: sized, count, announced -/
noncomputable def rfSp : Code := sub [1, 1, 1, 0, 1, 2] (code Tryd.f13)
theorem rfSp_shape : rfSp = .rangeFunc (.tmp 12) #[13] (assignOf rfSp) (bodyOf rfSp) := by kernel_rfl
def tmSp (ps : List (List Dv)) : List AV := [.bad, .bad, .bad, .bad, .ptr 0 0] ++ List.replicate 7 .bad ++ [.fn (.func 57) [] [.rptr [.sl 1 ps], .rptr [i64 256]]] ++ List.replicate 10 .bad
def sizedS (n : Int) : Bool := decide (n ≥ 1) && decide (n ≤ 4096)
def countS (n : Int) : Int := IntKind.wrap IntKind.i64 (Int.tdiv (IntKind.wrap IntKind.i64 (IntKind.wrap IntKind.i64 (n + (256 : Int)) - (1 : Int))) (256 : Int))
section
variable {β : Type} (wl : WLT β) (y : YieldT β) (b : β) (R : AV → β → Prop)
theorem sized_nf (n : Int) : wpFn Tryd.prog ⟨[], [], wl, y, false⟩ 100 Tryd.f33 [.d (i64 n)] b R = BIf (decide (n ≥ 1)) (R (.d (bo (decide (n ≤ 4096)))) b) (R (.d (bo false)) b) := by kernel_rfl
theorem count_nf (n : Int) : wpFn Tryd.prog ⟨[], [], wl, y, false⟩ 100 Tryd.f36 [.d (i64 n)] b R = R (.d (i64 (countS n))) b := by kernel_rfl
theorem chunkB_nf (xs : List (List Dv)) : wpFn Tryd.prog ⟨[], [], wl, y, false⟩ 100 Tryd.f34 [.d (.sl 1 xs), .d (i64 256)] b R = R (.fn (.func 57) [] [.rptr [.sl 1 xs], .rptr [i64 256]]) b := by kernel_rfl
end
theorem pcSized (n : Int) : PCall Tryd.prog 33 [.d (i64 n)] (.d (bo (sizedS n))) := by
  refine PCall.ofFn (n := 100) (u := false) mixed CallsOk.nil SCallsOk.nil Tryd.func33 (by rfl) (by rfl) fun Ev bb => ?_
  rw [sized_nf]
  exact BIf.of (fun h => by rw [sizedS, h]; rfl) fun h => by rw [sizedS, h]; rfl
def cSized (args : List AV) (K : AV → Prop) : Prop := ∃ (n : Int) (z : Bool), args = [.d (i64 n)] ∧ z = sizedS n ∧ K (.d (bo z))
theorem cSized_ok : ∀ args K, cSized args K → ∃ x, PCall Tryd.prog 33 args x ∧ K x := by
  rintro _ K ⟨n, _, rfl, rfl, h⟩; exact ⟨_, pcSized n, h⟩
theorem pcCount (n : Int) : PCall Tryd.prog 36 [.d (i64 n)] (.d (i64 (countS n))) := by
  refine PCall.ofFn (n := 100) (u := false) mixed CallsOk.nil SCallsOk.nil Tryd.func36 (by rfl) (by rfl) fun Ev bb => ?_
  rw [count_nf]
def cCount (args : List AV) (K : AV → Prop) : Prop := ∃ (n z : Int), args = [.d (i64 n)] ∧ z = countS n ∧ K (.d (i64 z))
theorem cCount_ok : ∀ args K, cCount args K → ∃ x, PCall Tryd.prog 36 args x ∧ K x := by
  rintro _ K ⟨n, _, rfl, rfl, h⟩; exact ⟨_, pcCount n, h⟩
theorem pcChunkB (xs : List (List Dv)) : PCall Tryd.prog 34 [.d (.sl 1 xs), .d (i64 256)] (.fn (.func 57) [] [.rptr [.sl 1 xs], .rptr [i64 256]]) := by
  refine PCall.ofFn (n := 100) (u := false) mixed CallsOk.nil SCallsOk.nil Tryd.func34 (by rfl) (by rfl) fun Ev bb => ?_
  rw [chunkB_nf]
def cChunkB (args : List AV) (K : AV → Prop) : Prop := ∃ (xs : List (List Dv)), args = [.d (.sl 1 xs), .d (i64 256)] ∧ K (.fn (.func 57) [] [.rptr [.sl 1 xs], .rptr [i64 256]])
theorem cChunkB_ok : ∀ args K, cChunkB args K → ∃ x, PCall Tryd.prog 34 args x ∧ K x := by
  rintro _ K ⟨xs, rfl, h⟩; exact ⟨_, pcChunkB xs, h⟩
def TAn : List (Nat × (List AV → (AV → Prop) → Prop)) := [(33, cSized)]
theorem TAn_ok : CallsOk Tryd.prog TAn := CallsOk.cons cSized_ok CallsOk.nil
/-- an announcement -/
def notA (a n r t : Int) : AV := .agg [.d (i64 a), .d (i64 n), .d (u64 r), .d (i64 t)]
def announcedS (a n t : Int) : Bool := decide (a ≥ 1) && (decide (a ≤ 1000000000) && (sizedS n && (decide (t ≥ 0) && decide (t ≤ 1000000000))))
section
variable {β : Type} (wl : WLT β) (y : YieldT β) (b : β) (R : AV → β → Prop) (K : Exit → List AV → List Blk → β → Prop)
theorem announced_nf (a n r t : Int) : wpFn Tryd.prog ⟨TAn, [], wl, y, false⟩ 100 Tryd.f41 [notA a n r t] b R = (
  BIf (decide (a ≥ 1)) (BIf (decide (a ≤ 1000000000)) (∃ (n0 : Int) (z1 : Bool), [AV.d (i64 n)] = [.d (i64 n0)] ∧ z1 = sizedS n0 ∧ BIf z1 (BIf (decide (t ≥ 0)) (R (.d (bo (decide (t ≤ 1000000000)))) b) (R (.d (bo false)) b)) (R (.d (bo false)) b)) (R (.d (bo false)) b)) (R (.d (bo false)) b)) := by kernel_rfl
end
theorem pcAnnounced (a n r t : Int) : PCall Tryd.prog 41 [notA a n r t] (.d (bo (announcedS a n t))) := by
  refine PCall.ofFn (n := 100) (u := false) mixed TAn_ok SCallsOk.nil Tryd.func41 (by rfl) (by rfl) fun Ev bb => ?_
  rw [announced_nf]
  refine BIf.of (fun h1 => BIf.of (fun h2 => ⟨n, _, rfl, rfl, BIf.of (fun h3 => BIf.of (fun h4 => ?_) fun h4 => ?_) fun h3 => ?_⟩) fun h2 => ?_) fun h1 => ?_
  · rw [announcedS, h1, h2, h3, h4]; rfl
  · rw [announcedS, h1, h2, h3, h4]; rfl
  · rw [announcedS, h1, h2, h3]; rfl
  · rw [announcedS, h1, h2]; rfl
  · rw [announcedS, h1]; rfl
def cAnnounced (args : List AV) (K : AV → Prop) : Prop := ∃ (a n r t : Int) (z : Bool), args = [notA a n r t] ∧ z = announcedS a n t ∧ K (.d (bo z))
theorem cAnnounced_ok : ∀ args K, cAnnounced args K → ∃ x, PCall Tryd.prog 41 args x ∧ K x := by
  rintro _ K ⟨a, n, r, t, _, rfl, rfl, h⟩; exact ⟨_, pcAnnounced a n r t, h⟩
end Go.Proofs.YtfeemohdpmdaoaaDoor.Am

namespace Go.Proofs.YtfeemohdpmdaoaaDoor.Am
set_option linter.unusedVariables false
open Go Go.RowKit Go.Proofs

/-! ### the law's short -/
noncomputable def lpSh : Code := sub [1, 0, 1, 2, 3] (code Tryd.f11)
def tmSh (d ps : List (List Dv)) (n i : Int) : List AV := [.d (.sl 1 d), .d (.sl 1 ps), .bad, .bad, .bad, .bad, .bad, .d (.sl 1 ps), .d (i64 n), .d (i64 i)] ++ List.replicate 15 .bad
section
variable {β : Type} (wl : WLT β) (y : YieldT β) (b : β) (K : Exit → List AV → List Blk → β → Prop)
theorem sh_round (d ps : List (List Dv)) (n i : Int) : wpc Tryd.prog ⟨[], [], wl, y, false⟩ 100 lpSh (tmSh d ps n i) [] b (maskK 0 [0, 1, 4, 7, 8, 9] K) = (
  BIf (decide (i < n)) (BIf (true && decide (0 ≤ i)) (∃ (xs0 : List (List Dv)), ps[Int.toNat i]? = some [Dv.sl 1 xs0] ∧ BIf (decide ((xs0.length : Int) > 1000)) (K .ret ((tmSh d ps n i).set 4 (.d (bo false))) [] b) (K .normal (tmSh d ps n (IntKind.wrap .i64 (i + 1))) [] b)) False)
    (K (.exit 0) (tmSh d ps n i) [] b)) := by kernel_rfl
end
def lowS (ps : List (List Int)) : Bool := ps.all fun p => !decide ((p.length : Int) > 1000)
set_option maxRecDepth 10000 in
theorem wrSh {Ev : Env Tryd.prog} {b : Ev.β} {Q : Exit → St Ev.β → Prop} (d : List (List Dv)) (ps : List (List Int)) (hl : ps.length ≤ 9223372036854775807) : ∀ (rest : List (List Int)) (k : Nat), ps.drop k = rest → k ≤ ps.length →
    (lowS rest = true → ∀ i : Int, Q (.exit 0) ⟨tmSh d (partsR ps) ps.length i, [], b⟩) → (lowS rest = false → ∀ i : Int, Q .ret ⟨(tmSh d (partsR ps) ps.length i).set 4 (.d (bo false)), [], b⟩) →
    WR Ev lpSh (rest.length + 1) ⟨tmSh d (partsR ps) ps.length k, [], b⟩ Q
  | [], k, hd, hk, h1, h2 => by
    refine WR.ofMask [0, 1, 4, 7, 8, 9] mixed (CX.Ok.of (u := false) CallsOk.nil SCallsOk.nil) (k := 100) ?_
    show wpc _ _ _ _ _ _ _ (maskK 0 _ _)
    rw [sh_round]
    have := drop_nil hd
    exact BIf.f (by simp; omega) (h1 rfl _)
  | p :: rest, k, hd, hk, h1, h2 => by
    refine WR.ofMask [0, 1, 4, 7, 8, 9] mixed (CX.Ok.of (u := false) CallsOk.nil SCallsOk.nil) (k := 100) ?_
    show wpc _ _ _ _ _ _ _ (maskK 0 _ _)
    rw [sh_round]
    obtain ⟨hk', hr, hd'⟩ := drop_cons hd
    refine BIf.t (by simp; omega) (BIf.t (by simp) ⟨bytesR p, by simp [partsR, hr], BIf.of (fun hz => ?_) fun hz => ?_⟩)
    · rw [bytesR_len] at hz
      exact h2 (by rw [lowS, List.all_cons, hz]; rfl) _
    · rw [bytesR_len] at hz
      rw [wrap_succ hk' hl]
      have e : lowS (p :: rest) = lowS rest := by rw [lowS, List.all_cons, hz]; rfl
      rw [e] at h1 h2
      exact wrSh d ps hl rest (k + 1) hd' hk' h1 h2
def wlSh {β : Type} : WLT β := fun c tm hp b K => ∃ (d : List (List Dv)) (ps : List (List Int)) (z : Bool), c = .loop lpSh ∧ maskTm [0, 1, 7, 8, 9] 0 tm = tmSh d (partsR ps) (partsR ps).length 0 ∧ hp = [] ∧ (ps.length ≤ 9223372036854775807 ∧ z = lowS ps) ∧
  BIf z (∀ i : Int, K (.exit 0) (tmSh d (partsR ps) (partsR ps).length i) [] b) (∀ i : Int, K .ret ((tmSh d (partsR ps) (partsR ps).length i).set 4 (.d (bo false))) [] b)
theorem wlSh_ok {Ev : Env Tryd.prog} (c : Code) (tm : List AV) (hp : List Blk) (b : Ev.β) (K : Exit → List AV → List Blk → Ev.β → Prop) (h : wlSh c tm hp b K) : W Ev c ⟨tm, hp, b⟩ (fun e s => K e s.tm s.hp s.b) := by
  obtain ⟨d, ps, z, rfl, htm, rfl, ⟨hl, hz⟩, hK⟩ := h
  rw [partsR_len] at htm hK
  refine W.cast (htm ▸ maskTm_le _ tm 0) (LeH.refl _) ?_
  exact W.rounds (wrSh (Q := fun e s => K e s.tm s.hp s.b) d ps hl ps 0 rfl (Nat.zero_le _) (fun h => by rw [hz, h] at hK; exact hK) fun h => by rw [hz, h] at hK; exact hK)
section
variable {β : Type} (y : YieldT β) (b : β) (R : AV → β → Prop)
theorem short_nf (d ps : List (List Dv)) : wpFn Tryd.prog ⟨[], [], wlSh, y, false⟩ 100 Tryd.f11 [.d (.sl 1 d), .d (.sl 1 ps)] b R = (
  ∃ (d1 : List (List Dv)) (ps1 : List (List Int)) (z : Bool), Code.loop lpSh = .loop lpSh ∧ tmSh d ps ps.length 0 = tmSh d1 (partsR ps1) (partsR ps1).length 0 ∧ ([] : List Blk) = [] ∧ (ps1.length ≤ 9223372036854775807 ∧ z = lowS ps1) ∧
    BIf z (∀ _ : Int, BIf (decide ((d1.length : Int) ≤ 4106)) (R (.d (bo (decide (((partsR ps1).length : Int) ≤ 20)))) b) (R (.d (bo false)) b)) (∀ _ : Int, R (.d (bo false)) b)) := by kernel_rfl
end
def shortS (d : List Int) (ps : List (List Int)) : Bool := lowS ps && (decide ((d.length : Int) ≤ 4106) && decide ((ps.length : Int) ≤ 20))
theorem pcShort (d : List Int) (ps : List (List Int)) (hl : ps.length ≤ 9223372036854775807) : PCall Tryd.prog 11 [.d (.sl 1 (bytesR d)), .d (.sl 1 (partsR ps))] (.d (bo (shortS d ps))) := by
  refine PCall.ofFnW (n := 100) (u := false) (fun _ => wlSh) mixed CallsOk.nil SCallsOk.nil (fun Ev => wlSh_ok) Tryd.func11 (by rfl) (by rfl) fun Ev bb => ?_
  rw [short_nf]
  refine ⟨_, ps, _, rfl, rfl, rfl, ⟨hl, rfl⟩, BIf.of (fun h i => BIf.of (fun h1 => ?_) fun h1 => ?_) fun h i => ?_⟩
  · rw [bytesR_len] at h1
    rw [shortS, h, h1, partsR_len]; rfl
  · rw [bytesR_len] at h1
    rw [shortS, h, h1]; rfl
  · rw [shortS, h]; rfl
def cShort (args : List AV) (K : AV → Prop) : Prop := ∃ (d : List Int) (ps : List (List Int)) (z : Bool), args = [.d (.sl 1 (bytesR d)), .d (.sl 1 (partsR ps))] ∧ (ps.length ≤ 9223372036854775807 ∧ z = shortS d ps) ∧ K (.d (bo z))
theorem cShort_ok : ∀ args K, cShort args K → ∃ x, PCall Tryd.prog 11 args x ∧ K x := by
  rintro _ K ⟨d, ps, _, rfl, ⟨hl, rfl⟩, h⟩; exact ⟨_, pcShort d ps hl, h⟩
end Go.Proofs.YtfeemohdpmdaoaaDoor.Am

namespace Go.Proofs.YtfeemohdpmdaoaaDoor.Am
set_option linter.unusedVariables false
open Go Go.RowKit Go.Proofs

/-! ### the reference's Size, Notice, Pages -/
section
variable {β : Type} (wl : WLT β) (y : YieldT β) (b : β) (R : AV → β → Prop)
theorem rSize_nf (n : Int) : wpFn Tryd.prog ⟨[], [], wl, y, false⟩ 100 Tryd.f35 [.d (i64 n)] b R = BIf (decide (n ≥ 1)) (R (.d (bo (decide (n ≤ 4096)))) b) (R (.d (bo false)) b) := by kernel_rfl
end
theorem pcRSize (n : Int) : PCall Tryd.prog 35 [.d (i64 n)] (.d (bo (sizedS n))) := by
  refine PCall.ofFn (n := 100) (u := false) mixed CallsOk.nil SCallsOk.nil Tryd.func35 (by rfl) (by rfl) fun Ev bb => ?_
  rw [rSize_nf]
  exact BIf.of (fun h => by rw [sizedS, h]; rfl) fun h => by rw [sizedS, h]; rfl
def cRSize (args : List AV) (K : AV → Prop) : Prop := ∃ (n : Int) (z : Bool), args = [.d (i64 n)] ∧ z = sizedS n ∧ K (.d (bo z))
theorem cRSize_ok : ∀ args K, cRSize args K → ∃ x, PCall Tryd.prog 35 args x ∧ K x := by
  rintro _ K ⟨n, _, rfl, rfl, h⟩; exact ⟨_, pcRSize n, h⟩
def TRn : List (Nat × (List AV → (AV → Prop) → Prop)) := [(35, cRSize)]
theorem TRn_ok : CallsOk Tryd.prog TRn := CallsOk.cons cRSize_ok CallsOk.nil
section
variable {β : Type} (wl : WLT β) (y : YieldT β) (b : β) (R : AV → β → Prop) (K : Exit → List AV → List Blk → β → Prop)
theorem rNotice_nf (a n r t : Int) : wpFn Tryd.prog ⟨TRn, [], wl, y, false⟩ 100 Tryd.f43 [notA a n r t] b R = (
  BIf (decide (a ≥ 1)) (BIf (decide (a ≤ 1000000000)) (∃ (n0 : Int) (z1 : Bool), [AV.d (i64 n)] = [.d (i64 n0)] ∧ z1 = sizedS n0 ∧ BIf z1 (BIf (decide (t ≥ 0)) (R (.d (bo (decide (t ≤ 1000000000)))) b) (R (.d (bo false)) b)) (R (.d (bo false)) b)) (R (.d (bo false)) b)) (R (.d (bo false)) b)) := by kernel_rfl
end
theorem pcRNotice (a n r t : Int) : PCall Tryd.prog 43 [notA a n r t] (.d (bo (announcedS a n t))) := by
  refine PCall.ofFn (n := 100) (u := false) mixed TRn_ok SCallsOk.nil Tryd.func43 (by rfl) (by rfl) fun Ev bb => ?_
  rw [rNotice_nf]
  refine BIf.of (fun h1 => BIf.of (fun h2 => ⟨n, _, rfl, rfl, BIf.of (fun h3 => BIf.of (fun h4 => ?_) fun h4 => ?_) fun h3 => ?_⟩) fun h2 => ?_) fun h1 => ?_
  · rw [announcedS, h1, h2, h3, h4]; rfl
  · rw [announcedS, h1, h2, h3, h4]; rfl
  · rw [announcedS, h1, h2, h3]; rfl
  · rw [announcedS, h1, h2]; rfl
  · rw [announcedS, h1]; rfl
def cRNotice (args : List AV) (K : AV → Prop) : Prop := ∃ (a n r t : Int) (z : Bool), args = [notA a n r t] ∧ z = announcedS a n t ∧ K (.d (bo z))
theorem cRNotice_ok : ∀ args K, cRNotice args K → ∃ x, PCall Tryd.prog 43 args x ∧ K x := by
  rintro _ K ⟨a, n, r, t, _, rfl, rfl, h⟩; exact ⟨_, pcRNotice a n r t, h⟩
end Go.Proofs.YtfeemohdpmdaoaaDoor.Am

namespace Go.Proofs.YtfeemohdpmdaoaaDoor.Am
set_option linter.unusedVariables false
open Go Go.RowKit Go.Proofs

/-! ### the reference's Pages -/
noncomputable def lpRp : Code := sub [1, 0, 1, 2, 3] (code Tryd.f40)
def tmRp (ps : List (List Dv)) (i : Int) : List AV := [.d (.sl 1 ps), .bad, .bad, .d (i64 i)] ++ List.replicate 12 .bad
section
variable {β : Type} (wl : WLT β) (y : YieldT β) (b : β) (K : Exit → List AV → List Blk → β → Prop)
theorem rp_round (ps : List (List Dv)) (i : Int) : wpc Tryd.prog ⟨[], [], wl, y, false⟩ 100 lpRp (tmRp ps i) [] b (maskK 0 [0, 2, 3] K) = (
  BIf (decide (i < (ps.length : Int))) (BIf (true && decide (0 ≤ i)) (∃ (xs0 : List (List Dv)), ps[Int.toNat i]? = some [Dv.sl 1 xs0] ∧ BIf ((xs0.length : Int) != 256) (K .ret ((tmRp ps i).set 2 (.d (bo false))) [] b) (K .normal (tmRp ps (IntKind.wrap .i64 (i + 1))) [] b)) False)
    (K (.exit 0) (tmRp ps i) [] b)) := by kernel_rfl
end
set_option maxRecDepth 10000 in
theorem wrRp {Ev : Env Tryd.prog} {b : Ev.β} {Q : Exit → St Ev.β → Prop} (ps : List (List Int)) (hl : ps.length ≤ 9223372036854775807) : ∀ (rest : List (List Int)) (k : Nat), ps.drop k = rest → k ≤ ps.length →
    (anyOther rest = false → ∀ i : Int, Q (.exit 0) ⟨tmRp (partsR ps) i, [], b⟩) → (anyOther rest = true → ∀ i : Int, Q .ret ⟨(tmRp (partsR ps) i).set 2 (.d (bo false)), [], b⟩) →
    WR Ev lpRp (rest.length + 1) ⟨tmRp (partsR ps) k, [], b⟩ Q
  | [], k, hd, hk, h1, h2 => by
    refine WR.ofMask [0, 2, 3] mixed (CX.Ok.of (u := false) CallsOk.nil SCallsOk.nil) (k := 100) ?_
    show wpc _ _ _ _ _ _ _ (maskK 0 _ _)
    rw [rp_round, partsR_len]
    have := drop_nil hd
    exact BIf.f (by simp; omega) (h1 rfl _)
  | p :: rest, k, hd, hk, h1, h2 => by
    refine WR.ofMask [0, 2, 3] mixed (CX.Ok.of (u := false) CallsOk.nil SCallsOk.nil) (k := 100) ?_
    show wpc _ _ _ _ _ _ _ (maskK 0 _ _)
    rw [rp_round, partsR_len]
    obtain ⟨hk', hr, hd'⟩ := drop_cons hd
    refine BIf.t (by simp; omega) (BIf.t (by simp) ⟨bytesR p, by simp [partsR, hr], BIf.of (fun hz => ?_) fun hz => ?_⟩)
    · rw [bytesR_len] at hz
      exact h2 (by rw [anyOther, List.any_cons, hz]; rfl) _
    · rw [bytesR_len] at hz
      rw [wrap_succ hk' hl]
      have e : anyOther (p :: rest) = anyOther rest := by rw [anyOther, List.any_cons, hz]; rfl
      rw [e] at h1 h2
      exact wrRp ps hl rest (k + 1) hd' hk' h1 h2
def wlRp {β : Type} : WLT β := fun c tm hp b K => ∃ (ps : List (List Int)) (z : Bool), c = .loop lpRp ∧ maskTm [0, 3] 0 tm = tmRp (partsR ps) 0 ∧ hp = [] ∧ (ps.length ≤ 9223372036854775807 ∧ z = anyOther ps) ∧
  BIf z (∀ i : Int, K .ret ((tmRp (partsR ps) i).set 2 (.d (bo false))) [] b) (∀ i : Int, K (.exit 0) (tmRp (partsR ps) i) [] b)
theorem wlRp_ok {Ev : Env Tryd.prog} (c : Code) (tm : List AV) (hp : List Blk) (b : Ev.β) (K : Exit → List AV → List Blk → Ev.β → Prop) (h : wlRp c tm hp b K) : W Ev c ⟨tm, hp, b⟩ (fun e s => K e s.tm s.hp s.b) := by
  obtain ⟨ps, z, rfl, htm, rfl, ⟨hl, hz⟩, hK⟩ := h
  refine W.cast (htm ▸ maskTm_le _ tm 0) (LeH.refl _) ?_
  exact W.rounds (wrRp (Q := fun e s => K e s.tm s.hp s.b) ps hl ps 0 rfl (Nat.zero_le _) (fun h => by rw [hz, h] at hK; exact hK) fun h => by rw [hz, h] at hK; exact hK)
section
variable {β : Type} (y : YieldT β) (b : β) (R : AV → β → Prop)
theorem rPages_nf (ps : List (List Dv)) : wpFn Tryd.prog ⟨[], [], wlRp, y, false⟩ 100 Tryd.f40 [.d (.sl 1 ps)] b R = (
  ∃ (ps1 : List (List Int)) (z : Bool), Code.loop lpRp = .loop lpRp ∧ tmRp ps 0 = tmRp (partsR ps1) 0 ∧ ([] : List Blk) = [] ∧ (ps1.length ≤ 9223372036854775807 ∧ z = anyOther ps1) ∧
    BIf z (∀ _ : Int, R (.d (bo false)) b) (∀ _ : Int, R (.d (bo true)) b)) := by kernel_rfl
end
theorem pcRPages (ps : List (List Int)) (hl : ps.length ≤ 9223372036854775807) : PCall Tryd.prog 40 [.d (.sl 1 (partsR ps))] (.d (bo (!anyOther ps))) := by
  refine PCall.ofFnW (n := 100) (u := false) (fun _ => wlRp) mixed CallsOk.nil SCallsOk.nil (fun Ev => wlRp_ok) Tryd.func40 (by rfl) (by rfl) fun Ev bb => ?_
  rw [rPages_nf]
  exact ⟨ps, _, rfl, rfl, rfl, ⟨hl, rfl⟩, BIf.of (fun h i => by rw [h]; rfl) fun h i => by rw [h]; rfl⟩
def cRPages (args : List AV) (K : AV → Prop) : Prop := ∃ (ps : List (List Int)) (z : Bool), args = [.d (.sl 1 (partsR ps))] ∧ (ps.length ≤ 9223372036854775807 ∧ z = !anyOther ps) ∧ K (.d (bo z))
theorem cRPages_ok : ∀ args K, cRPages args K → ∃ x, PCall Tryd.prog 40 args x ∧ K x := by
  rintro _ K ⟨ps, _, rfl, ⟨hl, rfl⟩, h⟩; exact ⟨_, pcRPages ps hl, h⟩
end Go.Proofs.YtfeemohdpmdaoaaDoor.Am

namespace Go.Proofs.YtfeemohdpmdaoaaDoor.Am
set_option linter.unusedVariables false
open Go Go.RowKit Go.Proofs

/-! ### the reference's Add, Sum, Pair, Leaf -/
noncomputable def lpRa : Code := sub [1, 0, 1, 2, 3] (code Tryd.f55)
def tmRa (s : Int) (p : List (List Dv)) (i : Int) : List AV := [.d (u64 s), .d (.sl 1 p), .bad, .bad, .bad, .d (i64 i)] ++ List.replicate 15 .bad
section
variable {β : Type} (wl : WLT β) (y : YieldT β) (b : β) (R : AV → β → Prop) (K : Exit → List AV → List Blk → β → Prop)
theorem ra_round (s : Int) (p : List (List Dv)) (i : Int) : wpc Tryd.prog ⟨[], [], wl, y, false⟩ 100 lpRa (tmRa s p i) [] b (maskK 0 [0, 1, 5] K) = (
  BIf (decide (i < (p.length : Int))) (BIf (true && decide (0 ≤ i)) (∃ (x0 : Int), p[Int.toNat i]? = some [u8 x0] ∧ K .normal (tmRa (stepS s (IntKind.wrap .u64 x0)) p (IntKind.wrap .i64 (i + 1))) [] b) False) (K (.exit 0) (tmRa s p i) [] b)) := by kernel_rfl
theorem rPair_nf (s w : Int) : wpFn Tryd.prog ⟨[], [], wl, y, false⟩ 100 Tryd.f74 [.d (u64 s), .d (u64 w)] b R = R (.d (u64 (pairS s w))) b := by kernel_rfl
end
theorem pcRPair (a c : Int) : PCall Tryd.prog 74 [.d (u64 a), .d (u64 c)] (.d (u64 (pairS a c))) := by
  refine PCall.ofFn (n := 100) (u := false) mixed CallsOk.nil SCallsOk.nil Tryd.func74 (by rfl) (by rfl) fun Ev bb => ?_
  rw [rPair_nf]
def cRPair (args : List AV) (K : AV → Prop) : Prop := ∃ (a c z : Int), args = [.d (u64 a), .d (u64 c)] ∧ z = pairS a c ∧ K (.d (u64 z))
theorem cRPair_ok : ∀ args K, cRPair args K → ∃ x, PCall Tryd.prog 74 args x ∧ K x := by
  rintro _ K ⟨a, c, _, rfl, rfl, h⟩; exact ⟨_, pcRPair a c, h⟩
set_option maxRecDepth 10000 in
theorem wrRa {Ev : Env Tryd.prog} {b : Ev.β} {Q : Exit → St Ev.β → Prop} (p : List Int) (hl : p.length ≤ 9223372036854775807) : ∀ (rest : List Int) (k : Nat) (s : Int), p.drop k = rest → k ≤ p.length →
    (∀ i : Int, Q (.exit 0) ⟨tmRa (addB s rest) (bytesR p) i, [], b⟩) → WR Ev lpRa (rest.length + 1) ⟨tmRa s (bytesR p) k, [], b⟩ Q
  | [], k, s, hd, hk, h => by
    refine WR.ofMask [0, 1, 5] mixed (CX.Ok.of (u := false) CallsOk.nil SCallsOk.nil) (k := 100) ?_
    show wpc _ _ _ _ _ _ _ (maskK 0 _ _)
    rw [ra_round, bytesR_len]
    have := drop_nil hd
    exact BIf.f (by simp; omega) (h _)
  | z :: rest, k, s, hd, hk, h => by
    refine WR.ofMask [0, 1, 5] mixed (CX.Ok.of (u := false) CallsOk.nil SCallsOk.nil) (k := 100) ?_
    show wpc _ _ _ _ _ _ _ (maskK 0 _ _)
    rw [ra_round, bytesR_len]
    obtain ⟨hk', hr, hd'⟩ := drop_cons hd
    refine BIf.t (by simp; omega) (BIf.t (by simp) ⟨z, by simp [bytesR, hr], ?_⟩)
    rw [wrap_succ hk' hl]
    rw [show addB s (z :: rest) = addB (stepS s (IntKind.wrap .u64 z)) rest from List.foldl_cons ..] at h
    exact wrRa p hl rest (k + 1) _ hd' hk' h
def wlRa {β : Type} : WLT β := fun c tm hp b K => ∃ (s : Int) (p : List Int) (z : Int), c = .loop lpRa ∧ maskTm [0, 1, 5] 0 tm = tmRa s (bytesR p) 0 ∧ hp = [] ∧ (p.length ≤ 9223372036854775807 ∧ z = addB s p) ∧ ∀ i : Int, K (.exit 0) (tmRa z (bytesR p) i) [] b
theorem wlRa_ok {Ev : Env Tryd.prog} (c : Code) (tm : List AV) (hp : List Blk) (b : Ev.β) (K : Exit → List AV → List Blk → Ev.β → Prop) (h : wlRa c tm hp b K) : W Ev c ⟨tm, hp, b⟩ (fun e s => K e s.tm s.hp s.b) := by
  obtain ⟨s, p, z, rfl, htm, rfl, ⟨hl, rfl⟩, hK⟩ := h
  refine W.cast (htm ▸ maskTm_le _ tm 0) (LeH.refl _) ?_
  exact W.rounds (wrRa (Q := fun e s => K e s.tm s.hp s.b) p hl p 0 s rfl (Nat.zero_le _) hK)
section
variable {β : Type} (y : YieldT β) (b : β) (R : AV → β → Prop)
theorem rAdd_nf (s : Int) (p : List (List Dv)) : wpFn Tryd.prog ⟨[], [], wlRa, y, false⟩ 100 Tryd.f55 [.d (u64 s), .d (.sl 1 p)] b R = (
  ∃ (s1 : Int) (p1 : List Int) (z : Int), Code.loop lpRa = .loop lpRa ∧ tmRa s p 0 = tmRa s1 (bytesR p1) 0 ∧ ([] : List Blk) = [] ∧ (p1.length ≤ 9223372036854775807 ∧ z = addB s1 p1) ∧ ∀ _ : Int, R (.d (u64 z)) b) := by kernel_rfl
end
theorem pcRAdd (s : Int) (p : List Int) (hl : p.length ≤ 9223372036854775807) : PCall Tryd.prog 55 [.d (u64 s), .d (.sl 1 (bytesR p))] (.d (u64 (addB s p))) := by
  refine PCall.ofFnW (n := 100) (u := false) (fun _ => wlRa) mixed CallsOk.nil SCallsOk.nil (fun Ev => wlRa_ok) Tryd.func55 (by rfl) (by rfl) fun Ev bb => ?_
  rw [rAdd_nf]
  exact ⟨s, p, _, rfl, rfl, rfl, ⟨hl, rfl⟩, fun _ => rfl⟩
def cRAdd (args : List AV) (K : AV → Prop) : Prop := ∃ (s : Int) (p : List Int) (z : Int), args = [.d (u64 s), .d (.sl 1 (bytesR p))] ∧ (p.length ≤ 9223372036854775807 ∧ z = addB s p) ∧ K (.d (u64 z))
theorem cRAdd_ok : ∀ args K, cRAdd args K → ∃ x, PCall Tryd.prog 55 args x ∧ K x := by
  rintro _ K ⟨s, p, _, rfl, ⟨hl, rfl⟩, h⟩; exact ⟨_, pcRAdd s p hl, h⟩
def TRs : List (Nat × (List AV → (AV → Prop) → Prop)) := [(55, cRAdd)]
theorem TRs_ok : CallsOk Tryd.prog TRs := CallsOk.cons cRAdd_ok CallsOk.nil
end Go.Proofs.YtfeemohdpmdaoaaDoor.Am

namespace Go.Proofs.YtfeemohdpmdaoaaDoor.Am
set_option linter.unusedVariables false
open Go Go.RowKit Go.Proofs

section
variable {β : Type} (wl : WLT β) (y : YieldT β) (b : β) (R : AV → β → Prop)
theorem rSum_nf (p : List (List Dv)) : wpFn Tryd.prog ⟨TRs, [], wl, y, false⟩ 100 Tryd.f56 [.d (.sl 1 p)] b R = (
  ∃ (s0 : Int) (p1 : List Int) (z2 : Int), [AV.d (u64 basisS), .d (.sl 1 p)] = [.d (u64 s0), .d (.sl 1 (bytesR p1))] ∧ (p1.length ≤ 9223372036854775807 ∧ z2 = addB s0 p1) ∧ R (.d (u64 z2)) b) := by kernel_rfl
end
theorem pcRSum (p : List Int) (hl : p.length ≤ 9223372036854775807) : PCall Tryd.prog 56 [.full 1 (bytesR p)] (.d (u64 (addB basisS p))) := by
  refine PCall.leArgsV (.cons .full .nil) ?_
  refine PCall.ofFn (n := 100) (u := false) mixed TRs_ok SCallsOk.nil Tryd.func56 (by rfl) (by rfl) fun Ev bb => ?_
  rw [rSum_nf]
  exact ⟨_, p, _, rfl, ⟨hl, rfl⟩, rfl⟩
def cRSum (args : List AV) (K : AV → Prop) : Prop := ∃ (p : List Int) (z : Int), args = [.full 1 (bytesR p)] ∧ (p.length ≤ 9223372036854775807 ∧ z = addB basisS p) ∧ K (.d (u64 z))
theorem cRSum_ok : ∀ args K, cRSum args K → ∃ x, PCall Tryd.prog 56 args x ∧ K x := by
  rintro _ K ⟨p, _, rfl, ⟨hl, rfl⟩, h⟩; exact ⟨_, pcRSum p hl, h⟩
def TRl : List (Nat × (List AV → (AV → Prop) → Prop)) := [(55, cRAdd), (56, cRSum)]
theorem TRl_ok : CallsOk Tryd.prog TRl := CallsOk.cons cRAdd_ok (CallsOk.cons cRSum_ok CallsOk.nil)
end Go.Proofs.YtfeemohdpmdaoaaDoor.Am
