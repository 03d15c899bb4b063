import Derived.Test.YtgdeoaiakdkhcaaSvC
namespace Go.Proofs.Ytgdeoaiakdkhcaa.Am
set_option linter.unusedVariables false
open Go Go.RowKit Go.Proofs

def and64 (a b : Int) : Int := IntKind.wrap .i64 ((BitVec.ofInt 64 a &&& BitVec.ofInt 64 b).toNat : Nat)
def or64 (a b : Int) : Int := IntKind.wrap .i64 ((BitVec.ofInt 64 a ||| BitVec.ofInt 64 b).toNat : Nat)
def xor64 (a b : Int) : Int := IntKind.wrap .i64 ((BitVec.ofInt 64 a ^^^ BitVec.ofInt 64 b).toNat : Nat)
def bq (m : Int) (p : List Int) : Blk := ⟨.d (i64 m) :: cells16 p, false, false, 0⟩
abbrev okMask (r : Row) : Prop := 1 ≤ r.1 ∧ r.1 < 65536

/-! ### reduce -/
def red (x : Row) (r : Row) : Row := if and64 x.1 (lead r.1) != 0 then (xor64 x.1 r.1, xorL x.2 (pad r.2)) else x

noncomputable def rf29 : Code := sub [1, 0, 1, 2] (code Try.f29)
theorem rf29_shape : rf29 = .rangeFunc (.tmp 7) #[8, 9] (assignOf rf29) (bodyOf rf29) := by kernel_rfl
def tm29 (xs : List (List Dv)) : List AV := [.bad, .bad, .bad, .ptr 0 0, .ptr 1 0, .bad, .bad, .fn (.func 38) [] [.rptr [.sl 2 xs]]] ++ List.replicate 20 .bad
abbrev T29 : List (Nat × (List AV → (AV → Prop) → Prop)) := [(30, c30), (32, c32), (33, c33)]
theorem T29_ok : CallsOk Try.prog T29 := CallsOk.cons c30_ok (CallsOk.cons c32_ok (CallsOk.cons c33_ok CallsOk.nil))

/-- what the range comes to -/
def wl29 {β : Type} : WLT β := fun c tm hp b K => ∃ (l : List Row) (x : Row), c = rf29 ∧ maskTm [3, 4, 7] 0 tm = tm29 (rowsR l) ∧ hp = [bq x.1 x.2, bq 0 []] ∧ ((∀ r ∈ l, okMask r) ∧ l.length ≤ 9223372036854775807) ∧
  K .normal (tm29 (rowsR l)) [bq (l.foldl red x).1 (l.foldl red x).2, bq 0 []] b

section
variable {β : Type} (wl : WLT β) (y : YieldT β) (b : β) (R : AV → β → Prop) (K : Exit → List AV → List Blk → β → Prop) (Kh : Exit → List Blk → β → Prop)
theorem f29_round (xs : List (List Dv)) (m m0 : Int) (p p0 : List Int) (f : Bool) : wpcY Try.prog ⟨T29, [], wl, y, false⟩ 100 #[8, 9] (assignOf rf29) (bodyOf rf29) (tm29 xs) [eqA m p, .d (bo f)] [bq m0 p0, bq 0 []] b (takeK 2 Kh) =
    (∃ m1 p1, [eqA m p] = [eqA m1 p1] ∧ (1 ≤ m1 ∧ m1 < 65536) ∧ BIf (and64 m0 (lead m1) != 0)
      (∃ p2 q3 r4, [AV.agg (cells16 p0), .agg (cells16 p)] = [.agg (cells16 p2), .agg (cells16 q3)] ∧ r4 = xorL p2 q3 ∧ Kh .normal [bq (xor64 m0 m) r4, bq 0 []] b) (Kh .normal [bq m0 p0, bq 0 []] b)) := by kernel_rfl
theorem f29_nf (xs : List (List Dv)) (m : Int) (p : List Int) : wpFn Try.prog ⟨T29, [], wl29, y, false⟩ 100 Try.f29 [.d (.sl 2 xs), eqA m p] b R =
    (∃ xs0, [AV.d (.sl 2 xs)] = [AV.d (.sl 2 xs0)] ∧ ∃ (l : List Row) (x : Row), rf29 = rf29 ∧ tm29 xs0 = tm29 (rowsR l) ∧ [bq m p, bq 0 []] = [bq x.1 x.2, bq 0 []] ∧ ((∀ r ∈ l, okMask r) ∧ l.length ≤ 9223372036854775807) ∧
      R (eqA (l.foldl red x).1 (l.foldl red x).2) b) := by kernel_rfl
end

theorem range29 {Ev : Env Try.prog} {b : Ev.β} {Q : Exit → St Ev.β → Prop} (xs : List (List Dv)) : ∀ (l : List Row) (x : Row), (∀ r ∈ l, okMask r) → Q .normal ⟨tm29 xs, [bq (l.foldl red x).1 (l.foldl red x).2, bq 0 []], b⟩ →
    YList (YBody Ev (tm29 xs) #[8, 9] (assignOf rf29) (bodyOf rf29) 2) (l.map item) ([bq x.1 x.2, bq 0 []], b, none) (rangeQ (tm29 xs) Q)
  | [], x, _, h => h
  | r :: l, x, hok, h => by
    refine YList.step (X := ⟨T29, [], wlW Ev, Ev.Y, false⟩) (k := 100) mixed (CX.Ok.of T29_ok SCallsOk.nil) rfl ?_
    show wpcY _ _ _ _ _ _ _ [eqA _ _, .d (bo _)] [bq _ _, bq 0 []] b (takeK 2 _)
    rw [f29_round]
    refine ⟨r.1, pad r.2, rfl, hok r (List.mem_cons_self ..), BIf.of (fun hc => ⟨x.2, pad r.2, _, rfl, rfl, ?_⟩) fun hc => ?_⟩
    · refine range29 xs l (xor64 x.1 r.1, xorL x.2 (pad r.2)) (fun r' hr => hok r' (List.mem_cons_of_mem _ hr)) ?_
      have : red x r = (xor64 x.1 r.1, xorL x.2 (pad r.2)) := by unfold red; rw [if_pos hc]
      rw [List.foldl_cons, this] at h; exact h
    · refine range29 xs l x (fun r' hr => hok r' (List.mem_cons_of_mem _ hr)) ?_
      have : red x r = x := by unfold red; rw [if_neg (by simp [hc])]
      rw [List.foldl_cons, this] at h; exact h

theorem wl29_ok {Ev : Env Try.prog} (c : Code) (tm : List AV) (hp : List Blk) (b : Ev.β) (K : Exit → List AV → List Blk → Ev.β → Prop) (h : wl29 c tm hp b K) : W Ev c ⟨tm, hp, b⟩ (fun e s => K e s.tm s.hp s.b) := by
  obtain ⟨l, x, rfl, htm, rfl, hpre, hK⟩ := h
  refine W.cast (htm ▸ maskTm_le [3, 4, 7] tm 0) (LeH.refl _) ?_
  rw [rf29_shape]
  exact W.range (s := ⟨tm29 (rowsR l), _, b⟩) (k := 38) (first := []) (caps := [.rptr [.sl 2 (rowsR l)]]) rfl rfl rfl (ic38 l hpre.2) (range29 (rowsR l) l x hpre.1 hK)

theorem pc29 (l : List Row) (m : Int) (p : List Int) (h1 : ∀ r ∈ l, okMask r) (h2 : l.length ≤ 9223372036854775807) : PCall Try.prog 29 [.d (.sl 2 (rowsR l)), eqA m p] (eqA (l.foldl red (m, p)).1 (l.foldl red (m, p)).2) := by
  refine PCall.ofFnW (n := 100) (u := false) (fun _ => wl29) mixed T29_ok SCallsOk.nil (fun Ev => wl29_ok) Try.func29 (by rfl) (by rfl) fun Ev bb => ?_
  rw [f29_nf]
  exact ⟨_, rfl, l, (m, p), rfl, rfl, rfl, ⟨h1, h2⟩, rfl⟩
def c29 (args : List AV) (K : AV → Prop) : Prop := ∃ (l : List Row) (m : Int) (p : List Int) (x : Row), args = [.d (.sl 2 (rowsR l)), eqA m p] ∧ ((∀ r ∈ l, okMask r) ∧ l.length ≤ 9223372036854775807) ∧ x = l.foldl red (m, p) ∧ K (eqA x.1 x.2)
theorem c29_ok : ∀ args K, c29 args K → ∃ x, PCall Try.prog 29 args x ∧ K x := by
  rintro _ K ⟨l, m, p, _, rfl, ⟨h1, h2⟩, rfl, h⟩; exact ⟨_, pc29 l m p h1 h2, h⟩

end Go.Proofs.Ytgdeoaiakdkhcaa.Am
