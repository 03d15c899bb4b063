/- Runs: code that is walked by computation. -/
import Derived.Test.YtgdeoaiakdkhcaaAmV
namespace Go.Proofs.Ytgdeoaiakdkhcaa.Am
set_option linter.unusedVariables false
open Go Go.RowKit

/-- how many of a drawn region's operations are taken as pure -/
def findK (ops : Array Oper) : Nat → Option Nat
  | 0 => if drawOk ops 0 then some 0 else none
  | k + 1 => if drawOk ops (k + 1) then some (k + 1) else findK ops k

def leadPure : List Oper → Nat
  | [] => 0
  | o :: l => if pureKind o then leadPure l + 1 else 0

def runRegion (P : Program) (call : CallT) (ops : Array Oper) (draw : Bool) (tm : List AV) (hp : List Blk) : Option (List AV × List Blk) :=
  if draw then match findK ops (leadPure ops.toList) with
    | some k => if k ≤ ops.size then match xPre P call ops hp (ops.toList.take k) tm with
      | some tmK => (xOps P call ops (ops.toList.drop k) ⟨tmK, hp, pvAll P hp tmK (ops.toList.take k)⟩).map fun s => (s.tm, s.hp)
      | none => none
      else none
    | none => none
  else (xOps P call ops ops.toList ⟨tm, hp, []⟩).map fun s => (s.tm, s.hp)

def run (P : Program) (call : CallT) : Nat → Code → List AV → List Blk → Option (Exit × List AV × List Blk)
  | 0, _, _, _ => none
  | n + 1, .skip, tm, hp => some (.normal, tm, hp)
  | n + 1, .label _, tm, hp => some (.normal, tm, hp)
  | n + 1, .exit id, tm, hp => some (.exit id, tm, hp)
  | n + 1, .goto l, tm, hp => some (.goto l, tm, hp)
  | n + 1, .ret, tm, hp => some (.ret, tm, hp)
  | n + 1, .region _ ops d, tm, hp => match runRegion P call ops d tm hp with
    | some (tm', hp') => some (.normal, tm', hp')
    | none => none
  | n + 1, .seq x y, tm, hp => match run P call n x tm hp with
    | some (.normal, tm', hp') => run P call n y tm' hp'
    | r => r
  | n + 1, .cond x c c', tm, hp => match evalA tm x with
    | .d (.s (.bool true)) => run P call n c tm hp
    | .d (.s (.bool false)) => run P call n c' tm hp
    | _ => none
  | n + 1, .block id c, tm, hp => match run P call n c tm hp with
    | some (.exit id', tm', hp') => if id' = id then some (.normal, tm', hp') else some (.exit id', tm', hp')
    | r => r
  | n + 1, .loop c, tm, hp => match run P call n c tm hp with
    | some (.normal, tm', hp') => run P call n (.loop c) tm' hp'
    | r => r
  | _, _, _, _ => none

/-- a function, run -/
def runFn (P : Program) (call : CallT) (n : Nat) (fn : Func) (args : List AV) : Option AV :=
  match fn.body with
  | some c => match run P call n c (startTm fn args) [] with
    | some (.ret, tm, hp) | some (.normal, tm, hp) => match resAs P hp tm fn.results.toList with
      | some ys => sealV hp (resV ys)
      | none => none
    | _ => none
  | none => none

section
variable {P : Program} {S S' S'' X X' V V' Z : Pr} {L : Nat → Prop} {r : Option Nat} {lo : Nat} {yv : Option Nat} {w w' w'' : World} {m m' m'' : List MB} {A B : List (AV × Value)} {hp hp' : List Blk} {tm tm' : List AV} {hv hv' : List (List Value)} {call : CallT} {a a' : Act} {o : Oper} {ops : Array Oper} {Ev : Env P}
  {s : St Ev.β} {b : Ev.β} {Q Q' : Exit → St Ev.β → Prop} {c c' : Code}

theorem findK_spec : ∀ {n k : Nat}, findK ops n = some k → drawOk ops k = true
  | 0, k, h => by
    simp only [findK] at h
    split at h <;> try (cases h; done)
    rename_i h1; cases h; exact h1
  | n + 1, k, h => by
    simp only [findK] at h
    split at h
    · rename_i h1; cases h; exact h1
    · exact findK_spec h

theorem xh_noCall {t : RS} (hno : opCall t.tm o = none) : xh P call t o = xh P noCall t o := by
  unfold xh
  split <;> first | rfl | skip
  rename_i c ho
  cases hc : c.callee with
  | value f => simp [opCall, ho, hc] at hno; simp [hno]
  | builtin bb => cases bb <;> rfl
  | invoke => rfl

/-- a table of calls serves the logic -/
theorem wOps_of_xOps (hcall : CallOk P call) {R : RS → Ev.β → Prop} {s' : RS} : ∀ {l : List Oper} {t : RS}, xOps P call ops l t = some s' → R s' b → wOps Ev ops l t b R
  | [], t, hx, hR => by simp only [xOps, Option.some.injEq] at hx; subst hx; exact hR
  | o :: l, t, hx, hR => by
    simp only [xOps] at hx
    split at hx <;> try (cases hx; done)
    rename_i t1 h1
    have ih := wOps_of_xOps (t := t1) hcall hx hR
    simp only [wOps]
    cases hoc : opCall t.tm o with
    | none =>
      refine .inl ⟨t1, ?_, ih⟩
      rw [← h1]
      unfold xStep
      rw [xh_noCall (call := call) hoc]
    | some ka =>
      obtain ⟨k, args⟩ := ka
      have hxa := opCall_xa (P := P) hoc
      cases hw : wantedA ops o t.tm with
      | none => simp [xStep, hw] at h1
      | some bw =>
        cases bw with
        | false =>
          refine .inl ⟨t1, ?_, ih⟩
          rw [← h1]
          simp [xStep, hw]
        | true =>
          refine .inr (.inl ⟨rfl, k, args, rfl, ?_⟩)
          have hoc' := hoc
          unfold opCall at hoc'
          split at hoc' <;> try (cases hoc'; done)
          rename_i c ho
          split at hoc' <;> try (cases hoc'; done)
          rename_i f hc
          have hxq : xq P t.hp (evalA t.tm) o = none := by simp [xq, ho, hc]
          simp only [xStep, hw, hxa, hxq] at h1
          have hxh : xh P call t o = some t1 := by
            cases hh : xh P call t o with
            | none => simp [hh] at h1
            | some t2 => simp [hh] at h1; rw [h1]
          unfold xh at hxh
          simp only [ho, hc, hoc'] at hxh
          split at hxh
          · rename_i x hx'
            cases hxh
            split at hx' <;> try (cases hx'; done)
            rename_i hcl
            exact .inl ⟨hcl, x, hcall.p _ _ _ _ hx', ih⟩
          · split at hxh <;> try (cases hxh; done)
            rename_i x hp' hs
            cases hxh
            exact .inr ⟨x, hp', hcall.s _ _ _ _ _ hs, ih⟩

theorem runRegion_sound {id : Nat} {d : Bool} (hm : P.follows .mixedOrders = true) (hcall : CallOk P call) (h : runRegion P call ops d tm hp = some (tm', hp')) (hq : Q .normal ⟨tm', hp', b⟩) : W Ev (.region id ops d) ⟨tm, hp, b⟩ Q := by
  unfold runRegion at h
  cases d with
  | true =>
    simp only [if_true] at h
    split at h <;> try (cases h; done)
    rename_i k hk
    split at h <;> try (cases h; done)
    rename_i hks
    split at h <;> try (cases h; done)
    rename_i tmK hpre
    simp only [Option.map_eq_some_iff, Prod.mk.injEq] at h
    obtain ⟨s', hx, rfl, rfl⟩ := h
    exact W.draw (s := ⟨tm, hp, b⟩) k call hm hcall (findK_spec hk) hks hpre (wOps_of_xOps hcall hx hq)
  | false =>
    simp only [Bool.false_eq_true, if_false, Option.map_eq_some_iff, Prod.mk.injEq] at h
    obtain ⟨s', hx, rfl, rfl⟩ := h
    exact W.region (s := ⟨tm, hp, b⟩) (wOps_of_xOps hcall hx hq)

theorem run_both (hm : P.follows .mixedOrders = true) (hcall : CallOk P call) : ∀ n : Nat,
    (∀ (c : Code) (tm : List AV) (hp : List Blk) (e : Exit) (tm' : List AV) (hp' : List Blk) (Q : Exit → St Ev.β → Prop), run P call n c tm hp = some (e, tm', hp') → Q e ⟨tm', hp', b⟩ → W Ev c ⟨tm, hp, b⟩ Q) ∧
    (∀ (c : Code) (tm : List AV) (hp : List Blk) (e : Exit) (tm' : List AV) (hp' : List Blk) (Q : Exit → St Ev.β → Prop), run P call n (.loop c) tm hp = some (e, tm', hp') → Q e ⟨tm', hp', b⟩ →
      ∀ (lo : Nat) (r : Option Nat) (S X V : Pr) (w : World) (m : List MB) (B : List (AV × Value)) (S0 X0 V0 : Pr) (w0 : World) (m0 : List MB) (hv : List (List Value)) (a : Act), (Went Ev.L S X V w S0 X0 V0 w0 ∧ MStep m m0) → Tie Ev lo r S0 X0 V0 w0 m0 B hv ⟨tm, hp, []⟩ b a →
        Code.roundsIn (Fn r) 0 P c (Beh Ev lo r S X V w m B Q) n a w0) := by
  intro n
  induction n with
  | zero => exact ⟨fun c tm hp e tm' hp' Q h => by simp [run] at h, fun c tm hp e tm' hp' Q h => by simp [run] at h⟩
  | succ n ih =>
    obtain ⟨ih1, ih2⟩ := ih
    have hloop : ∀ (c : Code) (tm : List AV) (hp : List Blk) (e : Exit) (tm' : List AV) (hp' : List Blk) (Q : Exit → St Ev.β → Prop), run P call (n + 1) (.loop c) tm hp = some (e, tm', hp') → Q e ⟨tm', hp', b⟩ →
      ∀ (lo : Nat) (r : Option Nat) (S X V : Pr) (w : World) (m : List MB) (B : List (AV × Value)) (S0 X0 V0 : Pr) (w0 : World) (m0 : List MB) (hv : List (List Value)) (a : Act), (Went Ev.L S X V w S0 X0 V0 w0 ∧ MStep m m0) → Tie Ev lo r S0 X0 V0 w0 m0 B hv ⟨tm, hp, []⟩ b a →
        Code.roundsIn (Fn r) 0 P c (Beh Ev lo r S X V w m B Q) (n + 1) a w0 := by
      intro c tm hp e tm' hp' Q h hq lo r S X V w m B S0 X0 V0 w0 m0 hv a hgo ht
      rw [roundsIn_succ]
      simp only [run] at h
      split at h
      · rename_i tm1 hp1 h1
        refine wpIn_mono (ih1 c tm hp .normal tm1 hp1 (fun e s => e = .normal ∧ s = ⟨tm1, hp1, b⟩) h1 ⟨rfl, rfl⟩ lo r S0 X0 V0 w0 m0 B hv a ht) ?_
        rintro e1 a1 w1 ⟨s1, S1, X1, V1, m1, hv1, ⟨rfl, rfl⟩, h2, h3⟩
        exact ih2 c tm1 hp1 e tm' hp' Q h hq lo r S X V w m B S1 X1 V1 w1 m1 hv1 a1 ⟨hgo.1.trans h2.1, hgo.2.trans h2.2⟩ h3
      · rename_i rr hne
        refine wpIn_mono (ih1 c tm hp e tm' hp' (fun e1 s => e1 = e ∧ s = ⟨tm', hp', b⟩) h ⟨rfl, rfl⟩ lo r S0 X0 V0 w0 m0 B hv a ht) ?_
        rintro e1 a1 w1 ⟨s1, S1, X1, V1, m1, hv1, ⟨rfl, rfl⟩, h2, h3⟩
        have hb : Beh Ev lo r S X V w m B Q e1 a1 w1 := Beh.from hgo ⟨_, S1, X1, V1, m1, hv1, hq, h2, h3⟩
        cases e1 with
        | normal => exact absurd h (hne tm' hp')
        | exit id => exact hb
        | goto l => exact hb
        | ret => exact hb
        | panic ch => exact hb
        | outgrown => exact hb
    refine ⟨fun c tm hp e tm' hp' Q h hq => ?_, hloop⟩
    cases c with
    | skip => simp only [run, Option.some.injEq, Prod.mk.injEq] at h; obtain ⟨rfl, rfl, rfl⟩ := h; exact W.skip hq
    | label l => simp only [run, Option.some.injEq, Prod.mk.injEq] at h; obtain ⟨rfl, rfl, rfl⟩ := h; exact W.label hq
    | exit id => simp only [run, Option.some.injEq, Prod.mk.injEq] at h; obtain ⟨rfl, rfl, rfl⟩ := h; exact W.exit hq
    | goto l => simp only [run, Option.some.injEq, Prod.mk.injEq] at h; obtain ⟨rfl, rfl, rfl⟩ := h; exact W.goto hq
    | ret => simp only [run, Option.some.injEq, Prod.mk.injEq] at h; obtain ⟨rfl, rfl, rfl⟩ := h; exact W.ret hq
    | region id ops d =>
      simp only [run] at h
      split at h <;> try (cases h; done)
      rename_i tm1 hp1 h1
      simp only [Option.some.injEq, Prod.mk.injEq] at h
      obtain ⟨rfl, rfl, rfl⟩ := h
      exact runRegion_sound hm hcall h1 hq
    | seq x y =>
      simp only [run] at h
      refine W.seq ?_
      split at h
      · rename_i tm1 hp1 h1
        exact ih1 x tm hp .normal tm1 hp1 _ h1 (ih1 y tm1 hp1 e tm' hp' Q h hq)
      · rename_i rr hne
        refine ih1 x tm hp e tm' hp' _ h ?_
        cases e with
        | normal => exact absurd h (hne tm' hp')
        | exit id => exact hq
        | goto l => exact hq
        | ret => exact hq
        | panic ch => exact hq
        | outgrown => exact hq
    | cond x c c' =>
      simp only [run] at h
      split at h <;> try (cases h; done)
      · rename_i hx; exact W.cond (t := true) hx (ih1 c tm hp e tm' hp' Q h hq)
      · rename_i hx; exact W.cond (t := false) hx (ih1 c' tm hp e tm' hp' Q h hq)
    | block id c =>
      simp only [run] at h
      refine W.block ?_
      split at h
      · rename_i id' tm1 hp1 h1
        refine ih1 c tm hp (.exit id') tm1 hp1 _ h1 ?_
        simp only [catchExit]
        split at h
        · rename_i he
          simp only [Option.some.injEq, Prod.mk.injEq] at h
          obtain ⟨rfl, rfl, rfl⟩ := h
          rw [if_pos he]; exact hq
        · rename_i he
          simp only [Option.some.injEq, Prod.mk.injEq] at h
          obtain ⟨rfl, rfl, rfl⟩ := h
          rw [if_neg he]; exact hq
      · rename_i rr hne
        refine ih1 c tm hp e tm' hp' _ h ?_
        cases e with
        | exit id' => exact absurd h (hne id' tm' hp')
        | normal => exact hq
        | goto l => exact hq
        | ret => exact hq
        | panic ch => exact hq
        | outgrown => exact hq
    | loop c =>
      intro lo r S X V w m B hv a ht
      exact wpIn_loop_rounds (n + 1) (hloop c tm hp e tm' hp' Q h hq lo r S X V w m B S X V w m hv a ⟨Went.refl ht.rel.slt, MStep.refl m⟩ ht)
    | rangeFunc f ps assign body => simp [run] at h
    | scope body => simp [run] at h
    | refuse why => simp [run] at h

/-- **code, run** -/
theorem W.ofRun {n : Nat} {e : Exit} (hm : P.follows .mixedOrders = true) (hcall : CallOk P call) (h : run P call n c tm hp = some (e, tm', hp')) (hq : Q e ⟨tm', hp', b⟩) : W Ev c ⟨tm, hp, b⟩ Q := (run_both hm hcall n).1 c tm hp e tm' hp' Q h hq

/-- **a function, run** -/
theorem PCall.ofRun {n f : Nat} {fn : Func} {args : List AV} {x : AV} (hm : P.follows .mixedOrders = true) (hcall : CallOk P call) (hf : P.funcs[f]? = some fn) (hn : (fn.name == "runtime.NumGoroutine") = false) (hargs : args.map AV.view = args)
    (h : runFn P call n fn args = some x) : PCall P f args x := by
  unfold runFn at h
  split at h <;> try (cases h; done)
  rename_i c hb
  refine PCall.ofW hf hb hn hargs fun Ev b => ?_
  split at h <;> try (cases h; done)
  · rename_i tm hp hr
    split at h <;> try (cases h; done)
    rename_i ys hys
    exact W.ofRun hm hcall hr ⟨.inl rfl, ys, hys, h⟩
  · rename_i tm hp hr
    split at h <;> try (cases h; done)
    rename_i ys hys
    exact W.ofRun hm hcall hr ⟨.inr rfl, ys, hys, h⟩

end
end Go.Proofs.Ytgdeoaiakdkhcaa.Am
