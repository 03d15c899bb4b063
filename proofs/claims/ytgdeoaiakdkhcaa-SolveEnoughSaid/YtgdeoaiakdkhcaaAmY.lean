/- Equality of structs and arrays of plain values, as one Bool. -/
import Derived.Test.YtgdeoaiakdkhcaaAmX
namespace Go.Proofs.Ytgdeoaiakdkhcaa.Am
set_option linter.unusedVariables false
open Go Go.RowKit

theorem runPure_bind {P : Program} {α γ : Type} {a : α} : ∀ {s : Sem α} (h : runPure P s = some a) (f : α → Sem γ), runPure P (s >>= f) = runPure P (f a)
  | .pure b, h, f => by simp only [runPure, Option.some.injEq] at h; subst h; rfl
  | .program k, h, f => runPure_bind (s := k P) h f
  | .mark _ k, h, f => runPure_bind (s := k) h f
  | .load .., h, _ => by simp [runPure] at h
  | .store .., h, _ => by simp [runPure] at h
  | .new .., h, _ => by simp [runPure] at h
  | .shape .., h, _ => by simp [runPure] at h
  | .freeze .., h, _ => by simp [runPure] at h
  | .frozen .., h, _ => by simp [runPure] at h
  | .getObj .., h, _ => by simp [runPure] at h
  | .setObj .., h, _ => by simp [runPure] at h
  | .choose .., h, _ => by simp [runPure] at h
  | .sys .., h, _ => by simp [runPure] at h
  | .halt .., h, _ => by simp [runPure] at h


/-- fields -/
def eqFs (P : Program) (eq : TypeId → Value → Value → Option Bool) (xs ys : Array Value) : List Field → Option Bool
  | [] => some true
  | f :: l => if f.name ≠ "_" then match runPure P (part f.type xs f.offset), runPure P (part f.type ys f.offset) with
      | some a, some b => match eq f.type a b, eqFs P eq xs ys l with
        | some r, some r' => some (r && r')
        | _, _ => none
      | _, _ => none
    else eqFs P eq xs ys l

/-- elements -/
def eqAs (P : Program) (eq : TypeId → Value → Value → Option Bool) (e : TypeId) (n : Nat) (xs ys : Array Value) : List Nat → Option Bool
  | [] => some true
  | i :: l => match runPure P (part e xs (i * n)), runPure P (part e ys (i * n)) with
      | some a, some b => match eq e a b, eqAs P eq e n xs ys l with
        | some r, some r' => some (r && r')
        | _, _ => none
      | _, _ => none

/-- equality of plain values, structs and arrays of such -/
def eqT (P : Program) : Nat → TypeId → Value → Value → Option Bool
  | 0, _, _, _ => none
  | d + 1, t, x, y => match P.underlying t, x, y with
    | some .bool, .bool a, .bool b => some (a == b)
    | some (.int _), .int k a, .int k' b => if k = k' then some (a == b) else none
    | some .string, .string a, .string b => some (a == b)
    | some (.struct fs), .agg xs, .agg ys => if P.stoodInHeld t then none else eqFs P (eqT P d) xs ys fs.toList
    | some (.array n e), .agg xs, .agg ys => match P.info? e with
      | some i => eqAs P (eqT P d) e i.size xs ys (List.range' 0 n)
      | none => none
    | _, _, _ => none

section
variable {P : Program} {E : TypeId → Value → Value → Sem Bool} {eq : TypeId → Value → Value → Option Bool} {xs ys : Array Value}

theorem eqFs_sound {k : Option Bool × Unit → Sem Bool} (k1 : ∀ r, k (some r, ()) = pure r) (k0 : k (none, ()) = pure true) (he : ∀ t a b r, eq t a b = some r → runPure P (E t a b) = some r) : ∀ {l : List Field} {r : Bool}, eqFs P eq xs ys l = some r →
    runPure P ((forIn l ((none, ()) : Option Bool × Unit) fun f _ => if f.name ≠ "_" then do
          let a ← part f.type xs f.offset
          let b ← part f.type ys f.offset
          let c ← E f.type a b
          if (!c) = true then pure (ForInStep.done (some false, ())) else pure (ForInStep.yield (none, ()))
        else pure (ForInStep.yield (none, ()))) >>= k) = some r
  | [], r, h => by
    simp only [eqFs, Option.some.injEq] at h
    subst h
    simp only [List.forIn_nil, pure_bind, k0]
    rfl
  | f :: l, r, h => by
    simp only [eqFs] at h
    simp only [List.forIn_cons]
    split at h
    · rename_i hf
      rw [if_pos hf]
      split at h <;> try (cases h; done)
      rename_i a b ha hb
      split at h <;> try (cases h; done)
      rename_i r1 r2 h1 h2
      cases h
      have h3 := he _ _ _ _ h1
      cases r1 with
      | true =>
        have ih := eqFs_sound k1 k0 he h2
        simp only [bind_assoc]
        refine (runPure_bind ha _).trans ((runPure_bind hb _).trans ((runPure_bind h3 _).trans ?_))
        simpa using ih
      | false =>
        simp only [bind_assoc]
        refine (runPure_bind ha _).trans ((runPure_bind hb _).trans ((runPure_bind h3 _).trans ?_))
        simp [k1]
        rfl
    · rename_i hf
      rw [if_neg hf]
      simpa using eqFs_sound k1 k0 he h

theorem eqAs_sound {e : TypeId} {n : Nat} {k : Option Bool × Unit → Sem Bool} (k1 : ∀ r, k (some r, ()) = pure r) (k0 : k (none, ()) = pure true) (he : ∀ t a b r, eq t a b = some r → runPure P (E t a b) = some r) : ∀ {l : List Nat} {r : Bool}, eqAs P eq e n xs ys l = some r →
    runPure P ((forIn l ((none, ()) : Option Bool × Unit) fun i _ => do
          let a ← part e xs (i * n)
          let b ← part e ys (i * n)
          let c ← E e a b
          if (!c) = true then pure (ForInStep.done (some false, ())) else pure (ForInStep.yield (none, ()))) >>= k) = some r
  | [], r, h => by
    simp only [eqAs, Option.some.injEq] at h
    subst h
    simp only [List.forIn_nil, pure_bind, k0]
    rfl
  | i :: l, r, h => by
    simp only [eqAs] at h
    simp only [List.forIn_cons]
    split at h <;> try (cases h; done)
    rename_i a b ha hb
    split at h <;> try (cases h; done)
    rename_i r1 r2 h1 h2
    cases h
    have h3 := he _ _ _ _ h1
    cases r1 with
    | true =>
      have ih := eqAs_sound k1 k0 he h2
      simp only [bind_assoc]
      refine (runPure_bind ha _).trans ((runPure_bind hb _).trans ((runPure_bind h3 _).trans ?_))
      simpa using ih
    | false =>
      simp only [bind_assoc]
      refine (runPure_bind ha _).trans ((runPure_bind hb _).trans ((runPure_bind h3 _).trans ?_))
      simp [k1]
      rfl

theorem run_und {t : TypeId} {d : TypeDesc} (hu : P.underlying t = some d) : runPure P (underlying t) = some d := by
  unfold underlying
  refine (runPure_bind (a := P) rfl _).trans ?_
  simp only [hu]; rfl

theorem eqT_sound : ∀ {d : Nat} {t : TypeId} {x y : Value} {r : Bool}, eqT P d t x y = some r → runPure P (Op.equalIn d t x y) = some r
  | 0, _, _, _, _, h => by cases h
  | d + 1, t, x, y, r, h => by
    unfold eqT at h
    split at h <;> try (cases h; done)
    · rename_i hu; cases h
      rw [Op.equalIn]
      exact (runPure_bind (run_und hu) _).trans rfl
    · rename_i hu
      split at h <;> try (cases h; done)
      rename_i hk; cases h; subst hk
      rw [Op.equalIn]
      refine (runPure_bind (run_und hu) _).trans ?_
      simp only [if_true]; rfl
    · rename_i hu; cases h
      rw [Op.equalIn]
      exact (runPure_bind (run_und hu) _).trans rfl
    · rename_i fs xs ys hu
      split at h <;> try (cases h; done)
      rename_i hs
      rw [Op.equalIn]
      refine (runPure_bind (run_und hu) _).trans ?_
      simp only
      refine (runPure_bind (a := P) rfl _).trans ?_
      rw [if_neg hs]
      rw [← Array.forIn_toList]
      exact eqFs_sound (fun _ => rfl) rfl (fun _ _ _ _ h => eqT_sound h) h
    · rename_i n e xs ys hu
      split at h <;> try (cases h; done)
      rename_i i hi
      rw [Op.equalIn]
      refine (runPure_bind (run_und hu) _).trans ?_
      simp only
      refine (runPure_bind (a := i.size) ?_ _).trans ?_
      · unfold sizeOf typeInfo
        refine (runPure_bind (a := i) ?_ _).trans rfl
        refine (runPure_bind (a := P) rfl _).trans ?_
        simp only [hi]; rfl
      · rw [Std.Legacy.Range.forIn_eq_forIn_range']
        refine eqAs_sound ?_ ?_ (fun _ _ _ _ h => eqT_sound h) (?_ : eqAs P (eqT P d) e i.size xs ys _ = some r)
        · exact fun _ => rfl
        · rfl
        · simpa [Std.Legacy.Range.size] using h

/-- the test that Go's own equality asks first -/
theorem guard_agg {op : BinOp} {t : TypeId} {x y : Operand} {a b : Array Value} (hg : P.eqGuardType P.depth t = false) : runPure P (eqGuard op t x y (.agg a) (.agg b)) = some () := by
  have key : runPure P (do
      let __do_lift ← program
      let __do_lift_1 ← program
      if (!__do_lift.eqGuardType __do_lift_1.depth t) = true then pure ()
      else do
        let __do_lift ← Op.eqGuardIn Op.maxDepth t (Value.agg a) (Value.agg b)
        if __do_lift = true then unsupported (.noEntry "binop/eql: two nil values of an interface type with methods, in a part of a struct or an array")
        else pure ()) = some () := by
    refine (runPure_bind (a := P) rfl _).trans ?_
    refine (runPure_bind (a := P) rfl _).trans ?_
    rw [hg]; rfl
  unfold eqGuard
  cases op <;> first | rfl | (simp; simpa using key)

end
end Go.Proofs.Ytgdeoaiakdkhcaa.Am
