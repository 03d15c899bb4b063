/- What must be shown of code, as a proposition that the kernel can spell out: operations. -/
import Derived.Test.YtgdeoaiakdkhcaaAmZ
import Derived.Test.YtgdeoaiakdkhcaaAmY
namespace Go.Proofs.Ytgdeoaiakdkhcaa.Am
set_option linter.unusedVariables false
open Go Go.RowKit

/-- by the outcome of a test -/
def BIf (t : Bool) (A B : Prop) : Prop := @Bool.rec (fun _ => Prop) B A t

theorem BIf.of {t : Bool} {A B : Prop} (h1 : t = true → A) (h2 : t = false → B) : BIf t A B := by
  cases t
  · exact h2 rfl
  · exact h1 rfl

theorem BIf.elim {t : Bool} {A B : Prop} (h : BIf t A B) : (t = true ∧ A) ∨ (t = false ∧ B) := by
  cases t
  · exact .inr ⟨rfl, h⟩
  · exact .inl ⟨rfl, h⟩

theorem BIf.elim' {t : Bool} {A : Prop} (h : BIf t A False) : t = true ∧ A := by
  cases t
  · exact False.elim h
  · exact ⟨rfl, h⟩

theorem BIf.t {t : Bool} {A B : Prop} (h : t = true) (a : A) : BIf t A B := by subst h; exact a
theorem BIf.f {t : Bool} {A B : Prop} (h : t = false) (b : B) : BIf t A B := by subst h; exact b
theorem BIf_true (A B : Prop) : BIf true A B = A := rfl
theorem BIf_false (A B : Prop) : BIf false A B = B := rfl

mutual
/-- cells of a type, whatever they hold -/
def shapeC (P : Program) : Nat → TypeId → (List Dv → Prop) → Prop
  | 0, _, _ => False
  | n + 1, t, K => match P.underlying t with
    | some .bool => ∃ b : Bool, K [.s (.bool b)]
    | some (.int k) => ∃ x : Int, K [.s (.int k x)]
    | some .string => ∃ x : ByteArray, K [.s (.string x)]
    | some (.slice e) => match P.info? e with
      | some i => ∃ xs : List (List Dv), K [.sl i.size xs]
      | none => False
    | some (.struct fs) => shapesC P n (fs.toList.map (·.type)) K
    | some (.array len e) => shapesC P n (List.replicate len e) K
    | _ => ∃ d : Dv, K [d]
def shapesC (P : Program) : Nat → List TypeId → (List Dv → Prop) → Prop
  | 0, _, _ => False
  | n + 1, ts, K => match ts with
    | [] => K []
    | t :: ts => shapeC P n t fun x => shapesC P n ts fun y => K (x ++ y)
end

theorem shape_sound (P : Program) : ∀ (n : Nat), (∀ (t : TypeId) (K : List Dv → Prop), shapeC P n t K → ∃ row, K row) ∧ ∀ (ts : List TypeId) (K : List Dv → Prop), shapesC P n ts K → ∃ row, K row
  | 0 => ⟨fun _ _ h => h.elim, fun _ _ h => h.elim⟩
  | n + 1 => by
    obtain ⟨ih1, ih2⟩ := shape_sound P n
    refine ⟨fun t K h => ?_, fun ts K h => ?_⟩
    · unfold shapeC at h
      split at h
      · obtain ⟨b, h⟩ := h; exact ⟨_, h⟩
      · obtain ⟨b, h⟩ := h; exact ⟨_, h⟩
      · obtain ⟨b, h⟩ := h; exact ⟨_, h⟩
      · split at h
        · obtain ⟨b, h⟩ := h; exact ⟨_, h⟩
        · exact h.elim
      · exact ih2 _ _ h
      · exact ih2 _ _ h
      · obtain ⟨b, h⟩ := h; exact ⟨_, h⟩
    · unfold shapesC at h
      split at h
      · exact ⟨_, h⟩
      · obtain ⟨x, h⟩ := ih1 _ _ h
        obtain ⟨y, h⟩ := ih2 _ _ h
        exact ⟨_, h⟩

/-! ### quiet operations -/

/-- the number in a value -/
def numA (x : AV) (d : Int) : Int :=
  match x with
  | .d (.s (.int _ n)) => n
  | _ => d

def optNum (tm : List AV) (x : Option Operand) (d : Int) : Int :=
  match x with
  | some y => numA (evalA tm y) d
  | none => d

def optIsInt (tm : List AV) (x : Option Operand) : Bool :=
  match x with
  | some y => (evalA tm y).int?.isSome
  | none => true

def isFull : AV → Bool
  | .full .. => true
  | _ => false

def isRef : AV → Bool
  | .ref .. => true
  | .ptr .. => true
  | .gref .. => true
  | _ => false

/-- shifts and divisions: they can panic -/
def shyOp : BinOp → Bool
  | .shl => true
  | .shr => true
  | .quo => true
  | .rem => true
  | _ => false

def shyBad (op : BinOp) (k k' : IntKind) (y : Int) : Bool :=
  match op with
  | .shl => decide (y < 0)
  | .shr => decide (y < 0)
  | _ => decide (y = 0) || !decide (k = k')

def shyVal (op : BinOp) (k : IntKind) (x y : Int) : Value :=
  match op with
  | .shl => .int k (k.wrap (x * 2 ^ (min y.toNat k.bits)))
  | .shr => .int k (x.fdiv (2 ^ (min y.toNat k.bits)))
  | .quo => .int k (k.wrap (x.tdiv y))
  | _ => .int k (x.tmod y)

/-- equality of structs and arrays -/
def aggEq (P : Program) (op : BinOp) (t : TypeId) (x y : AV) : Option Bool :=
  match x, y with
  | .agg cs, .agg ds => match toVals cs, toVals ds with
    | some vs, some ws => match eqT P Op.maxDepth t (.agg vs.toArray) (.agg ws.toArray) with
      | some r => if P.eqGuardType P.depth t then none else match op with
        | .eql => some r
        | .neq => some (!r)
        | _ => none
      | none => none
    | _, _ => none
  | _, _ => none

/-- what must be shown of a quiet operation: its result is handed on -/
def valC (P : Program) (hp : List Blk) (tm : List AV) (o : Oper) (K : AV → Prop) : Prop :=
  let rest : Prop := match xq P hp (evalA tm) o with
    | some x => K x
    | none => False
  match o.op with
  | .indexAddr t x ix => match (evalA tm x).rows?, (evalA tm ix).int?, P.underlying t with
    | some (k, xs), some (_, n), some (.slice e) => match P.info? e with
      | some i => BIf (decide (k = i.size) && decide (0 < k) && decide (0 ≤ n)) (shapeC P 400 e fun row => xs[n.toNat]? = some row ∧ K (.rptr row)) False
      | none => False
    | _, _, _ => rest
  | .slice t x lo hi mx => match (evalA tm x).rows?, P.underlying t with
    | some (k, xs), some (.slice e) => match P.info? e with
      | some i => BIf (decide (k = i.size) && (optIsInt tm lo && optIsInt tm hi && optIsInt tm mx) && (!mx.isSome || hi.isSome) &&
          decide (0 ≤ optNum tm lo 0 ∧ optNum tm lo 0 ≤ optNum tm hi xs.length ∧ optNum tm hi xs.length ≤ optNum tm mx xs.length ∧ optNum tm mx xs.length ≤ xs.length))
            (BIf ((isFull (evalA tm x) || mx.isSome) && ((optNum tm hi xs.length).toNat == (optNum tm mx xs.length).toNat))
              (K (.full k ((xs.drop (optNum tm lo 0).toNat).take ((optNum tm hi xs.length).toNat - (optNum tm lo 0).toNat))))
              (K (.d (.sl k ((xs.drop (optNum tm lo 0).toNat).take ((optNum tm hi xs.length).toNat - (optNum tm lo 0).toNat)))))) False
      | none => False
    | _, _ => rest
  | .binOp op t x y yt => if shyOp op then match evalA tm x, evalA tm y with
      | .d (.s (.int k a)), .d (.s (.int k' b)) => BIf (shyBad op k k' b) False (K (.d (.s (shyVal op k a b))))
      | _, _ => False
    else match aggEq P op t (evalA tm x) (evalA tm y) with
      | some r => K (.d (.s (.bool r)))
      | none => rest
  | .index t x ix => match evalA tm x, (evalA tm ix).int?, P.underlying t with
    | .d (.s (.string s)), some (_, n), some .string => BIf (decide (0 ≤ n)) (∃ c : UInt8, s[n.toNat]? = some c ∧ K (.d (.s (.int .u8 c.toNat)))) False
    | _, _, _ => rest
  | _ => rest

theorem rest_sound {P : Program} {hp : List Blk} {tm : List AV} {o : Oper} {K : AV → Prop} (h : match xq P hp (evalA tm) o with
    | some x => K x
    | none => False) : ∃ x, xq P hp (evalA tm) o = some x ∧ K x := by
  split at h
  · rename_i x hx; exact ⟨x, hx, h⟩
  · exact h.elim

theorem shy_exec {P : Program} {op : BinOp} {t yt : TypeId} {x y : Operand} {k k' : IntKind} {a b : Int} (hs : shyOp op = true) (hb : shyBad op k k' b = false) :
    runPure P (do eqGuard op t x y (.int k a) (.int k' b); let r ← binOp op t (.int k a) (.int k' b); pure (Next.value r)) = some (.value (shyVal op k a b)) := by
  cases op <;> simp only [shyOp, Bool.false_eq_true] at hs
  all_goals simp only [shyBad, Bool.or_eq_false_iff, decide_eq_false_iff_not, Bool.not_eq_false', decide_eq_true_eq] at hb
  · obtain ⟨h1, rfl⟩ := hb
    simp [binOp, eqGuard, Op.intDiv, h1, shyVal]
    rfl
  · obtain ⟨h1, rfl⟩ := hb
    simp [binOp, eqGuard, Op.intDiv, h1, shyVal]
    rfl
  · simp [binOp, eqGuard, Op.shift, hb, shyVal]
    rfl
  · simp [binOp, eqGuard, Op.shift, hb, shyVal]
    rfl

theorem strIndex_exec {P : Program} {t : TypeId} {s : ByteArray} {k : IntKind} {n : Int} {c : UInt8} (hu : P.underlying t = some .string) (hn : 0 ≤ n) (hc : s[n.toNat]? = some c) :
    runPure P (do let r ← Instr.index t (.string s) (.int k n); pure (Next.value r)) = some (.value (.int .u8 c.toNat)) := by
  refine (runPure_bind (a := Value.int .u8 c.toNat) ?_ _).trans rfl
  unfold Instr.index
  refine (runPure_bind (a := (k, n)) rfl _).trans ?_
  refine (runPure_bind (a := TypeDesc.string) ?_ _).trans ?_
  · unfold underlying
    refine (runPure_bind (a := P) rfl _).trans ?_
    simp only [hu]; rfl
  · simp only [hn, if_true, hc]; rfl

theorem int?_eq {x : AV} {q : IntKind × Int} (h : x.int? = some q) : x = .d (.s (.int q.1 q.2)) := by
  unfold AV.int? at h
  split at h
  · cases h; rfl
  · cases h

theorem aggEq_exec {P : Program} {op : BinOp} {t yt : TypeId} {x y : Operand} {a b : AV} {r : Bool} (h : aggEq P op t a b = some r) :
    ∃ u v, a.toVal? = some u ∧ b.toVal? = some v ∧ isNilSlice a = false ∧ isNilSlice b = false ∧ runPure P (do eqGuard op t x y u v; let r ← binOp op t u v; pure (Next.value r)) = some (.value (.bool r)) := by
  unfold aggEq at h
  split at h <;> try (cases h; done)
  rename_i cs ds
  split at h <;> try (cases h; done)
  rename_i vs ws h1 h2
  split at h <;> try (cases h; done)
  rename_i r0 h3
  split at h <;> try (cases h; done)
  rename_i hg
  have hg : P.eqGuardType P.depth t = false := by simpa using hg
  refine ⟨.agg vs.toArray, .agg ws.toArray, by simp [AV.toVal?, h1], by simp [AV.toVal?, h2], rfl, rfl, ?_⟩
  refine (runPure_bind (guard_agg hg) _).trans ?_
  split at h <;> try (cases h; done)
  · cases h
    refine (runPure_bind (a := Value.bool _) ?_ _).trans rfl
    exact (runPure_bind (eqT_sound h3) _).trans rfl
  · cases h
    refine (runPure_bind (a := Value.bool _) ?_ _).trans rfl
    exact (runPure_bind (eqT_sound h3) _).trans rfl

theorem valC_sound {P : Program} {hp : List Blk} {tm : List AV} {o : Oper} {K : AV → Prop} (h : valC P hp tm o K) : ∃ x, xq P hp (evalA tm) o = some x ∧ K x := by
  unfold valC at h
  simp only at h
  split at h
  · rename_i t x ix ho
    split at h
    · rename_i k xs kk n e h1 h2 h3
      split at h
      · rename_i i hi
        obtain ⟨hc, h⟩ := h.elim'
        simp only [Bool.and_eq_true, decide_eq_true_eq] at hc
        obtain ⟨⟨hk, hk0⟩, hn⟩ := hc
        obtain ⟨row, hrow, hK⟩ := (shape_sound P 400).1 _ _ h
        refine ⟨_, ?_, hK⟩
        have hl : n < xs.length := by
          have := (List.getElem?_eq_some_iff.1 hrow).1
          omega
        simp only [xq, ho, xIndexAddr, h2, h3, hi]
        have hr := h1
        cases ha : evalA tm x <;> rw [ha] at hr h1 <;> simp only [AV.rows?] at hr <;> try (cases hr; done)
        all_goals
          simp only [h1]
          rw [if_pos ⟨hn, hl, hk, hk0⟩, hrow]; rfl
      · exact h.elim
    · exact rest_sound h
  · rename_i t x lo hi mx ho
    split at h
    · rename_i k xs e h1 h3
      split at h
      · rename_i i hi'
        obtain ⟨hc, h⟩ := h.elim'
        simp only [Bool.and_eq_true, decide_eq_true_eq] at hc
        obtain ⟨⟨⟨hk, hint⟩, hm⟩, hb⟩ := hc
        have hopt : ∀ (y : Option Operand) (d : Int), optIsInt tm y = true → ∃ q, optInt (y.map (evalA tm)) = some q ∧ (∀ d : Int, numOr q d = optNum tm y d) ∧ q.isSome = y.isSome := by
          intro y d hy
          cases y with
          | none => exact ⟨none, rfl, fun _ => rfl, rfl⟩
          | some z =>
            simp only [optIsInt, Option.isSome_iff_exists] at hy
            obtain ⟨q, hq⟩ := hy
            refine ⟨some q, by simp [optInt, hq], fun d => ?_, rfl⟩
            simp only [optNum]
            have : evalA tm z = .d (.s (.int q.1 q.2)) := by
              exact int?_eq hq
            rw [this]; rfl
        obtain ⟨ql, el, nl, sl⟩ := hopt lo 0 hint.1.1
        obtain ⟨qh, eh, nh, sh⟩ := hopt hi 0 hint.1.2
        obtain ⟨qm, em, nm, sm⟩ := hopt mx 0 hint.2
        have hbn : bnds xs.length xs.length ql qh qm = some ((optNum tm lo 0).toNat, (optNum tm hi xs.length).toNat, (optNum tm mx xs.length).toNat) := by
          unfold bnds
          rw [nl, nh, nm, if_pos]
          refine ⟨hb.1, hb.2.1, hb.2.2.1, hb.2.2.2, fun hmx => ?_⟩
          rw [sh]; rw [sm] at hmx
          simpa [hmx] using hm
        have key : ∀ known : Bool, xSliceRows k xs known ql qh qm = (if (known || mx.isSome) && ((optNum tm hi xs.length).toNat == (optNum tm mx xs.length).toNat) then some (.full k ((xs.drop (optNum tm lo 0).toNat).take ((optNum tm hi xs.length).toNat - (optNum tm lo 0).toNat))) else some (.d (.sl k ((xs.drop (optNum tm lo 0).toNat).take ((optNum tm hi xs.length).toNat - (optNum tm lo 0).toNat))))) := by
          intro known
          simp only [xSliceRows, hbn, sm]
        have hxq : xq P hp (evalA tm) o = xSliceRows k xs (isFull (evalA tm x)) ql qh qm := by
          have hr := h1
          have hs : xSlice P hp t (evalA tm x) (lo.map (evalA tm)) (hi.map (evalA tm)) (mx.map (evalA tm)) = xSliceRows k xs (isFull (evalA tm x)) ql qh qm := by
            unfold xSlice
            rw [el, eh, em, h3]
            simp only [hi']
            cases ha : evalA tm x <;> rw [ha] at hr <;> simp only [AV.rows?] at hr <;> try (cases hr; done)
            · rename_i dv
              cases dv <;> simp only [AV.rows?] at hr <;> try (cases hr; done)
              cases hr
              simp [hk, isFull]
            · cases hr; simp [hk, isFull]
            · cases hr; simp [hk, isFull]
          simp only [xq, ho, hs, key]
          split <;> rename_i hh <;> split at hh <;> simp_all
        rw [hxq, key]
        rcases h.elim with ⟨hc, hK⟩ | ⟨hc, hK⟩
        · rw [hc]; exact ⟨_, rfl, hK⟩
        · rw [hc]; exact ⟨_, rfl, hK⟩
      · exact h.elim
    · exact rest_sound h
  · rename_i op t x y yt ho
    split at h
    · rename_i hs
      split at h
      · rename_i k a k' b hx hy
        rcases h.elim with ⟨hc, hK⟩ | ⟨hc, hK⟩
        · exact hK.elim
        · refine ⟨_, ?_, hK⟩
          have hnil : xNil P op t (evalA tm x) (evalA tm y) = none := by
            unfold xNil
            cases op <;> simp only [shyOp, Bool.false_eq_true] at hs <;> rfl
          simp only [xq, ho, hnil]
          unfold xVal
          have he : execOp (fun x => ((evalA tm x).toVal?).getD undef) o = (do eqGuard op t x y (.int k a) (.int k' b); let r ← binOp op t (.int k a) (.int k' b); pure (Next.value r)) := by
            unfold execOp
            rw [ho]
            simp [hx, hy, AV.toVal?]
          rw [he, shy_exec (t := t) (yt := yt) hs hc]
          simp only [ho, Op.operands]
          simp [hx, hy, AV.toVal?]
          cases op <;> simp only [shyOp, Bool.false_eq_true] at hs <;> rfl
      · exact h.elim
    · split at h
      · rename_i r hr
        refine ⟨_, ?_, h⟩
        obtain ⟨u, v, h1, h2, h3, h4, h5⟩ := aggEq_exec (x := x) (y := y) (yt := yt) hr
        have hnil : xNil P op t (evalA tm x) (evalA tm y) = none := by
          unfold xNil
          split <;> simp [h3, h4]
        simp only [xq, ho, hnil]
        unfold xVal
        have he : execOp (fun x => ((evalA tm x).toVal?).getD undef) o = (do eqGuard op t x y u v; let r ← binOp op t u v; pure (Next.value r)) := by
          unfold execOp
          rw [ho]
          simp [h1, h2]
        rw [he, h5]
        simp only [ho, Op.operands]
        simp [h1, h2]
        rfl
      · exact rest_sound h
  · rename_i t x ix ho
    split at h
    · rename_i s kk n h1 h2 h3
      obtain ⟨hc, h⟩ := h.elim'
      obtain ⟨c, hc1, hK⟩ := h
      refine ⟨_, ?_, hK⟩
      have h2' := int?_eq h2
      simp only [xq, ho, h1]
      unfold xVal
      have he : execOp (fun x => ((evalA tm x).toVal?).getD undef) o = (do let r ← Instr.index t (.string s) (.int kk n); pure (Next.value r)) := by
        unfold execOp
        rw [ho]
        simp [h1, h2', AV.toVal?]
      rw [he, strIndex_exec h3 (of_decide_eq_true hc) hc1]
      simp only [ho, Op.operands]
      simp [h1, h2', AV.toVal?]
      rfl
    · exact rest_sound h
  · exact rest_sound h

end Go.Proofs.Ytgdeoaiakdkhcaa.Am
