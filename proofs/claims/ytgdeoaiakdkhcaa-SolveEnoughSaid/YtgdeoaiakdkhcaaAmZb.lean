/- What must be shown of code, as a proposition that the kernel can spell out: regions and code. -/
import Derived.Test.YtgdeoaiakdkhcaaAmZa
namespace Go.Proofs.Ytgdeoaiakdkhcaa.Am
set_option linter.unusedVariables false
set_option linter.unusedSimpArgs false
open Go Go.RowKit

/-- what a walk leans on: contracts of calls (those that turn none of our blocks; the others), what loops come to, what a yield comes to; unroll: loops are run round by round -/
structure CX (β : Type) where
  call : List (Nat × (List AV → (AV → Prop) → Prop))
  scall : List (Nat × (List AV → List Blk → (AV → List Blk → Prop) → Prop))
  wl : Code → List AV → List Blk → β → (Exit → List AV → List Blk → β → Prop) → Prop
  y : YieldT β
  unroll : Bool

/-- a test's outcome is laid down in its place -/
def setB (tm : List AV) (x : Operand) (v : Bool) : List AV :=
  match x with
  | .tmp t => tm.set t (.d (.s (.bool v)))
  | _ => tm

def guardC (ops : Array Oper) (o : Oper) (tm : List AV) (A B : List AV → Prop) : Prop :=
  match o.guard with
  | none => A tm
  | some (j, want) => match (ops[j]?).bind (·.dst) with
    | some t => match tm.getD t .bad with
      | .d (.s (.bool b)) => BIf b ((if want then A else B) (setB tm (.tmp t) true)) ((if want then B else A) (setB tm (.tmp t) false))
      | .d (.s (.tuple _)) => B tm
      | _ => False
    | none => False

def condOf (o : Oper) : Operand :=
  match o.op with
  | .pick c _ _ => c
  | _ => .const undef

/-- the choice of a pick -/
def pickO (tm : List AV) (o : Oper) : Option (Bool × AV × AV) :=
  match o.op with
  | .pick c a b => match evalA tm c with
    | .d (.s (.bool t)) => some (t, (evalA tm a).view, (evalA tm b).view)
    | _ => none
  | _ => none

/-- an operation that is wanted and no call of a function -/
def bodyX (P : Program) (s : RS) (o : Oper) : Option RS :=
  match xa P s o with
  | some s' => some s'
  | none => match xh P noCall s o with
  | some s' => some s'
  | none => match xq P s.hp (evalA s.tm) o with
    | some x => some { s with tm := putA s.tm o.dst x, pv := (pvRead P s o).toList ++ pvPut s.pv o.dst }
    | none => none

def restC (P : Program) (s : RS) (o : Oper) (K : RS → Prop) : Prop :=
  match bodyX P s o with
  | some s' => K s'
  | none => False

def accOf (s : RS) (x : Operand) : Option (Loc × TypeId × Nat × List (List Dv)) :=
  match x with
  | .tmp t => match s.pv.lookup t with
    | some loc => match ownAt s loc with
      | some (e, k, xs) => some (loc, e, k, xs)
      | none => none
    | none => none
  | _ => none

def appendC (P : Program) (s : RS) (o : Oper) (c : Call) (K : RS → Prop) : Prop :=
  match c.callee, c.args[0]?, c.args[1]? with
  | .builtin .append, some x, some y => match appInfo P c.argTypes with
    | some (e', i) => match srcRows i.size (evalA s.tm y) with
      | some ys => match accOf s x with
        | some (loc, e, k, xs) => BIf (decide (e = e') && decide (k = i.size) && decide (c.args.size = 2) && decide ((xs.length + ys.length) * i.bytes ≤ 140737488355328))
            (K { tm := putA (demote s loc).tm o.dst (.own e k (xs ++ ys)), hp := (demote s loc).hp, pv := [] }) False
        | none => BIf (isNilSlice (evalA s.tm x) && decide (c.args.size = 2)) (BIf (decide (ys.length * i.bytes ≤ 140737488355328))
            (K { s with tm := putA s.tm o.dst (.own e' i.size ys), pv := (pvRead P s o).toList ++ pvPut s.pv o.dst }) False) (restC P s o K)
      | none => restC P s o K
    | none => restC P s o K
  | _, _, _ => restC P s o K

/-- copy out of data of unknown length -/
def copyC (P : Program) (s : RS) (o : Oper) (c : Call) (K : RS → Prop) : Prop :=
  match c.args[0]?, c.args[1]? with
  | some x, some y => match evalA s.tm x, (evalA s.tm y).rows? with
    | .ref g off n cap k, some (k', xs) => match c.argTypes[0]? with
      | some t => match P.underlying t with
        | some (.slice e) => match P.info? e, s.hp[g]? with
          | some i, some blk => BIf (decide (c.args.size = 2) && decide (c.argTypes.size = 2) && decide (i.size = 1) && decide (k = 1) && decide (k' = 1) && !blk.fro && !blk.grow && decide (off + n ≤ blk.cells.length))
              (shapesC P 400 (List.replicate n e) fun row => ((xs.take n).map fun r => AV.d (r.headD (.s undef))) ++ ((blk.cells.drop off).take n).drop (min n xs.length) = row.map AV.d ∧ BIf ((row.map AV.d).all AV.one)
                (K { tm := putA s.tm o.dst (.d (.s (goInt (min n xs.length : Nat)))), hp := s.hp.set g { blk with cells := blk.cells.take off ++ row.map AV.d ++ blk.cells.drop (off + n) }, pv := [] }) False) False
          | _, _ => False
        | _ => False
      | none => False
    | _, _ => restC P s o K
  | _, _ => restC P s o K

def quietKind : Op → Bool
  | .indexAddr .. => true
  | .slice .. => true
  | .binOp .. => true
  | .index .. => true
  | _ => false

def bodyC (P : Program) (s : RS) (o : Oper) (K : RS → Prop) : Prop :=
  match pickO s.tm o with
  | some (t, x, y) => BIf t (K { s with tm := putA (setB s.tm (condOf o) true) o.dst x, pv := pvPut s.pv o.dst }) (K { s with tm := putA (setB s.tm (condOf o) false) o.dst y, pv := pvPut s.pv o.dst })
  | none => if quietKind o.op then valC P s.hp s.tm o fun x => K { s with tm := putA s.tm o.dst x, pv := (pvRead P s o).toList ++ pvPut s.pv o.dst }
    else match o.op with
      | .call c => match c.callee with
        | .builtin .copy => copyC P s o c K
        | _ => appendC P s o c K
      | _ => restC P s o K

section
variable {β : Type}

def opC (P : Program) (X : CX β) (ops : Array Oper) (o : Oper) (s : RS) (b : β) (K : RS → β → Prop) : Prop :=
  guardC ops o s.tm
    (fun tm => match opCall tm o with
      | some (k, args) => match X.call.lookup k with
        | some f => BIf (closeds args) (f args fun x => K { tm := putA tm o.dst x.view, hp := s.hp, pv := pvPut s.pv o.dst } b) False
        | none => match X.scall.lookup k with
          | some f => f args s.hp fun x hp' => K { tm := putA tm o.dst x.view, hp := hp', pv := [] } b
          | none => False
      | none => match yieldArgs tm o with
        | some args => BIf (closeds args) (X.y b args fun cont b' => K { tm := putA tm o.dst (.d (.s (.bool cont))), hp := s.hp, pv := [] } b') False
        | none => bodyC P { s with tm := tm } o fun s' => K s' b)
    (fun tm => K { s with tm := putA tm o.dst (.d (.s undef)), pv := pvPut s.pv o.dst } b)

def opsC (P : Program) (X : CX β) (ops : Array Oper) : List Oper → RS → β → (RS → β → Prop) → Prop
  | [], s, b, K => K s b
  | o :: l, s, b, K => opC P X ops o s b fun s b => opsC P X ops l s b K

/-- calls' answers, by the temporaries that take them -/
abbrev Tbl := List (Option Nat × Nat × List AV × AV)

def preC (P : Program) (X : CX β) (ops : Array Oper) (hp : List Blk) : List Oper → List AV → Tbl → (List AV → Tbl → Prop) → Prop
  | [], tm, tb, K => K tm tb
  | o :: l, tm, tb, K => guardC ops o tm
      (fun tm => match opCall tm o with
        | some (k, args) => match X.call.lookup k with
          | some f => BIf (closeds args) (f args fun x => preC P X ops hp l (putA tm o.dst x.view) ((o.dst, k, args, x) :: tb) K) False
          | none => False
        | none => match pickO tm o with
          | some (t, x, y) => BIf t (preC P X ops hp l (putA (setB tm (condOf o) true) o.dst x) tb K) (preC P X ops hp l (putA (setB tm (condOf o) false) o.dst y) tb K)
          | none => valC P hp tm o fun x => preC P X ops hp l (putA tm o.dst x) tb K)
      (fun tm => preC P X ops hp l (putA tm o.dst (.d (.s undef))) tb K)

/-- how many plain stores stand at the head -/
def leadStores : List Oper → Nat
  | o :: l => match o.op, o.guard, o.dst with
    | .store .., none, none => leadStores l + 1
    | _, _, _ => 0
  | [] => 0

def findN (ops : Array Oper) (k : Nat) : Nat → Option Nat
  | 0 => none
  | n + 1 => if drawLateOk ops k (n + 1) then some (n + 1) else findN ops k n

/-- where stores lay down how many cells -/
def storeFps (tm : List AV) : List Oper → List (Nat × Nat × Nat)
  | [] => []
  | o :: l => match o.op with
    | .store t a x => match evalA tm a, xCells (evalA tm x) with
      | .ptr g off, some xs => (g, off, xs.length) :: storeFps tm l
      | _, _ => storeFps tm l
    | _ => storeFps tm l

def apartB (fp : List (Nat × Nat × Nat)) (g off n : Nat) : Bool := fp.all fun q => q.1 != g || decide (q.2.1 + q.2.2 ≤ off) || decide (off + n ≤ q.2.1)

/-- it reads none of the cells that are written -/
def frameB (P : Program) (tm : List AV) (fp : List (Nat × Nat × Nat)) (o : Oper) : Bool :=
  match o.op with
  | .load t a => match evalA tm a with
    | .ptr g off => match P.info? t with
      | some i => apartB fp g off (max i.size 1)
      | none => true
    | .gptr .. => false
    | _ => true
  | .call c => match c.callee with
    | .value _ => true
    | .builtin .len => true
    | _ => false
  | _ => true

def regionC (P : Program) (X : CX β) (ops : Array Oper) (draw : Bool) (tm : List AV) (hp : List Blk) (b : β) (K : List AV → List Blk → β → Prop) : Prop :=
  if draw then match findK ops (leadPure ops.toList) with
    | some k => if k ≤ ops.size then preC P X ops hp (ops.toList.take k) tm [] fun tmK tb =>
        if (tb.map (·.1)).Nodup then opsC P X ops (ops.toList.drop k) ⟨tmK, hp, pvAll P hp tmK (ops.toList.take k)⟩ b fun s b => K s.tm s.hp b else False
      else False
    | none => match findN ops (leadPure ops.toList) (leadStores (ops.toList.drop (leadPure ops.toList))) with
      | some n => if leadPure ops.toList + n ≤ ops.size then preC P X ops hp (ops.toList.take (leadPure ops.toList)) tm [] fun tmK tb =>
          if (tb.map (·.1)).Nodup then match xLates P tmK ((ops.toList.drop (leadPure ops.toList)).take n) hp with
            | some hps => match hps[n]? with
              | some hpn => BIf ((ops.toList.take (leadPure ops.toList)).all (frameB P tmK (storeFps tmK ((ops.toList.drop (leadPure ops.toList)).take n))))
                  (opsC P X ops (ops.toList.drop (leadPure ops.toList + n)) ⟨tmK, hpn, []⟩ b fun s b => K s.tm s.hp b) False
              | none => False
            | none => False
          else False
        else False
      | none => False
  else opsC P X ops ops.toList ⟨tm, hp, []⟩ b fun s b => K s.tm s.hp b

def blockK (id : Nat) (K : Exit → List AV → List Blk → β → Prop) : Exit → List AV → List Blk → β → Prop
  | .exit id', tm, hp, b => if id' = id then K .normal tm hp b else K (.exit id') tm hp b
  | e, tm, hp, b => K e tm hp b

def thenK (K' : List AV → List Blk → β → Prop) (K : Exit → List AV → List Blk → β → Prop) : Exit → List AV → List Blk → β → Prop
  | .normal, tm, hp, b => K' tm hp b
  | e, tm, hp, b => K e tm hp b

/-- no jump to a label within -/
def scopeK (K : Exit → List AV → List Blk → β → Prop) : Exit → List AV → List Blk → β → Prop
  | .goto _, _, _, _ => False
  | e, tm, hp, b => K e tm hp b

def rounds (body : List AV → List Blk → β → (Exit → List AV → List Blk → β → Prop) → Prop) : Nat → List AV → List Blk → β → (Exit → List AV → List Blk → β → Prop) → Prop
  | 0, _, _, _, _ => False
  | m + 1, tm, hp, b, K => body tm hp b (thenK (fun tm hp b => rounds body m tm hp b K) K)

def wpc (P : Program) (X : CX β) : Nat → Code → List AV → List Blk → β → (Exit → List AV → List Blk → β → Prop) → Prop
  | 0, _, _, _, _, _ => False
  | n + 1, c, tm, hp, b, K => match c with
    | .skip => K .normal tm hp b
    | .label _ => K .normal tm hp b
    | .exit id => K (.exit id) tm hp b
    | .goto l => K (.goto l) tm hp b
    | .ret => K .ret tm hp b
    | .region _ ops d => regionC P X ops d tm hp b (K .normal)
    | .seq x y => wpc P X n x tm hp b (thenK (fun tm hp b => wpc P X n y tm hp b K) K)
    | .cond x c c' => match evalA tm x with
      | .d (.s (.bool t)) => BIf t (wpc P X n c (setB tm x true) hp b K) (wpc P X n c' (setB tm x false) hp b K)
      | _ => False
    | .block id c => wpc P X n c tm hp b (blockK id K)
    | .loop c => if X.unroll then rounds (wpc P X n c) 1000 tm hp b K else X.wl (.loop c) tm hp b K
    | .rangeFunc f ps assign body => X.wl (.rangeFunc f ps assign body) tm hp b K
    | .scope c => wpc P X n c tm hp b (scopeK K)
    | .refuse _ => False

/-- how a function's body ends -/
def fnK (P : Program) (fn : Func) (R : AV → β → Prop) : Exit → List AV → List Blk → β → Prop := fun e tm hp b =>
  BIf (match e with | .ret => true | .normal => true | _ => false) (match resAs P hp tm fn.results.toList with
    | some ys => match sealV hp (resV ys) with
      | some y => R y b
      | none => False
    | none => False) False

/-- of a function -/
def wpFn (P : Program) (X : CX β) (n : Nat) (fn : Func) (args : List AV) (b : β) (R : AV → β → Prop) : Prop :=
  match fn.body with
  | some c => wpc P X n c (startTm fn args) [] b (fnK P fn R)
  | none => False

end
end Go.Proofs.Ytgdeoaiakdkhcaa.Am
