/- One operation after the other: a region's run on the abstract state. -/
import Derived.Test.YtgdeoaiakdkhcaaAmL
namespace Go.Proofs.Ytgdeoaiakdkhcaa.Am
set_option linter.unusedVariables false
open Go Go.RowKit

/-- where an accumulator lies -/
inductive Loc where
  | slot (i : Nat)
  | cell (g off : Nat)
  deriving DecidableEq, Inhabited

/-- within a region: temporaries, blocks, and whence a temporary was read -/
structure RS where
  tm : List AV
  hp : List Blk
  pv : List (Nat × Loc) := []
  deriving Inhabited

def evalA (tm : List AV) : Operand → AV
  | .tmp t => tm.getD t .bad
  | .const v => ofVal v
  | .global _ => .bad
  | .func f => .fn (.func f) [] []

/-- is the operation wanted? -/
def wantedA (ops : Array Oper) (o : Oper) (tm : List AV) : Option Bool :=
  match o.guard with
  | none => some true
  | some (j, want) => match (ops[j]?).bind (·.dst) with
    | some t => match tm.getD t .bad with
      | .d (.s (.bool b)) => some (b == want)
      | .d (.s (.tuple _)) => some false
      | _ => none
    | none => none

def putA (tm : List AV) (d : Option Nat) (x : AV) : List AV :=
  match d with
  | some d => tm.set d x
  | none => tm

/-- what was read of a place is known no more behind a write -/
def pvPut (pv : List (Nat × Loc)) (d : Option Nat) : List (Nat × Loc) :=
  match d with
  | some d => pv.filter fun p => p.1 != d && p.2 != .slot d
  | none => pv

/-- a call's arguments, those that the function value brings with it too -/
def callArgs (tm : List AV) (f : AV) (args : Array Operand) : Option (Nat × List AV) :=
  match f with
  | .fn (.func k) first caps => some (k, (first ++ (args.toList.map (evalA tm)) ++ caps).map AV.view)
  | _ => none

/-- what is known of calls: p: those that turn no block; s: the others -/
structure CallT where
  p : Option Nat → Nat → List AV → Option AV
  s : Nat → List AV → List Blk → Option (AV × List Blk)

mutual
/-- it leans on no block of the activation's own -/
def AV.closed : AV → Bool
  | .agg cs => closeds cs
  | .tup cs => closeds cs
  | .fn _ first caps => closeds first && closeds caps
  | .ref .. | .ptr .. | .gref .. | .gptr .. | .yl | .own .. => false
  | _ => true
def closeds : List AV → Bool
  | [] => true
  | x :: r => x.closed && closeds r
end

def untake (tm : List AV) (x : Operand) : List AV :=
  match x with
  | .tmp t => tm.set t (tm.getD t .bad).view
  | _ => tm

/-- what a store lays down, and the temporaries behind it: the right to an accumulator's room goes along -/
def storeSrc (tm : List AV) (x : Operand) : Option (List AV × List AV) :=
  if (evalA tm x).isOwn then some (untake tm x, [evalA tm x]) else (xCells (evalA tm x)).map fun xs => (tm, xs)

/-- the accumulator at a place -/
def ownAt (s : RS) : Loc → Option (Nat × Nat × List (List Dv))
  | .slot x => match s.tm.getD x .bad with
    | .own e k xs => some (e, k, xs)
    | _ => none
  | .cell g off => match s.hp[g]? with
    | some blk => match blk.cells.getD off .bad with
      | .own e k xs => some (e, k, xs)
      | _ => none
    | none => none

/-- it loses its right -/
def demote (s : RS) : Loc → RS
  | .slot x => { s with tm := s.tm.set x (s.tm.getD x .bad).view }
  | .cell g off => match s.hp[g]? with
    | some blk => { s with hp := s.hp.set g { blk with cells := blk.cells.set off (blk.cells.getD off .bad).view } }
    | none => s

/-- append to an accumulator -/
def xa (P : Program) (s : RS) (o : Oper) : Option RS :=
  match o.op with
  | .call c => match c.callee, c.args[0]?, c.args[1]? with
    | .builtin .append, some (Operand.tmp t), some y => if c.args.size = 2 then
        match s.pv.lookup t with
        | some loc => match ownAt s loc, appInfo P c.argTypes with
          | some (e, k, xs), some (e', i) => match srcRows i.size (evalA s.tm y) with
            | some ys => if e = e' ∧ k = i.size ∧ (xs.length + ys.length) * i.bytes ≤ 140737488355328 then
                some { tm := putA (demote s loc).tm o.dst (.own e k (xs ++ ys)), hp := (demote s loc).hp, pv := [] } else none
            | none => none
          | _, _ => none
        | none => none
        else none
    | _, _, _ => none
  | _ => none

/-- one operation that turns blocks, or calls -/
def xh (P : Program) (call : CallT) (s : RS) (o : Oper) : Option RS :=
  match o.op with
  | .assign x => if (evalA s.tm x).isOwn then some { tm := putA (untake s.tm x) o.dst (evalA s.tm x), hp := s.hp, pv := [] } else none
  | .alloc t => match xAlloc P t with
    | some xs => some { tm := putA s.tm o.dst (.ptr s.hp.length 0), hp := s.hp ++ [⟨xs, false, false, 0⟩], pv := pvPut s.pv o.dst }
    | none => none
  | .box t x => match xCells (evalA s.tm x) with
    | some xs => some { tm := putA s.tm o.dst (.ptr s.hp.length 0), hp := s.hp ++ [⟨xs, false, false, 0⟩], pv := pvPut s.pv o.dst }
    | none => none
  | .store t a x => match storeSrc s.tm x with
    | some (tm, xs) => match xStore P s.hp t (evalA s.tm a) xs with
      | some hp => some { tm := putA tm o.dst .bad, hp := hp, pv := [] }
      | none => none
    | none => none
  | .makeSlice t l c => match xMake P t (evalA s.tm l) (evalA s.tm c) with
    | some (n, cap, k, xs) => some { tm := putA s.tm o.dst (.ref s.hp.length 0 n cap k), hp := s.hp ++ [⟨xs, false, false, 0⟩], pv := pvPut s.pv o.dst }
    | none => none
  | .call c => match c.callee with
    | .value f => match callArgs s.tm (evalA s.tm f) c.args with
      | some (k, args) => match (if closeds args then call.p o.dst k args else none) with
        | some r => some { tm := putA s.tm o.dst r.view, hp := s.hp, pv := pvPut s.pv o.dst }
        | none => match call.s k args s.hp with
          | some (r, hp) => some { tm := putA s.tm o.dst r.view, hp := hp, pv := [] }
          | none => none
      | none => none
    | .builtin .copy => match c.args[0]?, c.args[1]? with
      | some d, some y => if c.args.size = 2 then match xCopy P s.hp c.argTypes (evalA s.tm d) (evalA s.tm y) with
          | some (x, hp) => some { tm := putA s.tm o.dst x, hp := hp, pv := [] }
          | none => none
        else none
      | _, _ => none
    | _ => none
  | _ => none

/-- an accumulator is read out of its place -/
def pvRead (P : Program) (s : RS) (o : Oper) : Option (Nat × Loc) :=
  match o.dst, o.op with
  | some d, .move (.tmp x) => if (s.tm.getD x .bad).isOwn && x != d && (s.tm[d]?).isSome then some (d, .slot x) else none
  | some d, .load t (.tmp p) => match s.tm.getD p .bad with
    | .ptr g off => match s.hp[g]? with
      | some blk => if (blk.cells.getD off .bad).isOwn && !isAggT P t && (s.tm[d]?).isSome then some (d, .cell g off) else none
      | none => none
    | _ => none
  | _, _ => none

def xStep (P : Program) (call : CallT) (ops : Array Oper) (s : RS) (o : Oper) : Option RS :=
  match wantedA ops o s.tm with
  | some false => some { s with tm := putA s.tm o.dst (.d (.s undef)), pv := pvPut s.pv o.dst }
  | some true => match xa P s o with
    | some s' => some s'
    | none => match xh P call s o with
    | some s' => some s'
    | none => match xq P s.hp (evalA s.tm) o with
      | some x => some { s with tm := putA s.tm o.dst x, pv := (pvRead P s o).toList ++ pvPut s.pv o.dst }
      | none => none
  | none => none

section
variable {P : Program} {S S' S'' X : Pr} {yv : Option Nat} {w w' w'' : World} {m m' m'' : List MB} {A B : List (AV × Value)} {hp : List Blk} {hv : List (List Value)}

def PvOk (pv : List (Nat × Loc)) (tmps : Array Value) (hv : List (List Value)) : Prop :=
  ∀ p ∈ pv, match p.2 with
    | .slot x => ∃ v, tmps[p.1]? = some v ∧ tmps[x]? = some v
    | .cell g off => ∃ v vs, tmps[p.1]? = some v ∧ hv[g]? = some vs ∧ vs[off]? = some v

/-- the state of a region, tied -/
def RelS (S X : Pr) (yv : Option Nat) (w : World) (m : List MB) (B : List (AV × Value)) (hv : List (List Value)) (s : RS) (a : Act) : Prop :=
  s.tm.length = a.tmps.size ∧ Rel S X yv w m (s.tm.zip a.tmps.toList ++ (B ++ cellPairs s.hp hv)) s.hp hv ∧ PvOk s.pv a.tmps hv

theorem zip_mem {tm : List AV} {tmps : Array Value} (hl : tm.length = tmps.size) {t : Nat} {x : AV} (h : tm[t]? = some x) : ∃ v, tmps[t]? = some v ∧ (x, v) ∈ tm.zip tmps.toList := by
  have ht : t < tmps.size := by rw [← hl]; exact (List.getElem?_eq_some_iff.1 h).1
  refine ⟨tmps[t], by simp [ht], List.mem_iff_getElem?.2 ⟨t, ?_⟩⟩
  rw [List.getElem?_zip_eq_some]
  exact ⟨h, by simp [ht]⟩

theorem evalA_sound {s : RS} {a : Act} (h : RelS S X yv w m B hv s a) (x : Operand) : RV S w m yv (evalA s.tm x) (a.eval x) := by
  obtain ⟨hl, hr, _⟩ := h
  cases x with
  | tmp t =>
    simp only [evalA, Act.eval]
    cases ht : s.tm[t]? with
    | none => simp [List.getD, ht]; exact .bad
    | some y =>
      obtain ⟨v, hv, hm⟩ := zip_mem hl ht
      simp [List.getD, ht, hv]
      exact hr.rv _ (List.mem_append_left _ hm)
  | const v => exact RV.ofVal v
  | global g => exact .bad
  | func f => exact .fn (by simp) rfl rfl (by simp) (by simp)

theorem zip_set {tm : List AV} {vs : List Value} (d : Nat) (x : AV) (v : Value) : (tm.set d x).zip (vs.set d v) = (tm.zip vs).set d (x, v) := by
  induction tm generalizing vs d with
  | nil => simp
  | cons a tm ih =>
    cases vs with
    | nil => simp
    | cons b vs =>
      cases d with
      | zero => simp
      | succ d => simp [ih]

theorem putA_length (tm : List AV) (d : Option Nat) (x : AV) : (putA tm d x).length = tm.length := by cases d <;> simp [putA]

theorem put_size (a : Act) (d : Option Nat) (v : Value) : (a.put d v).tmps.size = a.tmps.size := by cases d <;> simp [Act.put]

/-- the result is laid into its temporary -/
theorem Rel.putTmp {tm : List AV} {a : Act} {C : List (AV × Value)} {x : AV} {v : Value} (hl : tm.length = a.tmps.size) (h : Rel S X yv w m ((x, v) :: (tm.zip a.tmps.toList ++ C)) hp hv) (d : Option Nat) :
    Rel S X yv w m ((putA tm d x).zip (a.put d v).tmps.toList ++ C) hp hv := by
  cases d with
  | none => exact h.sub (List.sublist_cons_self _ _)
  | some d =>
    have h1 := h.put d
    by_cases hd : d < tm.length
    · rw [List.set_append_left _ _ (by simp [hl]; omega)] at h1
      simpa [putA, Act.put, zip_set] using h1
    · have e1 : tm.set d x = tm := List.set_eq_of_length_le (by omega)
      have e2 : a.tmps.setIfInBounds d v = a.tmps := by
        apply Array.ext'; simp; exact List.set_eq_of_length_le (by simp; omega)
      simp only [putA, Act.put, e1, e2]
      exact h.sub (List.sublist_cons_self _ _)

theorem pvPut_ok {pv : List (Nat × Loc)} {a : Act} (h : PvOk pv a.tmps hv) (d : Option Nat) (v : Value) : PvOk (pvPut pv d) (a.put d v).tmps hv := by
  cases d with
  | none => exact h
  | some d =>
    intro p hp
    simp only [pvPut, List.mem_filter, Bool.and_eq_true, bne_iff_ne, ne_eq] at hp
    obtain ⟨hp, hne1, hne2⟩ := hp
    have := h p hp
    obtain ⟨t, loc⟩ := p
    simp only at hne1 hne2 this ⊢
    cases loc with
    | slot x =>
      simp only [Loc.slot.injEq] at hne2
      obtain ⟨u, h1, h2⟩ := this
      exact ⟨u, by simp [Act.put, Array.getElem?_setIfInBounds_ne (Ne.symm hne1), h1], by simp [Act.put, Array.getElem?_setIfInBounds_ne (Ne.symm hne2), h2]⟩
    | cell g off =>
      obtain ⟨u, vs, h1, h2, h3⟩ := this
      exact ⟨u, vs, by simp [Act.put, Array.getElem?_setIfInBounds_ne (Ne.symm hne1), h1], h2, h3⟩

/-- more lists of cells' values -/
theorem PvOk.mono {pv : List (Nat × Loc)} {tmps : Array Value} (h : PvOk pv tmps hv) {hv' : List (List Value)} (hh : ∀ (g : Nat) (vs : List Value), hv[g]? = some vs → hv'[g]? = some vs) : PvOk pv tmps hv' := by
  intro p hp
  have := h p hp
  obtain ⟨t, loc⟩ := p
  cases loc with
  | slot x => exact this
  | cell g off =>
    obtain ⟨u, vs, h1, h2, h3⟩ := this
    exact ⟨u, vs, h1, hh g vs h2, h3⟩

end
end Go.Proofs.Ytgdeoaiakdkhcaa.Am
