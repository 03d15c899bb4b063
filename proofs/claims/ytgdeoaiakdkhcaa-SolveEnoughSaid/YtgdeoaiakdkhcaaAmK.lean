/- All quiet operations together. -/
import Derived.Test.YtgdeoaiakdkhcaaAmJ
namespace Go.Proofs.Ytgdeoaiakdkhcaa.Am
set_option linter.unusedVariables false
open Go Go.RowKit

/-- the rows that are appended -/
def srcRows (k : Nat) (x : AV) : Option (List (List Dv)) :=
  if isNilSlice x then some [] else match x.rows? with
    | some (k', ys) => if k' = k then some ys else none
    | none => none

/-- what an append needs to know of its types -/
def appInfo (P : Program) (ts : Array TypeId) : Option (TypeId × TypeInfo) :=
  match ts[0]?, ts[1]? with
  | some t, some t' => if ts.size = 2 ∧ t = t' then match P.underlying t with
    | some (.slice e) => match P.info? e with
      | some i => match i.zero with
        | some z => if z.cells.size = i.size ∧ 0 < i.size ∧ 0 < i.bytes then some (e, i) else none
        | none => none
      | none => none
    | _ => none
    else none
  | _, _ => none

def xAppendQ (P : Program) (ts : Array TypeId) (d s : AV) : Option AV :=
  match appInfo P ts with
  | some (e, i) => match srcRows i.size s with
    | some ys => if isNilSlice d then (if ys.length * i.bytes ≤ 140737488355328 then some (.own e i.size ys) else none)
      else match d with
        | .full k xs => if k = i.size ∧ (xs.length + ys.length) * i.bytes ≤ 140737488355328 then (if ys.isEmpty then some (.full k xs) else some (.own e k (xs ++ ys))) else none
        | _ => none
    | none => none
  | none => none

def xLen (P : Program) (hp : List Blk) (ts : Array TypeId) (x : AV) : Option AV :=
  match ts[0]? with
  | some t => if ts.size = 1 then match P.underlying t with
    | some (.slice _) => (x.len? hp).map fun (n : Nat) => AV.d (.s (goInt (n : Int)))
    | _ => none
    else none
  | none => none

def xNil (P : Program) (op : BinOp) (t : TypeId) (x y : AV) : Option AV :=
  match op, P.underlying t with
  | .eql, some (.slice _) => if isNilSlice y then (x.nil?).map fun b => .d (.s (.bool b)) else if isNilSlice x then (y.nil?).map fun b => .d (.s (.bool b)) else none
  | .neq, some (.slice _) => if isNilSlice y then (x.nil?).map fun b => .d (.s (.bool !b)) else if isNilSlice x then (y.nil?).map fun b => .d (.s (.bool !b)) else none
  | _, _ => none

def isPtr : AV → Bool
  | .ptr .. | .rptr .. => true
  | _ => false

def AV.isOwn : AV → Bool
  | .own .. => true
  | _ => false

/-- quiet operations -/
def xq (P : Program) (hp : List Blk) (ρ : Operand → AV) (o : Oper) : Option AV :=
  match o.op with
  | .move x => some (ρ x).view
  | .assign x => if (ρ x).isOwn then none else some (ρ x).view
  | .pick c a b => match ρ c with
    | .d (.s (.bool t)) => some (if t then (ρ a).view else (ρ b).view)
    | _ => none
  | .extract x i => match ρ x with
    | .tup vs => (vs[i]?).map AV.view
    | _ => none
  | .load t a => xLoad P hp t (ρ a)
  | .nilCheck x => if isPtr (ρ x) then some (ρ x) else none
  | .binOp op t x y _ => match xNil P op t (ρ x) (ρ y) with
    | some r => some r
    | none => xVal P ρ o
  | .makeFunc f first caps => if AV.isYield f then none else some (.fn f (first.toList.map fun x => (ρ x).view) (caps.toList.map fun x => (ρ x).view))
  | .slice t x lo hi mx => match xSlice P hp t (ρ x) (lo.map ρ) (hi.map ρ) (mx.map ρ) with
    | some r => some r
    | none => xVal P ρ o
  | .fieldAddr t x f => xFieldAddr P hp t (ρ x) f
  | .field t x f => match ρ x with
    | .agg cs => xField P t cs f
    | _ => none
  | .indexAddr t x ix => xIndexAddr P hp t (ρ x) (ρ ix)
  | .index t x ix => match ρ x with
    | .agg cs => xIndex P t cs (ρ ix)
    | _ => xVal P ρ o
  | .build t parts => xBuild P t (parts.toList.map fun p => (p.1, ρ p.2))
  | .buildSlice t n parts => xBuildSlice P t n (parts.toList.map fun p => (p.1, ρ p.2))
  | .call c => match c.callee with
    | .builtin .len => match c.args[0]? with
      | some x => if c.args.size = 1 then (match xLen P hp c.argTypes (ρ x) with
        | some r => some r
        | none => xVal P ρ o) else none
      | none => none
    | .builtin .append => match c.args[0]?, c.args[1]? with
      | some x, some y => if c.args.size = 2 then xAppendQ P c.argTypes (ρ x) (ρ y) else none
      | _, _ => none
    | .builtin _ => xVal P ρ o
    | _ => none
  | .unOp .. | .convert .. | .makeInterface .. => xVal P ρ o
  | _ => none

section
variable {P : Program} {S S' X : Pr} {yv : Option Nat} {w w' : World} {m : List MB} {A B : List (AV × Value)} {hp : List Blk} {hv : List (List Value)}

theorem isNilSlice_spec {x : AV} {v : Value} (h : isNilSlice x = true) (hr : RV S w m yv x v) : v = .slice none 0 0 := by
  unfold isNilSlice at h
  split at h
  · cases hr with | d hd => cases hd; rfl
  · cases h

theorem srcRows_spec {k : Nat} {x : AV} {v : Value} {ys : List (List Dv)} (h : srcRows k x = some ys) (hr : RV S w m yv x v) : DR S w (.sl k ys) v := by
  unfold srcRows at h
  split at h
  · rename_i hn
    cases h
    rw [isNilSlice_spec hn hr]; exact .nil k
  · split at h <;> try (cases h; done)
    rename_i k' ys' hrows
    split at h <;> try (cases h; done)
    rename_i hk
    cases h; subst hk
    exact rows?_spec hrows hr

theorem appInfo_spec {ts : Array TypeId} {e : TypeId} {i : TypeInfo} (h : appInfo P ts = some (e, i)) :
    ∃ t z, ts = #[t, t] ∧ P.underlying t = some (.slice e) ∧ P.info? e = some i ∧ i.zero = some z ∧ z.cells.size = i.size ∧ 0 < i.size ∧ 0 < i.bytes := by
  unfold appInfo at h
  split at h <;> try (cases h; done)
  rename_i t t' h1 h2
  split at h <;> try (cases h; done)
  rename_i hc
  obtain ⟨hc1, rfl⟩ := hc
  split at h <;> try (cases h; done)
  rename_i e' hu
  split at h <;> try (cases h; done)
  rename_i i' hi
  split at h <;> try (cases h; done)
  rename_i z hz
  split at h <;> try (cases h; done)
  rename_i hcc
  cases h
  refine ⟨t, z, ?_, hu, hi, hz, hcc⟩
  apply Array.ext_getElem?
  intro j
  match j with
  | 0 => simpa using h1
  | 1 => simpa using h2
  | j + 2 => simp [Array.getElem?_eq_none (by omega : ts.size ≤ j + 2)]

theorem xAppendQ_sound {ts : Array TypeId} {ty : TypeId} {d s x : AV} {vd vs : Value} (h : Rel S X yv w m A hp hv) (hd : RV S w m yv d vd) (hs : RV S w m yv s vs) (hx : xAppendQ P ts d s = some x) :
    QOk P S X yv w m A hp hv (do pure (.value (← Builtin.append_ ts ty #[vd, vs]))) x := by
  unfold xAppendQ at hx
  split at hx <;> try (cases hx; done)
  rename_i e i hinf
  obtain ⟨t, z, rfl, ht, hi, hz, hzs, hsz, hby⟩ := appInfo_spec hinf
  split at hx <;> try (cases hx; done)
  rename_i ys hys
  have hu := srcRows_spec hys hs
  split at hx
  · rename_i hn
    split at hx <;> try (cases hx; done)
    rename_i hfit
    cases hx
    have hvd := isNilSlice_spec hn hd
    subst hvd
    have hfull : RV S w m yv (.full i.size []) (.slice none 0 0) := .full (xs := []) (.nil _)
    by_cases hy : ys = []
    · subst hy
      obtain ⟨ub, uc, news, rfl, _⟩ := hu.flat
      refine QOk.same h (v := .slice none 0 0) ?_ .ownNil rfl
      simp [run_append_zero w t e i ty ht hi none ub 0 0 uc (Nat.le_refl _)]
    · obtain ⟨v', w', S', h1, h2, h3, h4⟩ := append_full (ty := ty) ht hi hz hzs hby h hfull hu (by simpa using hfit) hy
      exact ⟨v', w', S', by simp [h1], h2, h3, h4⟩
  · split at hx <;> try (cases hx; done)
    rename_i k xs _
    split at hx <;> try (cases hx; done)
    rename_i hc
    obtain ⟨rfl, hfit⟩ := hc
    split at hx
    · rename_i hy
      cases hx
      have hy : ys = [] := List.isEmpty_iff.1 hy
      subst hy
      obtain ⟨ub, uc, news, rfl, _⟩ := hu.flat
      have hd' := hd
      cases hd' with
      | full hdd =>
        rename_i a
        refine QOk.same h (v := .slice a xs.length xs.length) ?_ hd rfl
        simp [run_append_zero w t e i ty ht hi a ub xs.length xs.length uc (Nat.le_refl _)]
    · rename_i hy
      cases hx
      obtain ⟨v', w', S', h1, h2, h3, h4⟩ := append_full (ty := ty) ht hi hz hzs hby h hd hu hfit (by intro h0; subst h0; simp at hy)
      exact ⟨v', w', S', by simp [h1], h2, h3, h4⟩

theorem xLen_sound {ts : Array TypeId} {ty : TypeId} {x r : AV} {v : Value} (h : Rel S X yv w m A hp hv) (hr : RV S w m yv x v) (hx : xLen P hp ts x = some r) :
    QOk P S X yv w m A hp hv (do pure (.value (← Builtin.len_ ts ty #[v]))) r := by
  unfold xLen at hx
  split at hx <;> try (cases hx; done)
  rename_i t ht
  split at hx <;> try (cases hx; done)
  rename_i hsz
  split at hx <;> try (cases hx; done)
  rename_i e hu
  simp only [Option.map_eq_some_iff] at hx
  obtain ⟨n, hn, rfl⟩ := hx
  obtain ⟨base, cap, rfl⟩ := len?_spec h hr hn
  have hts : ts = #[t] := by
    apply Array.ext_getElem?
    intro j
    match j with
    | 0 => simpa using ht
    | j + 1 => simp [Array.getElem?_eq_none (by omega : ts.size ≤ j + 1)]
  subst hts
  exact QOk.same h (v := goInt n) (by simp [len_run hu]) (.d (.s _)) rfl

theorem xNil_sound {op : BinOp} {t : TypeId} {x y : Operand} {ax ay r : AV} {vx vy : Value} (h : Rel S X yv w m A hp hv) (h1 : RV S w m yv ax vx) (h2 : RV S w m yv ay vy) (hx : xNil P op t ax ay = some r) :
    QOk P S X yv w m A hp hv (do pure (.value (← (do eqGuard op t x y vx vy; binOp op t vx vy : Sem Value)))) r := by
  unfold xNil at hx
  split at hx <;> try (cases hx; done)
  all_goals
    rename_i hu
    split at hx
    · rename_i hn
      simp only [Option.map_eq_some_iff] at hx
      obtain ⟨b, hb, rfl⟩ := hx
      have := isNilSlice_spec hn h2
      subst this
      obtain ⟨base, n, cap, rfl, hbb⟩ := nil?_spec h1 hb
      subst hbb
      obtain ⟨q1, q2, q3, q4⟩ := eql_nil_run hu base n cap x y w
      first
        | exact QOk.same h (v := .bool base.isNone) (by rw [Sem.run_bind, q1]; rfl) (.d (.s _)) rfl
        | exact QOk.same h (v := .bool !base.isNone) (by rw [Sem.run_bind, q2]; rfl) (.d (.s _)) rfl
    · split at hx <;> try (cases hx; done)
      rename_i hn
      simp only [Option.map_eq_some_iff] at hx
      obtain ⟨b, hb, rfl⟩ := hx
      have := isNilSlice_spec hn h1
      subst this
      obtain ⟨base, n, cap, rfl, hbb⟩ := nil?_spec h2 hb
      subst hbb
      obtain ⟨q1, q2, q3, q4⟩ := eql_nil_run hu base n cap x y w
      first
        | exact QOk.same h (v := .bool base.isNone) (by rw [Sem.run_bind, q3]; rfl) (.d (.s _)) rfl
        | exact QOk.same h (v := .bool !base.isNone) (by rw [Sem.run_bind, q4]; rfl) (.d (.s _)) rfl

theorem map_RVs {ρA : Operand → AV} {ρ : Operand → Value} (xs : Array Operand) (h : ∀ y ∈ xs, RV S w m yv (ρA y) (ρ y)) :
    RVs S w m yv (xs.toList.map fun x => (ρA x).view) (xs.map ρ).toList := by
  refine ⟨by simp, fun i c v h1 h2 => ?_⟩
  simp only [List.getElem?_map, Option.map_eq_some_iff] at h1
  obtain ⟨y, h1, rfl⟩ := h1
  simp only [Array.getElem?_toList, Array.getElem?_map] at h1 h2
  rw [h1] at h2
  simp only [Option.map_some, Option.some.injEq] at h2
  subst h2
  exact (h y (Array.mem_of_getElem? h1)).view

theorem parts_RVs {ρA : Operand → AV} {ρ : Operand → Value} (ps : Array (Nat × Operand)) (h : ∀ y ∈ ps, RV S w m yv (ρA y.2) (ρ y.2)) :
    (ps.toList.map fun p => (p.1, ρA p.2)).length = (ps.map fun (i, x) => (i, ρ x)).size ∧ ∀ (j : Nat) (p : Nat × AV) (q : Nat × Value), (ps.toList.map fun p => (p.1, ρA p.2))[j]? = some p → (ps.map fun (i, x) => (i, ρ x))[j]? = some q →
      p.1 = q.1 ∧ RV S w m yv p.2 q.2 := by
  refine ⟨by simp, fun j p q h1 h2 => ?_⟩
  simp only [List.getElem?_map, Option.map_eq_some_iff, Array.getElem?_toList] at h1
  obtain ⟨y, h1, rfl⟩ := h1
  simp only [Array.getElem?_map, h1, Option.map_some, Option.some.injEq] at h2
  subst h2
  exact ⟨rfl, h y (Array.mem_of_getElem? h1)⟩

theorem builtin_exec {ρ : Operand → Value} {o : Oper} {c : Call} {b : Builtin} (ho : o.op = .call c) (hc : c.callee = .builtin b) (w : World) :
    ∃ consts, (execOp ρ o).run P w = (builtin b c.argTypes o.type consts (c.args.map ρ)).run P w := by
  unfold execOp
  simp only [ho, resolve, hc, Sem.run_bind, Sem.run_pure, Result.andThen_ok, invoke]
  exact ⟨_, rfl⟩

theorem xq_sound {ρA : Operand → AV} {ρ : Operand → Value} {o : Oper} {x : AV} (h : Rel S X yv w m (B ++ cellPairs hp hv) hp hv) (hρ : ∀ y ∈ o.op.operands, RV S w m yv (ρA y) (ρ y))
    (hx : xq P hp ρA o = some x) : QOk P S X yv w m (B ++ cellPairs hp hv) hp hv (execOp ρ o) x := by
  unfold xq at hx
  split at hx
  · rename_i y ho
    cases hx
    refine QOk.same h (v := ρ y) (by unfold execOp; rw [ho]; rfl) (hρ y (by simp [ho, Op.operands])).view (ownB_view _ _)
  · rename_i y ho
    split at hx <;> try (cases hx; done)
    cases hx
    refine QOk.same h (v := ρ y) (by unfold execOp; rw [ho]; rfl) (hρ y (by simp [ho, Op.operands])).view (ownB_view _ _)
  · rename_i c a b ho
    split at hx <;> try (cases hx; done)
    rename_i t hc
    cases hx
    have h1 := hρ c (by simp [ho, Op.operands])
    rw [hc] at h1
    have h2 : ρ c = .bool t := toVal?_spec (x := .d (.s (.bool t))) rfl h1
    refine QOk.same h (v := if t then ρ a else ρ b) (by unfold execOp; rw [ho]; simp [h2, asBool]) ?_ (by cases t <;> exact ownB_view _ _)
    cases t
    · exact (hρ b (by simp [ho, Op.operands])).view
    · exact (hρ a (by simp [ho, Op.operands])).view
  · rename_i y i ho
    split at hx <;> try (cases hx; done)
    rename_i vs hy
    simp only [Option.map_eq_some_iff] at hx
    obtain ⟨c, hc, rfl⟩ := hx
    have h1 := hρ y (by simp [ho, Op.operands])
    rw [hy] at h1
    generalize hvy : ρ y = vy at h1
    cases h1 with
    | tup hl hr =>
      rename_i us
      have hi : i < us.size := by rw [← hl]; exact (List.getElem?_eq_some_iff.1 hc).1
      exact QOk.same h (v := us[i]) (by unfold execOp; rw [ho]; simp [hvy, Instr.extract, hi]) (hr i c us[i] hc (by simp [hi])).view (ownB_view _ _)
  · rename_i t a ho
    have h1 := xLoad_sound h (hρ a (by simp [ho, Op.operands])) hx
    unfold execOp; rw [ho]; exact h1
  · rename_i y ho
    split at hx <;> try (cases hx; done)
    rename_i hy
    cases hx
    have h1 := hρ y (by simp [ho, Op.operands])
    have h2 : ∃ a, ρ y = .pointer (some a) := by
      cases hr : ρA y with
      | ptr g off => rw [hr] at h1; generalize ρ y = vy at h1; cases h1; exact ⟨_, rfl⟩
      | rptr cs => rw [hr] at h1; generalize ρ y = vy at h1; cases h1; exact ⟨_, rfl⟩
      | _ => rw [hr] at hy; cases hy
    obtain ⟨a, h3⟩ := h2
    refine QOk.same h (v := ρ y) (by unfold execOp; rw [ho]; simp [h3]) h1 ?_
    cases hr : ρA y with
    | ptr g off => rfl
    | rptr cs => rfl
    | _ => rw [hr] at hy; cases hy
  · rename_i op t y z ty ho
    split at hx
    · rename_i r hn
      cases hx
      have := xNil_sound (x := y) (y := z) h (hρ y (by simp [ho, Op.operands])) (hρ z (by simp [ho, Op.operands])) hn
      unfold execOp; rw [ho]; exact this
    · exact xVal_sound h (by simp [ho]) hρ hx
  · rename_i f first caps ho
    split at hx <;> try (cases hx; done)
    rename_i hf
    cases hx
    have := makeFunc_sound (P := P) (fv := first.map ρ) (cv := caps.map ρ) h (by simpa using hf) (map_RVs first (fun y hy => hρ y (by simp [ho, Op.operands, hy]))) (map_RVs caps (fun y hy => hρ y (by simp [ho, Op.operands, hy])))
    unfold execOp; rw [ho]; exact this
  · rename_i t y lo hi mx ho
    split at hx
    · rename_i r hr
      cases hx
      have := xSlice_sound (P := P) (vlo := lo.map ρ) (vhi := hi.map ρ) (vmx := mx.map ρ) h (hρ y (by simp [ho, Op.operands]))
        (fun a ha => by cases lo <;> simp at ha; subst ha; exact ⟨_, rfl, hρ _ (by simp [ho, Op.operands])⟩) (fun ha => by cases lo <;> simp_all)
        (fun a ha => by cases hi <;> simp at ha; subst ha; exact ⟨_, rfl, hρ _ (by simp [ho, Op.operands])⟩) (fun ha => by cases hi <;> simp_all)
        (fun a ha => by cases mx <;> simp at ha; subst ha; exact ⟨_, rfl, hρ _ (by simp [ho, Op.operands])⟩) (fun ha => by cases mx <;> simp_all) hr
      unfold execOp; rw [ho]; exact this
    · exact xVal_sound h (by simp [ho]) hρ hx
  · rename_i t y f ho
    have := xFieldAddr_sound h (hρ y (by simp [ho, Op.operands])) hx
    unfold execOp; rw [ho]; exact this
  · rename_i t y f ho
    split at hx <;> try (cases hx; done)
    rename_i cs hy
    have h1 := hρ y (by simp [ho, Op.operands])
    rw [hy] at h1
    have := xField_sound h h1 hx
    unfold execOp; rw [ho]; exact this
  · rename_i t y ix ho
    have := xIndexAddr_sound h (hρ y (by simp [ho, Op.operands])) (hρ ix (by simp [ho, Op.operands])) hx
    unfold execOp; rw [ho]; exact this
  · rename_i t y ix ho
    split at hx
    · rename_i cs hy
      have h1 := hρ y (by simp [ho, Op.operands])
      rw [hy] at h1
      have := xIndex_sound h h1 (hρ ix (by simp [ho, Op.operands])) hx
      unfold execOp; rw [ho]; exact this
    · exact xVal_sound h (by simp [ho]) hρ hx
  · rename_i t parts ho
    obtain ⟨h1, h2⟩ := parts_RVs (S := S) (w := w) (m := m) (yv := yv) (ρA := ρA) (ρ := ρ) parts (fun y hy => hρ y.2 (by simp only [ho, Op.operands]; simp; exact ⟨y.1, hy⟩))
    have := xBuild_sound h h1 h2 hx
    unfold execOp; rw [ho]; exact this
  · rename_i t n parts ho
    obtain ⟨h1, h2⟩ := parts_RVs (S := S) (w := w) (m := m) (yv := yv) (ρA := ρA) (ρ := ρ) parts (fun y hy => hρ y.2 (by simp only [ho, Op.operands]; simp; exact ⟨y.1, hy⟩))
    have := xBuildSlice_sound h h1 h2 hx
    unfold execOp; rw [ho]; exact this
  · rename_i c ho
    split at hx
    · rename_i hc
      split at hx <;> try (cases hx; done)
      rename_i y hy
      split at hx <;> try (cases hx; done)
      rename_i hsz
      split at hx
      · rename_i r hl
        cases hx
        have hargs : c.args = #[y] := by
          apply Array.ext_getElem?
          intro j
          match j with
          | 0 => simpa using hy
          | j + 1 => simp [Array.getElem?_eq_none (by omega : c.args.size ≤ j + 1)]
        have := xLen_sound (ty := o.type) h (hρ y (by simp [ho, Op.operands, Call.operands, hc, hargs])) hl
        obtain ⟨v, w', S', g1, g2⟩ := this
        refine ⟨v, w', S', ?_, g2⟩
        obtain ⟨consts, hb⟩ := builtin_exec (P := P) (ρ := ρ) ho hc w
        rw [hb]
        simpa [builtin, hargs] using g1
      · exact xVal_sound h (by simp [ho]) hρ hx
    · rename_i hc
      split at hx <;> try (cases hx; done)
      rename_i y z hy hz
      split at hx <;> try (cases hx; done)
      rename_i hsz
      have hargs : c.args = #[y, z] := by
        apply Array.ext_getElem?
        intro j
        match j with
        | 0 => simpa using hy
        | 1 => simpa using hz
        | j + 2 => simp [Array.getElem?_eq_none (by omega : c.args.size ≤ j + 2)]
      have := xAppendQ_sound (ty := o.type) h (hρ y (by simp [ho, Op.operands, Call.operands, hc, hargs])) (hρ z (by simp [ho, Op.operands, Call.operands, hc, hargs])) hx
      obtain ⟨v, w', S', g1, g2⟩ := this
      refine ⟨v, w', S', ?_, g2⟩
      obtain ⟨consts, hb⟩ := builtin_exec (P := P) (ρ := ρ) ho hc w
      rw [hb]
      simpa [builtin, hargs] using g1
    · exact xVal_sound h (by simp [ho]) hρ hx
    · cases hx
  · rename_i ho; exact xVal_sound h (by simp [ho]) hρ hx
  · rename_i ho; exact xVal_sound h (by simp [ho]) hρ hx
  · rename_i ho; exact xVal_sound h (by simp [ho]) hρ hx
  · cases hx

end
end Go.Proofs.Ytgdeoaiakdkhcaa.Am
