import Derived.Test.YtfeemohdpmdaoaaDoorJ0
import Derived.RangeFuncNested
set_option linter.unusedSimpArgs false
/- A region's run on the abstract state is the model's run. -/
namespace Go.Proofs.YtfeemohdpmdaoaaDoor.Am
set_option linter.unusedVariables false
open Go Go.RowKit

/-- the fence of an activation (of a loop's round, if r says so): it shuts nothing out -/
abbrev Fn (r : Option Nat) : Fence := { Fence.wide with round := r }

/-- a call's contract: abstract arguments and blocks lead to an abstract result and blocks -/
def SCall (P : Program) (f : Nat) (args : List AV) (hp : List Blk) (r : AV) (hp' : List Blk) : Prop :=
  (∀ (as : Array Value) (w : World), (callFunc f as).run P w = .ok (.enter f as) w) ∧
  ∀ (S X : Pr) (yv : Option Nat) (w : World) (m : List MB) (B : List (AV × Value)) (hv : List (List Value)) (vs : List Value), args.length = vs.length →
    Rel S X yv w m (args.zip vs ++ (B ++ cellPairs hp hv)) hp hv →
    CallsIn Fence.wide 0 P f vs.toArray w fun e w' => ∃ v S' m' hv', e = .returned v ∧ Gs S X none w m S' w' m' ∧ Rel S' X yv w' m' ((r.view, v) :: (B ++ cellPairs hp' hv')) hp' hv'

/-- a call's contract: abstract arguments that lean on no block lead to an abstract result; nothing that was there turns -/
def PCall (P : Program) (f : Nat) (args : List AV) (r : AV) : Prop :=
  (∀ (as : Array Value) (w : World), (callFunc f as).run P w = .ok (.enter f as) w) ∧
  ∀ (S : Pr) (w : World) (vs : List Value), args.length = vs.length → (∀ (i : Nat) (x : AV) (v : Value), args[i]? = some x → vs[i]? = some v → RV S w [] none x v) → (∀ b i, S b i → b < w.heap.size) → Glob S w →
    CallsIn Fence.wide 0 P f vs.toArray w fun e w' => ∃ v S', e = .returned v ∧ Below w.heap.size w w' ∧ (∀ b i, S b i → S' b i) ∧ (∀ b i, S' b i → S b i ∨ (w.heap.size ≤ b ∧ b < w'.heap.size)) ∧ RV S' w' [] none r.view v

structure CallOk (P : Program) (call : CallT) : Prop where
  p : ∀ d f args r, call.p d f args = some r → PCall P f args r
  s : ∀ f args hp r hp', call.s f args hp = some (r, hp') → SCall P f args hp r hp'

section
variable {P : Program} {S S' S'' X : Pr} {yv : Option Nat} {w w' w'' : World} {m m' m'' : List MB} {A B : List (AV × Value)} {hp hp' : List Blk} {hv : List (List Value)} {call : CallT} {s s' : RS} {a : Act} {o : Oper} {ops : Array Oper}

theorem wpIn_value {r : Option Nat} {K : Act → World → Prop} {Q : Exit → Act → World → Prop} {nx : Next} {v : Value} (hd : ∀ c, o.op ≠ .defer c) (hrun : (execOp a.eval o).run P w = .ok nx w')
    (hnx : nx = .value v ∨ (nx = .skip ∧ v = undef)) (hK : K (a.put o.dst v) w') : o.wpIn (Fn r) 0 P a w K Q := by
  refine ⟨fun f _ => trivial, ?_⟩
  rw [Oper.semAt_eq _ _ _ hd, hrun]
  rcases hnx with rfl | ⟨rfl, rfl⟩ <;> exact hK

/-- what is wanted behind an operation -/
def Nx (S X : Pr) (yv : Option Nat) (w : World) (m : List MB) (B : List (AV × Value)) (s' : RS) (a : Act) (K : Act → World → Prop) : Prop :=
  ∀ S' w' m' hv' a', Gs S X none w m S' w' m' → RelS S' X yv w' m' B hv' s' a' → a'.defers = a.defers → a'.tmps.size = a.tmps.size → K a' w'

theorem put_defers (a : Act) (d : Option Nat) (v : Value) : (a.put d v).defers = a.defers := by cases d <;> rfl

/-- a value is laid into its temporary: what stands in the way of the region's state -/
theorem Nx.of {K : Act → World → Prop} {tm : List AV} {x : AV} {v : Value} {pv : List (Nat × Loc)} {hv' : List (List Value)} (hN : Nx S X yv w m B ⟨putA tm o.dst x, hp', pv⟩ a K) (hg : Gs S X none w m S' w' m')
    (hl : tm.length = a.tmps.size) (hr : Rel S' X yv w' m' ((x, v) :: (tm.zip a.tmps.toList ++ (B ++ cellPairs hp' hv'))) hp' hv') (hpv : PvOk pv (a.put o.dst v).tmps hv') : K (a.put o.dst v) w' :=
  hN S' w' m' hv' _ hg ⟨by rw [putA_length, put_size]; exact hl, hr.putTmp hl o.dst, hpv⟩ (put_defers _ _ _) (put_size _ _ _)

/-! ### the places of accumulators -/
theorem lookup_mem {pv : List (Nat × Loc)} {t : Nat} {loc : Loc} (h : pv.lookup t = some loc) : (t, loc) ∈ pv := by
  induction pv with
  | nil => simp at h
  | cons p pv ih =>
    obtain ⟨t', loc'⟩ := p
    simp only [List.lookup_cons] at h
    split at h
    · rename_i he; cases h; simp at he; subst he; simp
    · exact List.mem_cons_of_mem _ (ih h)

theorem perm_erase {α : Type} (l : List α) (d : Nat) (x : α) (h : l[d]? = some x) : l.Perm (x :: l.eraseIdx d) := by
  induction l generalizing d with
  | nil => simp at h
  | cons a l ih =>
    cases d with
    | zero => simp at h; subst h; simp
    | succ d =>
      simp only [List.getElem?_cons_succ] at h
      simp only [List.eraseIdx_cons_succ]
      exact ((ih d h).cons a).trans (List.Perm.swap _ _ _)

theorem perm_set' {α : Type} (l : List α) (d : Nat) (x y : α) (h : l[d]? = some x) : (l.set d y).Perm (y :: l.eraseIdx d) :=
  (perm_set l d y (List.getElem?_eq_some_iff.1 h).1).symm

theorem list_set_self {α : Type} {l : List α} {i : Nat} {x : α} (h : l[i]? = some x) : l.set i x = l := by
  apply List.ext_getElem?
  intro j
  by_cases hj : i = j
  · subst hj; rw [List.getElem?_set_self (List.getElem?_eq_some_iff.1 h).1, h]
  · rw [List.getElem?_set_ne hj]

/-- a cell of a block takes another reading -/
theorem cellPairs_set {g off : Nat} {blk : Blk} {vs : List Value} {c : AV} {u : Value} (y : AV) (h1 : hp[g]? = some blk) (h2 : hv[g]? = some vs) (h3 : blk.cells[off]? = some c) (h4 : vs[off]? = some u) :
    ∃ L, (cellPairs hp hv).Perm ((c, u) :: L) ∧ (cellPairs (hp.set g { blk with cells := blk.cells.set off y }) hv).Perm ((y, u) :: L) := by
  obtain ⟨pre, post, e1, e2⟩ := cellPairs_split h1 h2
  have e3 := e2 { blk with cells := blk.cells.set off y } vs
  rw [list_set_self h2] at e3
  have hz : (blk.cells.zip vs)[off]? = some (c, u) := by rw [List.getElem?_zip_eq_some]; exact ⟨h3, h4⟩
  have hz2 : (blk.cells.set off y).zip vs = (blk.cells.zip vs).set off (y, u) := by
    conv => lhs; rw [← list_set_self h4]
    rw [zip_set]
  refine ⟨pre ++ (blk.cells.zip vs).eraseIdx off ++ post, ?_, ?_⟩
  · rw [e1]
    simp only [List.append_assoc]
    refine ((List.perm_append_comm_assoc _ _ _).trans ?_)
    refine ((List.Perm.append_right _ (perm_erase _ _ _ hz)).trans ?_)
    simp only [List.cons_append]
    refine List.Perm.cons _ ?_
    exact List.perm_append_comm_assoc _ _ _
  · rw [e3, hz2]
    simp only [List.append_assoc]
    refine ((List.perm_append_comm_assoc _ _ _).trans ?_)
    refine ((List.Perm.append_right _ (perm_set' _ _ _ (y, u) hz)).trans ?_)
    simp only [List.cons_append]
    refine List.Perm.cons _ ?_
    exact List.perm_append_comm_assoc _ _ _

/-- the table of blocks does not look at readings -/
theorem Rel.rehp {hp' : List Blk} (h : Rel S X yv w m A hp hv) (hl : hp'.length = hp.length)
    (hb : ∀ (g : Nat) (b : Blk), hp'[g]? = some b → ∃ b0, hp[g]? = some b0 ∧ b.cells.length = b0.cells.length ∧ b.fro = b0.fro ∧ b.grow = b0.grow ∧ b.ver = b0.ver) : Rel S X yv w m A hp' hv := by
  refine ⟨h.lt, h.rv, h.pw, h.nm, h.sp, h.mnd, by rw [h.ml, hl], by rw [h.hl, hl], fun g blk p vs e1 e2 e3 => ?_, h.gl⟩
  obtain ⟨b0, g1, g2, g3, g4, g5⟩ := hb g blk e1
  have := h.bl g b0 p vs g1 e2 e3
  rw [g2, g3, g4, g5]; exact this

theorem ownAt_spec {loc : Loc} {e k : Nat} {xs : List (List Dv)} {t : Nat} (h : RelS S X yv w m B hv s a) (hpv : (t, loc) ∈ s.pv) (ho : ownAt s loc = some (e, k, xs)) :
    ∃ v L, a.tmps[t]? = some v ∧ (s.tm.zip a.tmps.toList ++ (B ++ cellPairs s.hp hv)).Perm ((.own e k xs, v) :: L) ∧
      ((demote s loc).tm.zip a.tmps.toList ++ (B ++ cellPairs (demote s loc).hp hv)).Perm ((.d (.sl k xs), v) :: L) ∧ (demote s loc).tm.length = s.tm.length ∧
      (∀ (S' : Pr) (w' : World) (m' : List MB) C, Rel S' X yv w' m' C s.hp hv → Rel S' X yv w' m' C (demote s loc).hp hv) := by
  obtain ⟨hl, hr, hp⟩ := h
  have hpp := hp _ hpv
  cases loc with
  | slot x =>
    obtain ⟨v, h1, h2⟩ := hpp
    simp only [ownAt] at ho
    split at ho <;> try (cases ho; done)
    rename_i e' k' xs' hx
    cases ho
    have hxl : s.tm[x]? = some (.own e k xs) := by
      cases hh : s.tm[x]? with
      | none => simp [List.getD, hh] at hx
      | some y => simp [List.getD, hh] at hx; rw [hx]
    have hz : (s.tm.zip a.tmps.toList)[x]? = some (.own e k xs, v) := by
      rw [List.getElem?_zip_eq_some]; exact ⟨hxl, by simpa using h2⟩
    refine ⟨v, (s.tm.zip a.tmps.toList).eraseIdx x ++ (B ++ cellPairs s.hp hv), h1, ?_, ?_, by simp [demote], fun _ _ _ C hC => hC⟩
    · rw [← List.cons_append]; exact List.Perm.append_right _ (perm_erase _ _ _ hz)
    · rw [← List.cons_append]
      refine List.Perm.append_right _ ?_
      have e1 : (s.tm.set x (s.tm.getD x .bad).view).zip a.tmps.toList = (s.tm.zip a.tmps.toList).set x (.d (.sl k xs), v) := by
        have h2' : a.tmps.toList[x]? = some v := by simpa using h2
        rw [hx]
        conv => lhs; rw [← list_set_self h2']
        rw [zip_set]; rfl
      simp only [demote]
      rw [e1]
      exact perm_set' _ _ _ _ hz
  | cell g off =>
    obtain ⟨v, vs, h1, h2, h3⟩ := hpp
    simp only [ownAt] at ho
    split at ho <;> try (cases ho; done)
    rename_i blk hb
    split at ho <;> try (cases ho; done)
    rename_i e' k' xs' hx
    cases ho
    have hxl : blk.cells[off]? = some (.own e k xs) := by
      cases hh : blk.cells[off]? with
      | none => simp [List.getD, hh] at hx
      | some y => simp [List.getD, hh] at hx; rw [hx]
    obtain ⟨L, p1, p2⟩ := cellPairs_set (.d (.sl k xs)) hb h2 hxl h3
    have hdem : demote s (.cell g off) = { s with hp := s.hp.set g { blk with cells := blk.cells.set off (.d (.sl k xs)) } } := by
      simp only [demote, hb, hx, AV.view]
    rw [hdem]
    refine ⟨v, s.tm.zip a.tmps.toList ++ (B ++ L), h1, ?_, ?_, rfl, fun _ _ _ C hC => hC.rehp (by simp) fun g' b' hb' => ?_⟩
    · refine (List.Perm.append_left _ (List.Perm.append_left _ p1)).trans ?_
      refine (List.Perm.append_left _ List.perm_middle).trans ?_
      exact List.perm_middle
    · refine (List.Perm.append_left _ (List.Perm.append_left _ p2)).trans ?_
      refine (List.Perm.append_left _ List.perm_middle).trans ?_
      exact List.perm_middle
    · by_cases hg : g' = g
      · subst hg
        rw [List.getElem?_set_self (List.getElem?_eq_some_iff.1 hb).1] at hb'
        cases hb'
        exact ⟨blk, hb, by simp, rfl, rfl, rfl⟩
      · rw [List.getElem?_set_ne (Ne.symm hg)] at hb'
        exact ⟨b', hb', rfl, rfl, rfl, rfl⟩

theorem xa_sound {r : Option Nat} {K : Act → World → Prop} {Q : Exit → Act → World → Prop} (h : RelS S X yv w m B hv s a) (hx : xa P s o = some s') (hK : Nx S X yv w m B s' a K) : o.wpIn (Fn r) 0 P a w K Q := by
  unfold xa at hx
  split at hx <;> try (cases hx; done)
  rename_i c ho
  split at hx <;> try (cases hx; done)
  rename_i t y hc h0 h1
  split at hx <;> try (cases hx; done)
  rename_i hsz
  split at hx <;> try (cases hx; done)
  rename_i loc hloc
  split at hx <;> try (cases hx; done)
  rename_i e k xs e' i hown hinf
  split at hx <;> try (cases hx; done)
  rename_i ys hys
  split at hx <;> try (cases hx; done)
  rename_i hcond
  obtain ⟨rfl, rfl, hfit⟩ := hcond
  cases hx
  obtain ⟨ty, z, hts, ht, hi, hz, hzs, hsz', hby⟩ := appInfo_spec hinf
  obtain ⟨v, L, q1, q2, q3, q4, q5⟩ := ownAt_spec h (lookup_mem hloc) hown
  have hsrc : DR S w (.sl i.size ys) (a.eval y) := srcRows_spec hys (evalA_sound h y)
  have hev : a.eval (.tmp t) = v := by simp [Act.eval, q1]
  obtain ⟨v', w', S', g1, g2, g3, g4, g5⟩ := append_own (ty := o.type) ht hi hz hzs hsz' hby (h.2.1.perm q2) hsrc hfit
  have hargs : c.args = #[.tmp t, y] := by
    apply Array.ext_getElem?
    intro j
    match j with
    | 0 => simpa using h0
    | 1 => simpa using h1
    | j + 2 => simp [Array.getElem?_eq_none (by omega : c.args.size ≤ j + 2)]
  obtain ⟨consts, hb⟩ := builtin_exec (P := P) (ρ := a.eval) ho hc w
  refine wpIn_value (by simp [ho]) (nx := .value v') (v := v') (w' := w') ?_ (.inl rfl) ?_
  · rw [hb]; simp [builtin, hargs, hev, hts, g1]
  · refine Nx.of (S' := S') (m' := m) (hv' := hv) hK ⟨g2, g3, g4, MStep.refl m⟩ (by rw [q4]; exact h.1) ?_ (by intro p hp; cases hp)
    refine (q5 _ _ _ _ g5).perm (List.Perm.cons _ ?_)
    exact q3.symm

theorem closeds_get : ∀ {cs : List AV}, closeds cs = true → ∀ (i : Nat) (c : AV), cs[i]? = some c → c.closed = true
  | [], _, i, c, h => by simp at h
  | x :: r, hc, i, c, h => by
    simp only [closeds, Bool.and_eq_true] at hc
    cases i with
    | zero => simp at h; subst h; exact hc.1
    | succ i => simp at h; exact closeds_get hc.2 i c h

theorem RV.closed {x : AV} {v : Value} (h : RV S w m yv x v) : x.closed = true → RV S w [] none x v := by
  induction h with
  | d h => exact fun _ => .d h
  | agg hl h ih => exact fun hc => .agg hl fun i c v h1 h2 => ih i c v h1 h2 (closeds_get (by simpa [AV.closed] using hc) i c h1)
  | tup hl h ih => exact fun hc => .tup hl fun i c v h1 h2 => ih i c v h1 h2 (closeds_get (by simpa [AV.closed] using hc) i c h1)
  | full h => exact fun _ => .full h
  | rptr vals hne hsp hs hcc hr h1 => exact fun _ => .rptr vals hne hsp hs hcc hr h1
  | fn hf hl hl' h h' ih ih' =>
    intro hc
    simp only [AV.closed, Bool.and_eq_true] at hc
    exact .fn hf hl hl' (fun i c v h1 h2 => ih i c v h1 h2 (closeds_get hc.1 i c h1)) (fun i c v h1 h2 => ih' i c v h1 h2 (closeds_get hc.2 i c h1))
  | bad => exact fun _ => .bad
  | own => exact fun hc => by simp [AV.closed] at hc
  | ownNil => exact fun hc => by simp [AV.closed] at hc
  | ref => exact fun hc => by simp [AV.closed] at hc
  | ptr => exact fun hc => by simp [AV.closed] at hc
  | gref => exact fun hc => by simp [AV.closed] at hc
  | gptr => exact fun hc => by simp [AV.closed] at hc
  | yl => exact fun hc => by simp [AV.closed] at hc

theorem RV.opened {x : AV} {v : Value} (h : RV S w [] none x v) : RV S w m yv x v := by
  generalize hm : ([] : List MB) = m0 at h
  generalize hy : (none : Option Nat) = y0 at h
  induction h with
  | d h => exact .d h
  | agg hl h ih => exact .agg hl fun i c v h1 h2 => ih i c v h1 h2
  | tup hl h ih => exact .tup hl fun i c v h1 h2 => ih i c v h1 h2
  | full h => exact .full h
  | rptr vals hne hsp hs hcc hr h1 => exact .rptr vals hne hsp hs hcc hr h1
  | fn hf hl hl' h h' ih ih' => exact .fn hf hl hl' (fun i c v h1 h2 => ih i c v h1 h2) (fun i c v h1 h2 => ih' i c v h1 h2)
  | bad => exact .bad
  | own h1 h2 => exact .own h1 h2
  | ownNil => exact .ownNil
  | ref h => subst hm; simp at h
  | ptr h => subst hm; simp at h
  | gref h => subst hm; simp at h
  | gptr h => subst hm; simp at h
  | yl h => subst hy; cases h

theorem Rel.consAll (h : Rel S X yv w m A hp hv) : ∀ l : List (AV × Value), (∀ p ∈ l, RV S w m yv p.1 p.2 ∧ ownB p = none) → Rel S X yv w m (l ++ A) hp hv
  | [], _ => h
  | p :: l, hl => by
    obtain ⟨h1, h2⟩ := hl p (by simp)
    exact (Rel.consAll h l (fun q hq => hl q (by simp [hq]))).cons h1 h2

theorem store_exec {t : TypeId} {ax x : Operand} (ρ : Operand → Value) (ho : o.op = .store t ax x) : execOp ρ o = (do Instr.storeAt t (ρ ax) (ρ x); pure .skip) := by
  unfold execOp; rw [ho]

theorem xh_sound {r : Option Nat} {K : Act → World → Prop} {Q : Exit → Act → World → Prop} (hcall : CallOk P call) (h : RelS S X yv w m B hv s a) (hx : xh P call s o = some s') (hK : Nx S X yv w m B s' a K) :
    o.wpIn (Fn r) 0 P a w K Q := by
  obtain ⟨hl, hr, hpv⟩ := h
  have hev := evalA_sound (s := s) (a := a) ⟨hl, hr, hpv⟩
  have hswap : ∀ {D : List (AV × Value)}, (s.tm.zip a.tmps.toList ++ (B ++ D)) = ((s.tm.zip a.tmps.toList ++ B) ++ D) := by intro D; simp
  rw [hswap] at hr
  unfold xh at hx
  split at hx
  · -- assign
    rename_i x ho
    split at hx <;> try (cases hx; done)
    cases hx
    have hrun : (execOp a.eval o).run P w = .ok (.value (a.eval x)) w := by unfold execOp; rw [ho]; rfl
    refine wpIn_value (by simp [ho]) hrun (.inl rfl) ?_
    have key : ∃ L, (s.tm.zip a.tmps.toList ++ (B ++ cellPairs s.hp hv)).Perm L ∧ Rel S X yv w m ((evalA s.tm x, a.eval x) :: ((untake s.tm x).zip a.tmps.toList ++ (B ++ cellPairs s.hp hv))) s.hp hv := by
      refine ⟨_, List.Perm.refl _, ?_⟩
      rw [← hswap] at hr
      cases x with
      | const v => exact hr.cons (hev (.const v)) (ownB_ofVal v)
      | global g => exact hr.cons (hev (.global g)) rfl
      | func f => exact hr.cons (hev (.func f)) rfl
      | tmp t =>
        by_cases ht : t < s.tm.length
        · have hxl : s.tm[t]? = some (s.tm.getD t .bad) := by simp [List.getD, ht]
          obtain ⟨v, h1, _⟩ := zip_mem hl hxl
          have hev' : a.eval (.tmp t) = v := by simp [Act.eval, h1]
          rw [hev']
          have hz : (s.tm.zip a.tmps.toList)[t]? = some (s.tm.getD t .bad, v) := by
            rw [List.getElem?_zip_eq_some]; exact ⟨hxl, by simpa using h1⟩
          have e1 : (s.tm.set t (s.tm.getD t .bad).view).zip a.tmps.toList = (s.tm.zip a.tmps.toList).set t ((s.tm.getD t .bad).view, v) := by
            have h2' : a.tmps.toList[t]? = some v := by simpa using h1
            conv => lhs; rw [← list_set_self h2']
            rw [zip_set]
          simp only [evalA, untake, e1]
          have h2 := hr.perm (List.Perm.append_right (B ++ cellPairs s.hp hv) (perm_erase _ _ _ hz))
          simp only [List.cons_append] at h2
          have h3 := (h2.copy (x := s.tm.getD t .bad) (v := v) (by simp)).perm (List.Perm.swap _ _ _)
          refine h3.perm (List.Perm.cons _ ?_)
          exact (List.Perm.append_right (B ++ cellPairs s.hp hv) (perm_set' _ _ _ ((s.tm.getD t .bad).view, v) hz)).symm
        · have e0 : s.tm.getD t .bad = .bad := by simp [List.getD, List.getElem?_eq_none (Nat.le_of_not_lt ht)]
          have e1 : s.tm.set t AV.bad.view = s.tm := List.set_eq_of_length_le (Nat.le_of_not_lt ht)
          simp only [evalA, untake, e0, e1]
          exact hr.cons .bad rfl
    obtain ⟨_, _, hk⟩ := key
    have hlu : (untake s.tm x).length = s.tm.length := by cases x <;> simp [untake]
    exact Nx.of hK (Gs.refl S X none w m) (by rw [hlu]; exact hl) hk (by intro p hp; cases hp)
  · -- alloc
    rename_i t ho
    split at hx <;> try (cases hx; done)
    rename_i xs hxs
    cases hx
    obtain ⟨v, w', S', m', hv', g1, g3, g4, g5⟩ := xAlloc_sound hr hxs
    have hrun : (execOp a.eval o).run P w = .ok (.value v) w' := by unfold execOp; rw [ho]; exact g1
    exact wpIn_value (by simp [ho]) hrun (.inl rfl) (Nx.of hK g3 hl (by simpa using g4) ((pvPut_ok hpv o.dst v).mono g5))
  · -- box
    rename_i t x ho
    split at hx <;> try (cases hx; done)
    rename_i xs hxs
    cases hx
    obtain ⟨v, w', S', m', hv', g1, g3, g4, g5⟩ := xBox_sound (P := P) (t := t) hr (hev x) hxs
    have hrun : (execOp a.eval o).run P w = .ok (.value v) w' := by unfold execOp; rw [ho]; exact g1
    exact wpIn_value (by simp [ho]) hrun (.inl rfl) (Nx.of hK g3 hl (by simpa using g4) ((pvPut_ok hpv o.dst v).mono g5))
  · -- store
    rename_i t ax x ho
    split at hx <;> try (cases hx; done)
    rename_i tm xs hsrc
    split at hx <;> try (cases hx; done)
    rename_i hp' hst
    cases hx
    rw [← hswap] at hr
    have key : tm.length = s.tm.length ∧ xs.length = (a.eval x).cells.toList.length ∧ (∀ u ∈ (a.eval x).cells.toList, u.oneCell' = true) ∧
        Rel S X yv w m (xs.zip (a.eval x).cells.toList ++ (tm.zip a.tmps.toList ++ (B ++ cellPairs s.hp hv))) s.hp hv := by
      unfold storeSrc at hsrc
      split at hsrc
      · rename_i hown
        cases hsrc
        have hlu : (untake s.tm x).length = s.tm.length := by cases x <;> simp [untake]
        have hone : (a.eval x).cells = #[a.eval x] ∧ (a.eval x).oneCell' = true := by
          have h1 := hev x
          cases hh : evalA s.tm x with
          | own e k ys =>
            rw [hh] at h1
            generalize a.eval x = u at h1
            cases h1 <;> exact ⟨rfl, rfl⟩
          | _ => rw [hh] at hown; cases hown
        refine ⟨hlu, by rw [hone.1]; rfl, by rw [hone.1]; simp [hone.2], ?_⟩
        rw [hone.1]
        simp only [List.zip_cons_cons, List.zip_nil_right, List.cons_append, List.nil_append]
        cases x with
        | const v => simp only [evalA] at hown; cases v <;> cases hown
        | global g => cases hown
        | func f => cases hown
        | tmp t =>
          have ht : t < s.tm.length := by
            rcases Nat.lt_or_ge t s.tm.length with h' | h'
            · exact h'
            · simp only [evalA, List.getD, List.getElem?_eq_none h'] at hown; cases hown
          have hxl : s.tm[t]? = some (s.tm.getD t .bad) := by simp [List.getD, ht]
          obtain ⟨v, h1, _⟩ := zip_mem hl hxl
          have hev' : a.eval (.tmp t) = v := by simp [Act.eval, h1]
          rw [hev']
          have hz : (s.tm.zip a.tmps.toList)[t]? = some (s.tm.getD t .bad, v) := by
            rw [List.getElem?_zip_eq_some]; exact ⟨hxl, by simpa using h1⟩
          have e1 : (s.tm.set t (s.tm.getD t .bad).view).zip a.tmps.toList = (s.tm.zip a.tmps.toList).set t ((s.tm.getD t .bad).view, v) := by
            have h2' : a.tmps.toList[t]? = some v := by simpa using h1
            conv => lhs; rw [← list_set_self h2']
            rw [zip_set]
          simp only [evalA, untake, e1]
          have h2 := hr.perm (List.Perm.append_right (B ++ cellPairs s.hp hv) (perm_erase _ _ _ hz))
          simp only [List.cons_append] at h2
          have h3 := (h2.copy (x := s.tm.getD t .bad) (v := v) (by simp)).perm (List.Perm.swap _ _ _)
          refine h3.perm (List.Perm.cons _ ?_)
          exact (List.Perm.append_right (B ++ cellPairs s.hp hv) (perm_set' _ _ _ ((s.tm.getD t .bad).view, v) hz)).symm
      · simp only [Option.map_eq_some_iff, Prod.mk.injEq] at hsrc
        obtain ⟨xs', hxs, rfl, rfl⟩ := hsrc
        obtain ⟨q1, q2, q3⟩ := xCells_spec hxs (hev x)
        refine ⟨rfl, q1.1, fun u hu => ?_, hr.consAll _ fun p hp => ?_⟩
        · obtain ⟨j, hj⟩ := List.mem_iff_getElem?.1 hu
          have hjl : j < xs'.length := by rw [q1.1]; exact (List.getElem?_eq_some_iff.1 hj).1
          exact (q1.2 j xs'[j] u (by simp [hjl]) hj).one (List.all_eq_true.1 q2 _ (List.getElem_mem hjl))
        · obtain ⟨j, hj⟩ := List.mem_iff_getElem?.1 hp
          have hj' := hj
          rw [List.getElem?_zip_eq_some] at hj'
          exact ⟨q1.2 j _ _ hj'.1 hj'.2, q3 p hp⟩
    obtain ⟨k1, k2, k3, k4⟩ := key
    have k4' : Rel S X yv w m (xs.zip (a.eval x).cells.toList ++ ((tm.zip a.tmps.toList ++ B) ++ cellPairs s.hp hv)) s.hp hv := by simpa using k4
    obtain ⟨nx, v, w', S', m', hv', g1, g2, g3, g4⟩ := xStore_sound k4' (hev ax) k2 k3 hst
    have hrun : (execOp a.eval o).run P w = .ok nx w' := by rw [store_exec _ ho]; exact g1
    exact wpIn_value (by simp [ho]) hrun g2 (Nx.of hK g3 (by rw [k1]; exact hl) (by simpa using g4) (by intro p hp; cases hp))
  · -- makeSlice
    rename_i t l c ho
    split at hx <;> try (cases hx; done)
    rename_i n cap k xs hxs
    cases hx
    obtain ⟨v, w', S', m', hv', g1, g3, g4, g5⟩ := xMake_sound (P := P) hr (hev l) (hev c) hxs
    have hrun : (execOp a.eval o).run P w = .ok (.value v) w' := by unfold execOp; rw [ho]; exact g1
    exact wpIn_value (by simp [ho]) hrun (.inl rfl) (Nx.of hK g3 hl (by simpa using g4) ((pvPut_ok hpv o.dst v).mono g5))
  · -- a call
    rename_i c ho
    split at hx
    rotate_left
    · rename_i hc
      split at hx <;> try (cases hx; done)
      rename_i d y h0 h1
      split at hx <;> try (cases hx; done)
      rename_i hsz
      split at hx <;> try (cases hx; done)
      rename_i x hp' hxc
      cases hx
      obtain ⟨consts, hb⟩ := builtin_exec (P := P) (ρ := a.eval) ho hc w
      have hargs : c.args = #[d, y] := by
        apply Array.ext_getElem?
        intro j
        match j with
        | 0 => simpa using h0
        | 1 => simpa using h1
        | j + 2 => simp [Array.getElem?_eq_none (by omega : c.args.size ≤ j + 2)]
      obtain ⟨nx, v, w', S', m', hv', g1, g2, g3, g4⟩ := xCopy_sound (P := P) hr (hev d) (hev y) o.type hxc
      have hrun : (execOp a.eval o).run P w = .ok nx w' := by
        rw [hb, ← g1]; simp [builtin, hargs]
      exact wpIn_value (by simp [ho]) hrun g2 (Nx.of hK g3 hl (by simpa using g4) (by intro p hp; cases hp))
    · cases hx
    rename_i f hc
    split at hx <;> try (cases hx; done)
    rename_i k args hargs
    -- the function value
    have hfv := hev f
    unfold callArgs at hargs
    split at hargs <;> try (cases hargs; done)
    rename_i k' first caps hf
    simp only [Option.some.injEq, Prod.mk.injEq] at hargs
    obtain ⟨rfl, rfl⟩ := hargs
    rw [hf] at hfv
    generalize hfe : a.eval f = fv at hfv
    cases hfv with
    | fn hne hl1 hl2 h1 h2 =>
      rename_i fs cs
      have hrun : (∀ (as : Array Value) (w : World), (callFunc k' as).run P w = .ok (.enter k' as) w) → (execOp a.eval o).run P w = .ok (.enter k' (fs ++ c.args.map a.eval ++ cs)) w := by
        intro hent
        unfold execOp
        rw [ho]
        simp [resolve, hc, hfe, Deferred.ofValue, invoke, hent]
      have hlen : ((first ++ (c.args.toList.map (evalA s.tm)) ++ caps).map AV.view).length = (fs.toList ++ (c.args.map a.eval).toList ++ cs.toList).length := by simp [hl1, hl2]
      have hpairs : ∀ (j : Nat) (x : AV) (u : Value), ((first ++ (c.args.toList.map (evalA s.tm)) ++ caps).map AV.view)[j]? = some x → (fs.toList ++ (c.args.map a.eval).toList ++ cs.toList)[j]? = some u → RV S w m yv x u ∧ ownB (x, u) = none := by
        intro j x u hj1 hj2
        simp only [List.getElem?_map, Option.map_eq_some_iff] at hj1
        obtain ⟨y, hj1, rfl⟩ := hj1
        refine ⟨RV.view ?_, ownB_view _ _⟩
        by_cases c1 : j < first.length
        · rw [List.append_assoc, List.getElem?_append_left c1] at hj1
          rw [List.append_assoc, List.getElem?_append_left (by simpa [← hl1] using c1)] at hj2
          exact h1 j y u hj1 (by simpa using hj2)
        · by_cases c2 : j < first.length + c.args.size
          · rw [List.getElem?_append_left (by simpa using c2), List.getElem?_append_right (by omega)] at hj1
            rw [List.getElem?_append_left (by simpa [← hl1] using c2), List.getElem?_append_right (by simp [← hl1]; omega)] at hj2
            simp only [Array.length_toList, ← hl1, List.getElem?_map, Option.map_eq_some_iff, Array.getElem?_toList, Array.getElem?_map] at hj1 hj2
            obtain ⟨y1, hy1, rfl⟩ := hj1
            obtain ⟨y2, hy2, rfl⟩ := hj2
            rw [hy1] at hy2; cases hy2
            exact hev y1
          · rw [List.getElem?_append_right (by simp; omega)] at hj1
            rw [List.getElem?_append_right (by simp [← hl1]; omega)] at hj2
            simp only [List.length_append, List.length_map, Array.length_toList, Array.size_map, ← hl1] at hj1 hj2
            exact h2 _ y u hj1 (by simpa using hj2)
      have e0 : (fs.toList ++ (c.args.map a.eval).toList ++ cs.toList).toArray = fs ++ c.args.map a.eval ++ cs := by apply Array.ext'; simp
      split at hx
      · rename_i res hres
        cases hx
        split at hres <;> try (cases hres; done)
        rename_i hcl
        obtain ⟨hent, hcontract⟩ := hcall.p _ _ _ _ hres
        refine ⟨fun f' _ => trivial, ?_⟩
        rw [Oper.semAt_eq _ _ _ (by simp [ho]), hrun hent]
        refine ⟨fun hd => (by cases hd), ?_⟩
        have hc1 := hcontract S w (fs.toList ++ (c.args.map a.eval).toList ++ cs.toList) hlen (fun j x u hj1 hj2 => (hpairs j x u hj1 hj2).1.closed (closeds_get hcl j x hj1)) (fun b i hb => hr.lt b i (.inl hb)) hr.gl
        rw [e0] at hc1
        refine (CallsIn.mono hc1 ?_ : CallsIn Fence.wide 0 P k' _ w _)
        rintro e w' ⟨v, S', rfl, g1, g2, g3, g4⟩
        have hrel := (hr.below g1 g2 g3).cons (x := res.view) (v := v) g4.opened (ownB_view _ _)
        exact Nx.of hK (Gs.below hr g1 ⟨g2, g3⟩) hl (by simpa using hrel) (pvPut_ok hpv _ _)
      · split at hx <;> try (cases hx; done)
        rename_i res hp' hres
        cases hx
        obtain ⟨hent, hcontract⟩ := hcall.s _ _ _ _ _ hres
        refine ⟨fun f' _ => trivial, ?_⟩
        rw [Oper.semAt_eq _ _ _ (by simp [ho]), hrun hent]
        refine ⟨fun hd => (by cases hd), ?_⟩
        have hrel := hr.consAll (((first ++ (c.args.toList.map (evalA s.tm)) ++ caps).map AV.view).zip (fs.toList ++ (c.args.map a.eval).toList ++ cs.toList)) (fun p hp => by
          obtain ⟨j, hj⟩ := List.mem_iff_getElem?.1 hp
          rw [List.getElem?_zip_eq_some] at hj
          exact hpairs j p.1 p.2 hj.1 hj.2)
        have hc1 := hcontract S X yv w m (s.tm.zip a.tmps.toList ++ B) hv (fs.toList ++ (c.args.map a.eval).toList ++ cs.toList) hlen hrel
        rw [e0] at hc1
        refine (CallsIn.mono hc1 ?_ : CallsIn Fence.wide 0 P k' _ w _)
        rintro e w' ⟨v, S', m', hv', rfl, g3, g4⟩
        exact Nx.of hK g3 hl (by simpa using g4) (by intro p hp; cases hp)
  · cases hx

theorem evalA_op {s : RS} {a : Act} (h : RelS S X yv w m B hv s a) : ∀ y ∈ o.op.operands, RV S w m yv (evalA s.tm y) (a.eval y) := fun y _ => evalA_sound h y

theorem put_self {a : Act} {d : Nat} {v : Value} (hd : d < a.tmps.size) : (a.put (some d) v).tmps[d]? = some v := by simp [Act.put, hd]
theorem put_other {a : Act} {d x : Nat} {v : Value} (hd : x ≠ d) : (a.put (some d) v).tmps[x]? = a.tmps[x]? := by
  simp [Act.put, Array.getElem?_setIfInBounds_ne (Ne.symm hd)]

/-- a place that an accumulator is read out of -/
theorem pvRead_ok {v : Value} (h : RelS S X yv w m B hv s a) (hrun : (execOp a.eval o).run P w = .ok (.value v) w') :
    PvOk (pvRead P s o).toList (a.put o.dst v).tmps hv := by
  obtain ⟨hl, hr, hpv⟩ := h
  have hev := evalA_sound (s := s) (a := a) ⟨hl, hr, hpv⟩
  intro p hp
  unfold pvRead at hp
  split at hp
  · rename_i d x hd ho
    split at hp <;> try (cases hp; done)
    rename_i hc
    simp only [Bool.and_eq_true, bne_iff_ne, ne_eq] at hc
    obtain ⟨⟨hc1, hc2⟩, hc3⟩ := hc
    simp only [Option.toList_some, List.mem_singleton] at hp
    subst hp
    have hdl : d < a.tmps.size := by
      rw [← hl]
      cases hh : s.tm[d]? with
      | none => rw [hh] at hc3; cases hc3
      | some y => exact (List.getElem?_eq_some_iff.1 hh).1
    have hxl : x < s.tm.length := by
      rcases Nat.lt_or_ge x s.tm.length with h' | h'
      · exact h'
      · simp only [List.getD, List.getElem?_eq_none h'] at hc1; cases hc1
    have hxs : x < a.tmps.size := by rw [← hl]; exact hxl
    have hv : v = a.tmps[x] := by
      unfold execOp at hrun
      rw [ho] at hrun
      simp only [Sem.run_pure, Result.ok.injEq, Next.value.injEq, Act.eval] at hrun
      rw [← hrun.1]; simp [hxs]
    refine ⟨v, ?_, ?_⟩
    · rw [hd]; exact put_self hdl
    · rw [hd, put_other hc2, hv]; simp [hxs]
  · rename_i d t q hd ho
    split at hp <;> try (cases hp; done)
    rename_i g off hq
    split at hp <;> try (cases hp; done)
    rename_i blk hb
    split at hp <;> try (cases hp; done)
    rename_i hc
    simp only [Bool.and_eq_true, Bool.not_eq_true'] at hc
    obtain ⟨⟨hc1, hc2⟩, hc3⟩ := hc
    simp only [Option.toList_some, List.mem_singleton] at hp
    subst hp
    have hdl : d < a.tmps.size := by
      rw [← hl]
      cases hh : s.tm[d]? with
      | none => rw [hh] at hc3; cases hc3
      | some y => exact (List.getElem?_eq_some_iff.1 hh).1
    have hq' := hev (.tmp q)
    simp only [evalA, hq] at hq'
    generalize hqe : a.eval (.tmp q) = vq at hq'
    cases hq' with
    | ptr hm =>
      obtain ⟨blk', vs, cur, e, g1, g2, g3, g4, g5, g6, g7, g8, g9, g10, _⟩ := hr.block hm
      rw [hb] at g1; cases g1
      have hol : off < blk.cells.length := by
        rcases Nat.lt_or_ge off blk.cells.length with h' | h'
        · exact h'
        · simp only [List.getD, List.getElem?_eq_none h'] at hc1; cases hc1
      have hov : off < vs.length := by simp only at g3 g6; omega
      have hcell := cells_of_take g8 g9 off vs[off] (by simp [hov])
      have hv : v = vs[off] := by
        unfold execOp at hrun
        rw [ho] at hrun
        simp only [hqe, Instr.loadAt, Instr.sureAddr, loadVar, Sem.run_bind, Sem.run_pure, Result.andThen_ok] at hrun
        cases hu : P.underlying t with
        | none => simp [isAgg, underlying, hu] at hrun
        | some dd =>
          simp only [isAggT_run hu, hc2, Result.andThen_ok, Bool.false_eq_true, if_false] at hrun
          simp only at hcell
          rw [run_load, hcell] at hrun
          simp at hrun
          exact hrun.1.symm
      exact ⟨v, vs, by rw [hd]; exact put_self hdl, g2, by rw [hv]; simp [hov]⟩
  · cases hp

theorem PvOk.app {p1 p2 : List (Nat × Loc)} {tmps : Array Value} (h1 : PvOk p1 tmps hv) (h2 : PvOk p2 tmps hv) : PvOk (p1 ++ p2) tmps hv := by
  intro p hp
  rcases List.mem_append.1 hp with h | h
  · exact h1 p h
  · exact h2 p h

theorem wantedA_spec {b : Bool} (h : RelS S X yv w m B hv s a) (hw : wantedA ops o s.tm = some b) : Region.wanted o (yielded ops a.tmps) = b := by
  unfold wantedA at hw
  unfold Region.wanted
  split at hw
  · rename_i hg; cases hw; rw [hg]
  · rename_i j want hg
    rw [hg]
    split at hw <;> try (cases hw; done)
    rename_i t ht
    have key : ∀ z : Value, s.tm.getD t .bad = .d (.s z) → a.tmps[t]? = some z := by
      intro z hb
      have htl : t < s.tm.length := by
        rcases Nat.lt_or_ge t s.tm.length with h' | h'
        · exact h'
        · simp [List.getD, List.getElem?_eq_none h'] at hb
      have hxl : s.tm[t]? = some (.d (.s z)) := by
        have : s.tm[t]? = some (s.tm.getD t .bad) := by simp [List.getD, htl]
        rw [hb] at this; exact this
      obtain ⟨v, h1, h2⟩ := zip_mem h.1 hxl
      have hv := h.2.1.rv _ (List.mem_append_left _ h2)
      have hv' : v = z := toVal?_spec (x := .d (.s z)) rfl hv
      rw [← hv']; exact h1
    split at hw <;> try (cases hw; done)
    · rename_i b' hb
      cases hw
      simp [yielded, ht, key _ hb]
    · rename_i b' hb
      cases hw
      simp [yielded, ht, key _ hb]

theorem xStep_sound {r : Option Nat} {K : Act → World → Prop} {Q : Exit → Act → World → Prop} (hcall : CallOk P call) (h : RelS S X yv w m B hv s a) (hx : xStep P call ops s o = some s') (hK : Nx S X yv w m B s' a K) :
    if Region.wanted o (yielded ops a.tmps) then o.wpIn (Fn r) 0 P a w K Q else (∀ f, o.about P w a.eval = some f → (Fn r).fn f) ∧ K (a.put o.dst undef) w := by
  unfold xStep at hx
  split at hx
  · rename_i hw
    cases hx
    rw [wantedA_spec h hw]
    simp only [Bool.false_eq_true, if_false]
    refine ⟨fun f _ => trivial, ?_⟩
    obtain ⟨hl, hr, hpv⟩ := h
    exact Nx.of hK (Gs.refl S X none w m) hl (hr.cons (.d (.s undef)) rfl) (pvPut_ok hpv _ _)
  · rename_i hw
    rw [wantedA_spec h hw]
    simp only [if_true]
    split at hx
    · rename_i s1 hs1
      cases hx
      exact xa_sound h hs1 hK
    · split at hx
      · rename_i s1 hs1
        cases hx
        exact xh_sound hcall h hs1 hK
      · split at hx <;> try (cases hx; done)
        rename_i x hq
        cases hx
        obtain ⟨hl, hr, hpv⟩ := h
        have hr' : Rel S X yv w m ((s.tm.zip a.tmps.toList ++ B) ++ cellPairs s.hp hv) s.hp hv := by simpa using hr
        obtain ⟨v, w', S', g1, g2, g3, g4⟩ := xq_sound hr' (evalA_op (o := o) ⟨hl, hr, hpv⟩) hq
        have hd : ∀ c, o.op ≠ .defer c := by
          intro c hc
          simp [xq, hc] at hq
        refine wpIn_value hd g1 (.inl rfl) ?_
        exact Nx.of hK (Gs.below hr g2 g3) hl (by simpa using g4) ((pvRead_ok ⟨hl, hr, hpv⟩ g1).app (pvPut_ok hpv _ _))
  · cases hx

/-- an operation, or its plain reading -/
def qStep (P : Program) (call : CallT) (ops : Array Oper) (s : RS) (o : Oper) (s' : RS) : Prop :=
  xStep P call ops s o = some s' ∨ (wantedA ops o s.tm = some true ∧ ∃ x, xq P s.hp (evalA s.tm) o = some x ∧ s' = { s with tm := putA s.tm o.dst x, pv := (pvRead P s o).toList ++ pvPut s.pv o.dst })

theorem qStep_sound {r : Option Nat} {K : Act → World → Prop} {Q : Exit → Act → World → Prop} (hcall : CallOk P call) (h : RelS S X yv w m B hv s a) (hx : qStep P call ops s o s') (hK : Nx S X yv w m B s' a K) :
    if Region.wanted o (yielded ops a.tmps) then o.wpIn (Fn r) 0 P a w K Q else (∀ f, o.about P w a.eval = some f → (Fn r).fn f) ∧ K (a.put o.dst undef) w := by
  rcases hx with hx | ⟨hw, x, hq, rfl⟩
  · exact xStep_sound hcall h hx hK
  rw [wantedA_spec h hw]
  simp only [if_true]
  obtain ⟨hl, hr, hpv⟩ := h
  have hr' : Rel S X yv w m ((s.tm.zip a.tmps.toList ++ B) ++ cellPairs s.hp hv) s.hp hv := by simpa using hr
  obtain ⟨v, w', S', g1, g2, g3, g4⟩ := xq_sound hr' (evalA_op (o := o) ⟨hl, hr, hpv⟩) hq
  have hd : ∀ c, o.op ≠ .defer c := by
    intro c hc
    simp [xq, hc] at hq
  refine wpIn_value hd g1 (.inl rfl) ?_
  exact Nx.of hK (Gs.below hr g2 g3) hl (by simpa using g4) ((pvRead_ok ⟨hl, hr, hpv⟩ g1).app (pvPut_ok hpv _ _))

/-- a list of operations -/
def xOps (P : Program) (call : CallT) (ops : Array Oper) : List Oper → RS → Option RS
  | [], s => some s
  | o :: l, s => match xStep P call ops s o with
    | some s' => xOps P call ops l s'
    | none => none

theorem xOps_sound {r : Option Nat} {Q : Exit → Act → World → Prop} (hcall : CallOk P call) {rest : List Oper} : ∀ {l : List Oper} {s s' : RS} {S : Pr} {w : World} {m : List MB} {hv : List (List Value)} {a : Act}, RelS S X yv w m B hv s a →
    xOps P call ops l s = some s' → Nx S X yv w m B s' a (wpListIn (Fn r) 0 P ops Q rest) → wpListIn (Fn r) 0 P ops Q (l ++ rest) a w
  | [], s, s', S, w, m, hv, a, h, hx, hK => by
    simp only [xOps, Option.some.injEq] at hx
    subst hx
    exact hK S w m hv a (Gs.refl _ _ _ _ _) h rfl rfl
  | o :: l, s, s', S, w, m, hv, a, h, hx, hK => by
    simp only [xOps] at hx
    split at hx <;> try (cases hx; done)
    rename_i s1 hs1
    refine xStep_sound hcall h hs1 fun S' w' m' hv' a' hg hr hd hsz => ?_
    exact xOps_sound hcall hr hx fun S'' w'' m'' hv'' a'' hg' hr' hd' hsz' => hK S'' w'' m'' hv'' a'' (hg.trans hg') hr' (hd'.trans hd) (hsz'.trans hsz)

end
end Go.Proofs.YtfeemohdpmdaoaaDoor.Am

/- Regions that draw their order: the order of the text serves for all. -/
namespace Go.Proofs.YtfeemohdpmdaoaaDoor.Am
set_option linter.unusedVariables false
open Go Go.RowKit

/-- it writes nothing but its temporary -/
def pureKind (o : Oper) : Bool :=
  match o.op with
  | .alloc _ | .box .. | .store .. | .makeSlice .. | .select .. | .defer _ | .go _ => false
  | .call c => match c.callee with
    | .builtin .copy | .invoke .. => false
    | _ => true
  | _ => true

/-- an append -/
def isApp (o : Oper) : Bool :=
  match o.op with
  | .call c => match c.callee with
    | .builtin .append => true
    | _ => false
  | _ => false

/-- what a pure operation yields -/
def xp (P : Program) (call : CallT) (ops : Array Oper) (hp : List Blk) (tm : List AV) (o : Oper) : Option AV :=
  match wantedA ops o tm with
  | some false => some (.d (.s undef))
  | some true => match o.op with
    | .call c => match c.callee with
      | .value f => match callArgs tm (evalA tm f) c.args with
        | some (k, args) => if closeds args then (call.p o.dst k args).map AV.view else none
        | none => none
      | _ => xq P hp (evalA tm) o
    | _ => xq P hp (evalA tm) o
  | none => none

def xPre (P : Program) (call : CallT) (ops : Array Oper) (hp : List Blk) : List Oper → List AV → Option (List AV)
  | [], tm => some tm
  | o :: l, tm => match xp P call ops hp tm o with
    | some x => xPre P call ops hp l (putA tm o.dst x)
    | none => none

def edgesOf (o : Oper) : List Nat := (o.after.toList.filter fun e => Region.binds .any e).map (·.on)

/-- whatever those of a list wait for, downwards -/
def ancDown (ops : Array Oper) : Nat → List Nat → List Nat
  | 0, l => l
  | t + 1, l => ancDown ops t (if l.contains t then (match ops[t]? with
    | some o => edgesOf o ++ l
    | none => l) else l)

/-- what must come before an operation -/
def ancOf (ops : Array Oper) (n i : Nat) : List Nat :=
  match ops[i]? with
  | some o => ancDown ops i (edgesOf o)
  | none => []

/-- the first k operations are pure and wait for what they look at; the others come in the order of the text, behind them -/
def drawOk (ops : Array Oper) (k : Nat) : Bool :=
  (List.range ops.size).all (fun i => match ops[i]? with
    | some o => (edgesOf o).all (· < i) &&
        (if i < k then pureKind o && (o.looksAt ops).all (fun t => (List.range k).all fun j => match ops[j]? with
            | some o' => o'.dst != some t || (edgesOf o).contains j
            | none => true) &&
          (List.range i).all (fun j => match ops[j]? with
            | some o' => o.dst == none || o'.dst != o.dst
            | none => true)
        else (List.range i).all fun j => (ancOf ops ops.size i).contains j)
    | none => true)

section
variable {P : Program} {S S' S'' X : Pr} {yv : Option Nat} {w w' w'' : World} {m m' m'' : List MB} {A B : List (AV × Value)} {hp hp' : List Blk} {hv : List (List Value)} {call : CallT} {s s' : RS} {a : Act} {o : Oper} {ops : Array Oper}

theorem drawOk_at {k i : Nat} {o : Oper} (h : drawOk ops k = true) (hi : ops[i]? = some o) :
    (∀ j ∈ edgesOf o, j < i) ∧
    (i < k → pureKind o = true ∧ (∀ t ∈ o.looksAt ops, ∀ (j : Nat) (o' : Oper), j < k → ops[j]? = some o' → o'.dst = some t → j ∈ edgesOf o) ∧
      (∀ (j : Nat) (o' : Oper), j < i → ops[j]? = some o' → o.dst ≠ none → o'.dst ≠ o.dst)) ∧
    (k ≤ i → ∀ j, j < i → j ∈ ancOf ops ops.size i) := by
  have hil : i < ops.size := (Array.getElem?_eq_some_iff.1 hi).1
  have h1 := List.all_eq_true.1 h i (List.mem_range.2 hil)
  simp only [hi, Bool.and_eq_true, List.all_eq_true, decide_eq_true_eq] at h1
  obtain ⟨h2, h3⟩ := h1
  refine ⟨h2, fun hk => ?_, fun hk j hj => ?_⟩
  · rw [if_pos hk] at h3
    simp only [Bool.and_eq_true, List.all_eq_true, List.mem_range] at h3
    obtain ⟨⟨h4, h5⟩, h6⟩ := h3
    refine ⟨h4, fun t ht j o' hj ho' hd => ?_, fun j o' hj ho' hd => ?_⟩
    · have := h5 t ht j hj
      simp only [ho', hd, bne_self_eq_false, Bool.false_or, List.contains_iff_mem] at this
      exact this
    · have := h6 j hj
      simp only [ho', Bool.or_eq_true, beq_iff_eq, bne_iff_ne] at this
      exact this.resolve_left hd
  · rw [if_neg (by omega)] at h3
    simp only [List.all_eq_true, List.mem_range, List.contains_iff_mem] at h3
    exact h3 j hj

theorem ancDown_listed {listed : Array Bool} (hdown : ∀ (j : Nat) (o' : Oper), ops[j]? = some o' → listed.getD j false = true → ∀ e ∈ edgesOf o', listed.getD e false = true) :
    ∀ (t : Nat) (l : List Nat), (∀ j ∈ l, listed.getD j false = true) → ∀ j ∈ ancDown ops t l, listed.getD j false = true
  | 0, l, h, j, hj => h j hj
  | t + 1, l, h, j, hj => by
    simp only [ancDown] at hj
    refine ancDown_listed hdown t _ (fun j' hj' => ?_) j hj
    split at hj'
    · rename_i hc
      have ht := h t (List.contains_iff_mem.1 hc)
      split at hj'
      · rename_i o ho
        rcases List.mem_append.1 hj' with h1 | h1
        · exact hdown t o ho ht j' h1
        · exact h j' h1
      · exact h j' hj'
    · exact h j' hj'

theorem anc_listed {listed : Array Bool} (hdown : ∀ (j : Nat) (o' : Oper), ops[j]? = some o' → listed.getD j false = true → ∀ e ∈ edgesOf o', listed.getD e false = true) (n i : Nat) (o : Oper) (hi : ops[i]? = some o)
    (he : ∀ e ∈ edgesOf o, listed.getD e false = true) : ∀ j ∈ ancOf ops n i, listed.getD j false = true := by
  intro j hj
  simp only [ancOf, hi] at hj
  exact ancDown_listed hdown i _ he j hj

theorem ready_edges {listed : Array Bool} {i : Nat} (h : i ∈ Region.ready .any ops listed) : ∃ o, ops[i]? = some o ∧ listed.getD i true = false ∧ ∀ e ∈ edgesOf o, listed.getD e false = true := by
  obtain ⟨h0, o, ho, hall⟩ := mem_ready.1 h
  refine ⟨o, ho, h0, fun e he => ?_⟩
  unfold edgesOf at he
  simp only [List.mem_map, List.mem_filter, Array.mem_toList_iff] at he
  obtain ⟨ed, ⟨h1, h2⟩, rfl⟩ := he
  exact hall ed h1 h2

theorem ready_of_edges {listed : Array Bool} {i : Nat} {o : Oper} (ho : ops[i]? = some o) (h0 : listed.getD i true = false) (hall : ∀ e ∈ edgesOf o, listed.getD e false = true) : i ∈ Region.ready .any ops listed := by
  refine mem_ready.2 ⟨h0, o, ho, fun e he hb => hall e.on ?_⟩
  unfold edgesOf
  simp only [List.mem_map, List.mem_filter, Array.mem_toList_iff]
  exact ⟨e, ⟨he, hb⟩, rfl⟩

/-! ### what an operation looks at -/
theorem evalA_congr {tm tm' : List AV} (h : ∀ t ∈ o.looksAt ops, tm.getD t .bad = tm'.getD t .bad) : ∀ y ∈ o.op.operands, evalA tm y = evalA tm' y := by
  intro y hy
  cases y with
  | tmp t => exact h t (List.mem_append_left _ (List.mem_filterMap.2 ⟨.tmp t, by simpa using hy, rfl⟩))
  | _ => rfl

theorem xVal_congr {ρ ρ' : Operand → AV} (hs : ∀ cs b, o.op ≠ .select cs b) (h : ∀ y ∈ o.op.operands, ρ y = ρ' y) : xVal P ρ o = xVal P ρ' o := by
  unfold xVal
  have h1 : o.op.operands.all (fun x => (ρ x).toVal?.isSome) = o.op.operands.all (fun x => (ρ' x).toVal?.isSome) := by
    rw [Bool.eq_iff_iff, Array.all_eq_true_iff_forall_mem, Array.all_eq_true_iff_forall_mem]
    constructor
    · intro hh x hx; rw [← h x hx]; exact hh x hx
    · intro hh x hx; rw [h x hx]; exact hh x hx
  have h2 := execOp_congr (ρ := fun x => ((ρ x).toVal?).getD undef) (ρ' := fun x => ((ρ' x).toVal?).getD undef) o hs (fun y hy => by rw [h y hy])
  rw [h1, h2]

theorem xq_congr {ρ ρ' : Operand → AV} (h : ∀ y ∈ o.op.operands, ρ y = ρ' y) : xq P hp ρ o = xq P hp ρ' o := by
  have hv : (∀ cs b, o.op ≠ .select cs b) → xVal P ρ o = xVal P ρ' o := fun hs => xVal_congr hs h
  have pairs : ∀ ps : Array (Nat × Operand), (∀ x ∈ ps.map (·.2), ρ x = ρ' x) → (ps.toList.map fun p => (p.1, ρ p.2)) = (ps.toList.map fun p => (p.1, ρ' p.2)) := fun ps hp =>
    List.map_congr_left fun p hm => by rw [hp p.2 (Array.mem_map.2 ⟨p, by simpa using hm, rfl⟩)]
  have views : ∀ xs : Array Operand, (∀ x ∈ xs, ρ x = ρ' x) → (xs.toList.map fun x => (ρ x).view) = (xs.toList.map fun x => (ρ' x).view) := fun xs hp =>
    List.map_congr_left fun p hm => by rw [hp p (by simpa using hm)]
  unfold xq
  cases ho : o.op <;> simp only [ho, Op.operands] at h hv ⊢
  case move x => rw [h x (by simp)]
  case assign x => rw [h x (by simp)]
  case pick c a b => rw [h c (by simp), h a (by simp), h b (by simp)]
  case extract x i => rw [h x (by simp)]
  case load t a => rw [h a (by simp)]
  case nilCheck x => rw [h x (by simp)]
  case binOp op t x y ty => rw [h x (by simp), h y (by simp), hv (by simp)]
  case makeFunc f first caps => rw [views first fun x hx => h x (by simp [hx]), views caps fun x hx => h x (by simp [hx])]
  case slice t x lo hi mx =>
    have e1 : lo.map ρ = lo.map ρ' := by cases lo <;> simp; exact h _ (by simp)
    have e2 : hi.map ρ = hi.map ρ' := by cases hi <;> simp; exact h _ (by simp)
    have e3 : mx.map ρ = mx.map ρ' := by cases mx <;> simp; exact h _ (by simp)
    rw [h x (by simp), e1, e2, e3, hv (by simp)]
  case fieldAddr t x f => rw [h x (by simp)]
  case field t x f => rw [h x (by simp)]
  case indexAddr t x ix => rw [h x (by simp), h ix (by simp)]
  case sliceToArrayPointer t x => rw [h x (by simp)]
  case index t x ix => rw [h x (by simp), h ix (by simp), hv (by simp)]
  case build t parts => rw [pairs parts fun x hx => h x (by simpa using hx)]
  case buildSlice t n parts => rw [pairs parts fun x hx => h x (by simpa using hx)]
  case call c =>
    split
    · split
      · rename_i x hx; rw [h x (by have := Array.mem_of_getElem? hx; simp [Call.operands, this]), hv (by simp)]
      · rfl
    · split
      · rename_i x y hx hy
        rw [h x (by have := Array.mem_of_getElem? hx; simp [Call.operands, this]), h y (by have := Array.mem_of_getElem? hy; simp [Call.operands, this])]
      · rfl
    · exact hv (by simp)
    · rfl
  case unOp => exact hv (by simp)
  case convert => exact hv (by simp)
  case makeInterface => exact hv (by simp)

theorem wantedA_congr {tm tm' : List AV} (h : ∀ t ∈ o.looksAt ops, tm.getD t .bad = tm'.getD t .bad) : wantedA ops o tm = wantedA ops o tm' := by
  unfold wantedA
  cases hg : o.guard with
  | none => rfl
  | some gw =>
    obtain ⟨j, want⟩ := gw
    simp only
    cases ht : (ops[j]?).bind (·.dst) with
    | none => rfl
    | some t =>
      have : t ∈ o.looksAt ops := by simp [Oper.looksAt, hg, ht]
      simp only [h t this]

theorem xp_congr {tm tm' : List AV} (h : ∀ t ∈ o.looksAt ops, tm.getD t .bad = tm'.getD t .bad) : xp P call ops hp tm o = xp P call ops hp tm' o := by
  have he := evalA_congr (ops := ops) h
  unfold xp
  rw [wantedA_congr h, xq_congr he]
  cases hw : wantedA ops o tm' with
  | none => rfl
  | some b =>
    cases b with
    | false => rfl
    | true =>
      simp only
      cases ho : o.op <;> try rfl
      rename_i c
      simp only
      cases hc : c.callee <;> try rfl
      rename_i f
      have hf : evalA tm f = evalA tm' f := he f (by simp [ho, Op.operands, Call.operands, hc])
      have hargs : c.args.toList.map (evalA tm) = c.args.toList.map (evalA tm') := List.map_congr_left fun x hx => he x (by simp [ho, Op.operands, Call.operands, hc]; exact .inr (by simpa using hx))
      simp only [hf]
      unfold callArgs
      cases evalA tm' f <;> try rfl
      rename_i fn first caps
      cases fn <;> simp only [hargs]

theorem putA_get {tm : List AV} {d : Option Nat} {x : AV} {t : Nat} (h : d ≠ some t) : (putA tm d x)[t]? = tm[t]? := by
  cases d with
  | none => rfl
  | some d =>
    have : d ≠ t := fun e => h (by rw [e])
    simp [putA, List.getElem?_set_ne this]

theorem getD_of {tm tm' : List AV} {t : Nat} (h : tm[t]? = tm'[t]?) : tm.getD t .bad = tm'.getD t .bad := by simp [List.getD, h]

/-- each pure operation yields its own result out of the results of all -/
theorem xPre_spec {k : Nat} (hd : drawOk ops k = true) (hk : k ≤ ops.size) : ∀ (n : Nat) {i : Nat} {tm tmK : List AV}, n = k - i → i ≤ k → xPre P call ops hp ((ops.toList.take k).drop i) tm = some tmK →
    (∀ (j : Nat) (o : Oper), i ≤ j → j < k → ops[j]? = some o → ∃ x, xp P call ops hp tmK o = some x ∧ ∀ d, o.dst = some d → d < tm.length → tmK[d]? = some x) ∧
    (∀ t, (∀ (j : Nat) (o : Oper), i ≤ j → j < k → ops[j]? = some o → o.dst ≠ some t) → tmK[t]? = tm[t]?) ∧ tmK.length = tm.length
  | 0, i, tm, tmK, hn, hi, hx => by
    have hdrop : (ops.toList.take k).drop i = [] := List.drop_eq_nil_of_le (by simp; omega)
    rw [hdrop] at hx
    simp only [xPre, Option.some.injEq] at hx
    subst hx
    exact ⟨fun j o h1 h2 => by omega, fun t _ => rfl, rfl⟩
  | n + 1, i, tm, tmK, hn, hi, hx => by
    have hil : i < ops.size := by omega
    have hoi : ops[i]? = some ops[i] := by simp [hil]
    have hdrop : (ops.toList.take k).drop i = ops[i] :: (ops.toList.take k).drop (i + 1) := by
      rw [List.drop_eq_getElem_cons (by simp; omega)]; simp
    rw [hdrop] at hx
    simp only [xPre] at hx
    split at hx <;> try (cases hx; done)
    rename_i x hxp
    obtain ⟨h1, h2, h3⟩ := xPre_spec hd hk n (i := i + 1) (by omega) (by omega) hx
    obtain ⟨hedge, hpre, _⟩ := drawOk_at hd hoi
    obtain ⟨hpk, hlook, hdist⟩ := hpre (by omega)
    have hlen : (putA tm ops[i].dst x).length = tm.length := putA_length _ _ _
    have hsame : ∀ t ∈ ops[i].looksAt ops, tmK[t]? = tm[t]? := by
      intro t ht
      have hno : ∀ (j : Nat) (o : Oper), i ≤ j → j < k → ops[j]? = some o → o.dst ≠ some t := by
        intro j o hij hjk ho hdst
        have := hedge j (hlook t ht j o hjk ho hdst)
        omega
      rw [h2 t (fun j o hij hjk ho => hno j o (by omega) hjk ho), putA_get (hno i ops[i] (Nat.le_refl _) (by omega) hoi)]
    refine ⟨fun j o hij hjk ho => ?_, fun t ht => ?_, h3.trans hlen⟩
    · rcases Nat.eq_or_lt_of_le hij with rfl | hlt
      · rw [hoi] at ho; cases ho
        refine ⟨x, by rw [xp_congr (tm' := tm) (fun t ht => getD_of (hsame t ht))]; exact hxp, fun d hdst hdl => ?_⟩
        rw [h2 d (fun j o hij hjk ho hdd => ?_)]
        · rw [hdst]; simp [putA, hdl]
        · have := ((drawOk_at hd ho).2.1 hjk).2.2 i ops[i] (by omega) hoi (by rw [hdd]; simp)
          exact this (by rw [hdst, hdd])
      · obtain ⟨x', h4, h5⟩ := h1 j o (by omega) hjk ho
        exact ⟨x', h4, fun d hdst hdl => h5 d hdst (by rw [hlen]; exact hdl)⟩
    · rw [h2 t (fun j o hij hjk ho => ht j o (by omega) hjk ho), putA_get (ht i ops[i] (Nat.le_refl _) (by omega) hoi)]

end
end Go.Proofs.YtfeemohdpmdaoaaDoor.Am

/- A region that draws its order. -/
namespace Go.Proofs.YtfeemohdpmdaoaaDoor.Am
set_option linter.unusedVariables false
open Go Go.RowKit

/-- how many are not listed yet -/
def unl (N : Nat) (listed : Array Bool) : List Nat := (List.range N).filter fun j => !listed.getD j false

theorem unl_step {N i : Nat} {listed : Array Bool} (hs : listed.size = N) (hi : i < N) (h0 : listed.getD i false = false) : (unl N (listed.setIfInBounds i true)).length + 1 = (unl N listed).length := by
  have e : unl N (listed.setIfInBounds i true) = (unl N listed).erase i := by
    have hnd : (unl N listed).Nodup := List.Pairwise.filter _ List.nodup_range
    rw [hnd.erase_eq_filter]
    unfold unl
    rw [List.filter_filter]
    refine List.filter_congr fun j hj => ?_
    have hjl : j < N := List.mem_range.1 hj
    simp only [Array.getD_eq_getD_getElem?, Array.getElem?_setIfInBounds]
    by_cases hji : i = j
    · subst hji; simp [hs, hjl]
    · simp [hji, Ne.symm hji]
  have hm : i ∈ unl N listed := by simp only [unl, List.mem_filter, List.mem_range, h0]; exact ⟨hi, rfl⟩
  rw [e, List.length_erase_of_mem hm]
  have := List.length_pos_of_mem hm
  omega

section
variable {P : Program} {S S' S'' X : Pr} {yv : Option Nat} {w w' w'' : World} {m m' m'' : List MB} {A B : List (AV × Value)} {hp hp' : List Blk} {hv : List (List Value)} {call : CallT} {s s' : RS} {a : Act} {o : Oper} {ops : Array Oper}

/-- what a pure operation reads an accumulator out of -/
def pvOf (P : Program) (hp : List Blk) (tm : List AV) (o : Oper) : Option (Nat × Loc) :=
  match o.guard with
  | none => pvRead P ⟨tm, hp, []⟩ o
  | some _ => none

theorem pvRead_pv {tm : List AV} {pv : List (Nat × Loc)} : pvRead P ⟨tm, hp, pv⟩ o = pvRead P ⟨tm, hp, []⟩ o := by
  unfold pvRead; rfl

/-- a pure operation is a step -/
theorem xp_step {tm : List AV} {pv : List (Nat × Loc)} {x : AV} (hk : pureKind o = true) (h : xp P call ops hp tm o = some x) :
    ∃ pv', qStep P call ops ⟨tm, hp, pv⟩ o ⟨putA tm o.dst x, hp, pv'⟩ ∧ (∀ p ∈ pvPut pv o.dst, p ∈ pv') ∧ (∀ p, pvOf P hp tm o = some p → p ∈ pv') := by
  unfold xp at h
  split at h
  · rename_i hw
    cases h
    refine ⟨pvPut pv o.dst, .inl (by simp [xStep, hw]), fun p h => h, fun p hp => ?_⟩
    unfold pvOf at hp
    cases hg : o.guard with
    | none => simp [wantedA, hg] at hw
    | some g => simp [hg] at hp
  · rename_i hw
    split at h
    · rename_i c ho
      have hpv : pvOf P hp tm o = none := by
        unfold pvOf
        split
        · unfold pvRead; rw [ho]; cases o.dst <;> rfl
        · rfl
      split at h
      · rename_i f hc
        split at h <;> try (cases h; done)
        rename_i k args hargs
        split at h <;> try (cases h; done)
        rename_i hcl
        simp only [Option.map_eq_some_iff] at h
        obtain ⟨r, hr, rfl⟩ := h
        have hxa : xa P ⟨tm, hp, pv⟩ o = none := by simp [xa, ho, hc]
        refine ⟨pvPut pv o.dst, .inl ?_, fun p h => h, fun p hp => (by rw [hpv] at hp; cases hp)⟩
        simp only [xStep, hw, hxa]
        simp [xh, ho, hc, hargs, hcl, hr]
      · rename_i hc
        exact ⟨(pvRead P ⟨tm, hp, pv⟩ o).toList ++ pvPut pv o.dst, .inr ⟨hw, x, h, rfl⟩, fun p h => List.mem_append_right _ h, fun p hp => (by rw [hpv] at hp; cases hp)⟩
    · rename_i hno
      have hxa : xa P ⟨tm, hp, pv⟩ o = none := by
        unfold xa
        split
        · rename_i c ho
          exact absurd ho (hno c)
        · rfl
      have hxh : xh P call ⟨tm, hp, pv⟩ o = none := by
        unfold xh
        split <;> rename_i ho <;> first | (simp [pureKind, ho] at hk; done) | (exact absurd ho (hno _)) | rfl | (simp only [xq, ho] at h; split at h <;> simp_all)
      refine ⟨(pvRead P ⟨tm, hp, pv⟩ o).toList ++ pvPut pv o.dst, .inl (by simp only [xStep, hw, hxa, hxh, h]), fun p h => List.mem_append_right _ h, fun p hpp => List.mem_append_left _ ?_⟩
      unfold pvOf at hpp
      split at hpp
      · rw [pvRead_pv, hpp]; simp
      · cases hpp
  · cases h

theorem pvRead_congr {tm tm' : List AV} (h : ∀ t ∈ o.looksAt ops, tm.getD t .bad = tm'.getD t .bad) (hl : tm.length = tm'.length) : pvRead P ⟨tm, hp, []⟩ o = pvRead P ⟨tm', hp, []⟩ o := by
  have hs : ∀ d : Nat, (tm[d]?).isSome = (tm'[d]?).isSome := by
    intro d
    by_cases hd : d < tm.length
    · simp [hd, show d < tm'.length by omega]
    · simp [hd, show ¬ d < tm'.length by omega]
  have hop : ∀ t, Operand.tmp t ∈ o.op.operands → tm.getD t .bad = tm'.getD t .bad := fun t ht =>
    h t (List.mem_append_left _ (List.mem_filterMap.2 ⟨.tmp t, by simpa using ht, rfl⟩))
  unfold pvRead
  split
  · rename_i d x hd ho
    simp only [hop x (by simp [ho, Op.operands]), hs d]
  · rename_i d t q hd ho
    simp only [hop q (by simp [ho, Op.operands]), hs d]
  · rfl

theorem pvOf_congr {tm tm' : List AV} (h : ∀ t ∈ o.looksAt ops, tm.getD t .bad = tm'.getD t .bad) (hl : tm.length = tm'.length) : pvOf P hp tm o = pvOf P hp tm' o := by
  unfold pvOf
  rw [pvRead_congr h hl]

/-- accumulators that the first k operations read -/
def pvAll (P : Program) (hp : List Blk) (tmK : List AV) (pre : List Oper) : List (Nat × Loc) :=
  (pre.filterMap (pvOf P hp tmK)).filter fun p => match p.2 with
    | .slot x => pre.all fun o => o.dst != some x
    | _ => true

theorem pvOf_dst {tm : List AV} {p : Nat × Loc} (h : pvOf P hp tm o = some p) : o.dst = some p.1 := by
  unfold pvOf at h
  split at h <;> try (cases h; done)
  unfold pvRead at h
  split at h
  · rename_i d x hd ho
    split at h <;> try (cases h; done)
    cases h; exact hd
  · rename_i d t q hd ho
    split at h <;> try (cases h; done)
    split at h <;> try (cases h; done)
    split at h <;> try (cases h; done)
    cases h; exact hd
  · cases h

theorem pre_sound {r : Option Nat} {Q : Exit → Act → World → Prop} {k : Nat} (hcall : CallOk P call) (hd : drawOk ops k = true) (hk : k ≤ ops.size) {tm0 tmK : List AV}
    (hx1 : xPre P call ops hp (ops.toList.take k) tm0 = some tmK) :
    ∀ (n : Nat) {S : Pr} {w : World} {m : List MB} {hv : List (List Value)} {a : Act} {listed : Array Bool} {tm : List AV} {pv : List (Nat × Loc)},
    n = (unl ops.size listed).length → listed.size = ops.size → (∀ j, k ≤ j → listed.getD j false = false) →
    (∀ (j : Nat) (o' : Oper), ops[j]? = some o' → listed.getD j false = true → ∀ e ∈ edgesOf o', listed.getD e false = true) →
    tm.length = tm0.length →
    (∀ (j : Nat) (o : Oper) (d : Nat), j < k → ops[j]? = some o → o.dst = some d → listed.getD j false = true → tm[d]? = tmK[d]?) →
    (∀ t, (∀ (j : Nat) (o : Oper), j < k → ops[j]? = some o → listed.getD j false = true → o.dst ≠ some t) → tm[t]? = tm0[t]?) →
    (∀ (j : Nat) (o : Oper) (p : Nat × Loc), j < k → ops[j]? = some o → listed.getD j false = true → pvOf P hp tmK o = some p → p ∈ pvAll P hp tmK (ops.toList.take k) → p ∈ pv) →
    RelS S X yv w m B hv ⟨tm, hp, pv⟩ a →
    Nx S X yv w m B ⟨tmK, hp, pvAll P hp tmK (ops.toList.take k)⟩ a (fun a w => ∀ listed : Array Bool, listed.size = ops.size → (∀ j, j < ops.size → listed.getD j false = decide (j < k)) → wpAnyIn (Fn r) 0 P .any ops Q (ops.size - k) listed a w) →
    wpAnyIn (Fn r) 0 P .any ops Q n listed a w := by
  obtain ⟨sp1, sp2, sp3⟩ := xPre_spec (call := call) hd hk k (i := 0) (tm := tm0) (tmK := tmK) rfl (Nat.zero_le _) (by simpa using hx1)
  intro n
  induction n with
  | zero =>
    intro S w m hv a listed tm pv hn hls hlk hdown htl h1 h2 h3 hr hK
    -- all are listed
    have hall : ∀ j, j < ops.size → listed.getD j false = true := by
      intro j hj
      cases hh : listed.getD j false with
      | true => rfl
      | false =>
        have : j ∈ unl ops.size listed := by simp only [unl, List.mem_filter, List.mem_range, hh]; exact ⟨hj, rfl⟩
        rw [List.length_eq_zero_iff.1 hn.symm] at this; cases this
    have hkk : k = ops.size := by
      rcases Nat.lt_or_ge k ops.size with h' | h'
      · have := hall k h'; rw [hlk k (Nat.le_refl _)] at this; cases this
      · omega
    subst hkk
    have htm : tm = tmK := by
      apply List.ext_getElem?
      intro t
      by_cases hc : ∃ (j : Nat) (o : Oper), j < ops.size ∧ ops[j]? = some o ∧ o.dst = some t
      · obtain ⟨j, o, g1, g2, g3⟩ := hc
        exact h1 j o t g1 g2 g3 (hall j g1)
      · rw [h2 t (fun j o g1 g2 _ g3 => hc ⟨j, o, g1, g2, g3⟩), sp2 t (fun j o _ g1 g2 g3 => hc ⟨j, o, g1, g2, g3⟩)]
    subst htm
    have hpv : ∀ p ∈ pvAll P hp tm (ops.toList.take ops.size), p ∈ pv := by
      intro p hp'
      have hp0 := hp'
      simp only [pvAll, List.mem_filter, List.mem_filterMap] at hp'
      obtain ⟨⟨o, ho, hpo⟩, _⟩ := hp'
      obtain ⟨j, hj⟩ := List.mem_iff_getElem?.1 (List.mem_of_mem_take ho)
      have hjo : ops[j]? = some o := by simpa using hj
      exact h3 j o p (Array.getElem?_eq_some_iff.1 hjo).1 hjo (hall j (Array.getElem?_eq_some_iff.1 hjo).1) hpo hp0
    have := hK S w m hv a (Gs.refl _ _ _ _ _) ⟨hr.1, hr.2.1, fun p hp => hr.2.2 p (hpv p hp)⟩ rfl rfl listed hls (fun j hj => by rw [hall j hj]; simp [hj])
    rw [Nat.sub_self] at this
    exact this
  | succ n ih =>
    intro S w m hv a listed tm pv hn hls hlk hdown htl h1 h2 h3 hr hK
    by_cases hdone : ∀ j, j < k → listed.getD j false = true
    · -- the pure ones are done
      have htm : tm = tmK := by
        apply List.ext_getElem?
        intro t
        by_cases hc : ∃ (j : Nat) (o : Oper), j < k ∧ ops[j]? = some o ∧ o.dst = some t
        · obtain ⟨j, o, g1, g2, g3⟩ := hc
          exact h1 j o t g1 g2 g3 (hdone j g1)
        · rw [h2 t (fun j o g1 g2 _ g3 => hc ⟨j, o, g1, g2, g3⟩), sp2 t (fun j o _ g1 g2 g3 => hc ⟨j, o, g1, g2, g3⟩)]
      subst htm
      have hpv : ∀ p ∈ pvAll P hp tm (ops.toList.take k), p ∈ pv := by
        intro p hp'
        have hp0 := hp'
        simp only [pvAll, List.mem_filter, List.mem_filterMap] at hp'
        obtain ⟨⟨o, ho, hpo⟩, _⟩ := hp'
        obtain ⟨j, hj⟩ := List.mem_iff_getElem?.1 ho
        rw [List.getElem?_take] at hj
        split at hj <;> try (cases hj; done)
        rename_i hjk
        have hjo : ops[j]? = some o := by simpa using hj
        exact h3 j o p hjk hjo (hdone j hjk) hpo hp0
      have hlist : ∀ j, j < ops.size → listed.getD j false = decide (j < k) := by
        intro j hj
        by_cases hjk : j < k
        · rw [hdone j hjk]; simp [hjk]
        · rw [hlk j (by omega)]; simp [hjk]
      have hcount : (unl ops.size listed).length = ops.size - k := by
        have e : unl ops.size listed = (List.range ops.size).filter fun j => !decide (j < k) := by
          unfold unl
          refine List.filter_congr fun j hj => ?_
          rw [hlist j (List.mem_range.1 hj)]
        rw [e]
        have e2 : List.range ops.size = List.range k ++ (List.range (ops.size - k)).map (k + ·) := by
          rw [← List.range_add]; congr 1; omega
        rw [e2, List.filter_append]
        have e3 : (List.range k).filter (fun j => !decide (j < k)) = [] := by
          rw [List.filter_eq_nil_iff]; intro j hj; simp [List.mem_range.1 hj]
        rw [e3, List.filter_eq_self.2]
        · simp
        · intro j hj
          obtain ⟨i, _, rfl⟩ := List.mem_map.1 hj
          simp
      rw [hn, hcount]
      exact hK S w m hv a (Gs.refl _ _ _ _ _) ⟨hr.1, hr.2.1, fun p hp => hr.2.2 p (hpv p hp)⟩ rfl rfl listed hls hlist
    · -- one of them
      have hex : ∃ j, j < k ∧ listed.getD j false = false := by
        apply Classical.byContradiction
        intro hno
        exact hdone fun j hj => by
          cases hh : listed.getD j false with
          | true => rfl
          | false => exact absurd ⟨j, hj, hh⟩ hno
      have hmin : ∃ j, j < k ∧ listed.getD j false = false ∧ ∀ i, i < j → listed.getD i false = true := by
        obtain ⟨j, hj⟩ := hex
        induction j using Nat.strongRecOn with
        | ind j ihj =>
          by_cases hall : ∀ i, i < j → listed.getD i false = true
          · exact ⟨j, hj.1, hj.2, hall⟩
          · have : ∃ i, i < j ∧ listed.getD i false = false := by
              apply Classical.byContradiction
              intro hno
              exact hall fun i hi => by
                cases hh : listed.getD i false with
                | true => rfl
                | false => exact absurd ⟨i, hi, hh⟩ hno
            obtain ⟨i, hi, hi0⟩ := this
            exact ihj i hi ⟨by omega, hi0⟩
      obtain ⟨j0, hj0k, hj00, hj0all⟩ := hmin
      have hgt : ∀ j, j < ops.size → listed.getD j true = listed.getD j false := by
        intro j hj; simp [hls, hj]
      have hmem : j0 ∈ Region.ready .any ops listed := by
        have hj0 : j0 < ops.size := by omega
        refine ready_of_edges (o := ops[j0]) (by simp [hj0]) (by rw [hgt j0 hj0]; exact hj00) fun e he => ?_
        exact hj0all e ((drawOk_at hd (by simp [hj0])).1 e he)
      refine ⟨fun h0 => (by rw [h0] at hmem; cases hmem), fun j hj => ?_⟩
      obtain ⟨oj, hoj, hj0, hje⟩ := ready_edges hj
      have hjl : j < ops.size := (Array.getElem?_eq_some_iff.1 hoj).1
      rw [hgt j hjl] at hj0
      have hjk : j < k := by
        rcases Nat.lt_or_ge j k with h' | h'
        · exact h'
        · have := anc_listed hdown ops.size j oj hoj hje j0 ((drawOk_at hd hoj).2.2 h' j0 (by omega))
          rw [hj00] at this; cases this
      obtain ⟨hedge, hpre, _⟩ := drawOk_at hd hoj
      obtain ⟨hpk, hlook, _⟩ := hpre hjk
      have hsame : ∀ t ∈ oj.looksAt ops, tm[t]? = tmK[t]? := by
        intro t ht
        by_cases hc : ∃ (i : Nat) (o : Oper), i < k ∧ ops[i]? = some o ∧ o.dst = some t
        · obtain ⟨i, o, g1, g2, g3⟩ := hc
          exact h1 i o t g1 g2 g3 (hje i (hlook t ht i o g1 g2 g3))
        · rw [h2 t (fun j o g1 g2 _ g3 => hc ⟨j, o, g1, g2, g3⟩), sp2 t (fun j o _ g1 g2 g3 => hc ⟨j, o, g1, g2, g3⟩)]
      obtain ⟨x, hxp, hxd⟩ := sp1 j oj (Nat.zero_le _) hjk hoj
      have hxp' : xp P call ops hp tm oj = some x := by
        rw [xp_congr (tm' := tmK) (fun t ht => getD_of (hsame t ht))]; exact hxp
      obtain ⟨pv', hst, hpv1, hpv2⟩ := xp_step (pv := pv) hpk hxp'
      rw [pvOf_congr (ops := ops) (tm' := tmK) (fun t ht => getD_of (hsame t ht)) (htl.trans sp3.symm)] at hpv2
      unfold wpOpIn
      simp only [hoj]
      have hget : ∀ i, (listed.setIfInBounds j true).getD i false = (if i = j then true else listed.getD i false) := by
        intro i
        simp only [Array.getD_eq_getD_getElem?, Array.getElem?_setIfInBounds]
        by_cases hij : j = i
        · subst hij; simp [hls, hjl]
        · simp [hij, Ne.symm hij]
      have hdst : ∀ (i : Nat) (o : Oper), i < k → i ≠ j → ops[i]? = some o → oj.dst ≠ none → o.dst ≠ oj.dst := by
        intro i o hik hij ho hne he
        rcases Nat.lt_or_ge i j with h' | h'
        · exact ((drawOk_at hd hoj).2.1 hjk).2.2 i o h' ho hne he
        · exact ((drawOk_at hd ho).2.1 hik).2.2 j oj (by omega) hoj (by rw [he]; exact hne) he.symm
      refine qStep_sound hcall hr hst fun S' w' m' hv' a' hg hr' hdd hsz => ?_
      refine ih (by have := unl_step hls hjl hj0; omega) (by simp [hls]) ?_ ?_ (by rw [putA_length]; exact htl) ?_ ?_ ?_ hr'
        fun S'' w'' m'' hv'' a'' hg' hr'' hd' hsz' => hK S'' w'' m'' hv'' a'' (hg.trans hg') hr'' (hd'.trans hdd) (hsz'.trans hsz)
      · intro i hi
        rw [hget, if_neg (by omega)]; exact hlk i hi
      · intro i o' ho' hi e he
        rw [hget] at hi ⊢
        split at hi
        · rename_i hij
          subst hij
          rw [hoj] at ho'; cases ho'
          split
          · rfl
          · exact hje e he
        · split
          · rfl
          · exact hdown i o' ho' hi e he
      · intro i o d hik ho hod hi
        rw [hget] at hi
        by_cases hij : i = j
        · subst hij
          rw [hoj] at ho; cases ho
          rw [hod]
          by_cases hdl : d < tm.length
          · rw [hxd d hod (by rw [← htl]; exact hdl)]; simp [putA, hdl]
          · simp only [putA]
            rw [List.getElem?_eq_none (by simp; omega), List.getElem?_eq_none (by omega)]
        · rw [if_neg hij] at hi
          rw [putA_get]
          · exact h1 i o d hik ho hod hi
          · intro he
            exact hdst i o hik hij ho (by rw [he]; simp) (by rw [hod, he])
      · intro t ht
        rw [putA_get (ht j oj hjk hoj (by rw [hget, if_pos rfl]))]
        exact h2 t fun i o hik ho hi => ht i o hik ho (by rw [hget]; split <;> simp_all)
      · intro i o p hik ho hi hpo hpa
        rw [hget] at hi
        by_cases hij : i = j
        · subst hij
          rw [hoj] at ho; cases ho
          exact hpv2 p hpo
        · rw [if_neg hij] at hi
          have hin := h3 i o p hik ho hi hpo hpa
          refine hpv1 p ?_
          cases hjd : oj.dst with
          | none => exact hin
          | some d =>
            simp only [pvPut, List.mem_filter, Bool.and_eq_true, bne_iff_ne, ne_eq]
            refine ⟨hin, fun he => ?_, fun he => ?_⟩
            · exact hdst i o hik hij ho (by rw [hjd]; simp) (by rw [pvOf_dst hpo, he, hjd])
            · simp only [pvAll, List.mem_filter] at hpa
              have hpa2 := hpa.2
              rw [he] at hpa2
              simp only [List.all_eq_true, bne_iff_ne, ne_eq] at hpa2
              have hmem' : oj ∈ ops.toList.take k := by
                refine List.mem_iff_getElem?.2 ⟨j, ?_⟩
                rw [List.getElem?_take, if_pos hjk]; simpa using hoj
              exact hpa2 oj hmem' hjd

end
end Go.Proofs.YtfeemohdpmdaoaaDoor.Am

/- Others' steps: what they may turn, and what stays tied. -/
namespace Go.Proofs.YtfeemohdpmdaoaaDoor.Am
set_option linter.unusedVariables false
open Go Go.RowKit

/-- a loop's record, before and after a round -/
def LoopLike (o o' : Obj) : Prop := ∃ (r : Loop) (st : LoopState) (pd : Option Code), o = .loop r ∧ o' = .loop { r with state := st, pending := pd }

theorem LoopLike.trans {a b c : Obj} (h : LoopLike a b) (k : LoopLike b c) : LoopLike a c := by
  obtain ⟨r, st, pd, rfl, rfl⟩ := h
  obtain ⟨r', st', pd', h1, rfl⟩ := k
  cases h1
  exact ⟨r, st', pd', rfl, rfl⟩

/-- from one moment to a later one: cells outside of Z stay, and records outside of L -/
structure Tr (Z : Pr) (L : Nat → Prop) (S : Pr) (w : World) (S' : Pr) (w' : World) : Prop where
  os : w'.os = w.os
  tape : w'.tape = w.tape
  output : w'.output = w.output
  size : w.heap.size ≤ w'.heap.size
  cells : ∀ (b : Nat) (c : Array Value) (e : TypeId) (f : Nat × Nat), w.heap[b]? = some (Obj.cells c e f) → ∃ c' : Array Value, w'.heap[b]? = some (Obj.cells c' e f) ∧ c'.size = c.size
  objs : ∀ (b : Nat) (o : Obj), w.heap[b]? = some o → o.isCells = false → w'.heap[b]? = some o ∨ (L b ∧ ∃ o', w'.heap[b]? = some o' ∧ LoopLike o o')
  same : ∀ b i v, (S b i ∨ ¬ Z b i) → w.cell? ⟨b, i, none⟩ = some v → w'.cell? ⟨b, i, none⟩ = some v
  up : ∀ b i, S b i → S' b i
  new : ∀ b i, S' b i → S b i ∨ Z b i ∨ w.heap.size ≤ b
  lt : ∀ b i, S' b i → b < w'.heap.size

/-- of it: what concerns cells -/
structure Tr0 (Z : Pr) (S : Pr) (w : World) (S' : Pr) (w' : World) : Prop where
  size : w.heap.size ≤ w'.heap.size
  cells : ∀ (b : Nat) (c : Array Value) (e : TypeId) (f : Nat × Nat), w.heap[b]? = some (Obj.cells c e f) → ∃ c' : Array Value, w'.heap[b]? = some (Obj.cells c' e f) ∧ c'.size = c.size
  same : ∀ b i v, (S b i ∨ ¬ Z b i) → w.cell? ⟨b, i, none⟩ = some v → w'.cell? ⟨b, i, none⟩ = some v
  up : ∀ b i, S b i → S' b i
  new : ∀ b i, S' b i → S b i ∨ Z b i ∨ w.heap.size ≤ b
  lt : ∀ b i, S' b i → b < w'.heap.size

theorem Tr.tr0 {Z : Pr} {L : Nat → Prop} {S S' : Pr} {w w' : World} (h : Tr Z L S w S' w') : Tr0 Z S w S' w' := ⟨h.size, h.cells, h.same, h.up, h.new, h.lt⟩

section
variable {P : Program} {S S' S'' X X' Z Z' : Pr} {L L' : Nat → Prop} {yv : Option Nat} {w w' w'' : World} {m m' m'' : List MB} {A B : List (AV × Value)} {hp hp' : List Blk} {hv : List (List Value)}

theorem Tr.refl (Z : Pr) (L : Nat → Prop) (hS : ∀ b i, S b i → b < w.heap.size) : Tr Z L S w S w :=
  ⟨rfl, rfl, rfl, Nat.le_refl _, fun _ c _ _ h => ⟨c, h, rfl⟩, fun _ _ h _ => .inl h, fun _ _ _ _ h => h, fun _ _ h => h, fun _ _ h => .inl h, hS⟩

theorem Tr.trans (h : Tr Z L S w S' w') (k : Tr Z' L' S' w' S'' w'') (hZ : ∀ b i, b < w.heap.size → Z' b i → Z b i) (hL : ∀ b, b < w.heap.size → L' b → L b) : Tr Z L S w S'' w'' := by
  refine ⟨k.os.trans h.os, k.tape.trans h.tape, k.output.trans h.output, Nat.le_trans h.size k.size, fun b c e f hb => ?_, fun b o hb ho => ?_, fun b i v hs hv => ?_, fun b i hs => k.up b i (h.up b i hs), fun b i hs => ?_, k.lt⟩
  · obtain ⟨c', h1, h2⟩ := h.cells b c e f hb
    obtain ⟨c'', h3, h4⟩ := k.cells b c' e f h1
    exact ⟨c'', h3, h4.trans h2⟩
  · have hbl : b < w.heap.size := (Array.getElem?_eq_some_iff.1 hb).1
    rcases h.objs b o hb ho with h1 | ⟨h1, o', h2, h3⟩
    · rcases k.objs b o h1 ho with h4 | ⟨h4, h5⟩
      · exact .inl h4
      · exact .inr ⟨hL b hbl h4, h5⟩
    · have ho' : o'.isCells = false := by obtain ⟨_, _, _, _, rfl⟩ := h3; rfl
      rcases k.objs b o' h2 ho' with h4 | ⟨_, o'', h5, h6⟩
      · exact .inr ⟨h1, o', h4, h3⟩
      · exact .inr ⟨h1, o'', h5, h3.trans h6⟩
  · have hbl : b < w.heap.size := World.block_lt_of_cell? w ⟨b, i, none⟩ hv
    exact k.same b i v (hs.imp (h.up b i) fun hz hz' => hz (hZ b i hbl hz')) (h.same b i v hs hv)
  · rcases k.new b i hs with h1 | h1 | h1
    · exact h.new b i h1
    · by_cases hb : b < w.heap.size
      · exact .inr (.inl (hZ b i hb h1))
      · exact .inr (.inr (by omega))
    · exact .inr (.inr (Nat.le_trans h.size h1))

theorem Tr.mono' (h : Tr Z L S w S' w') (hZ : ∀ b i, b < w.heap.size → Z b i → Z' b i) (hL : ∀ b, L b → L' b) : Tr Z' L' S w S' w' :=
  ⟨h.os, h.tape, h.output, h.size, h.cells, fun b o hb ho => (h.objs b o hb ho).imp id fun h1 => ⟨hL b h1.1, h1.2⟩,
   fun b i v hs hv => h.same b i v (hs.imp id fun hz hz' => hz (hZ b i (World.block_lt_of_cell? w ⟨b, i, none⟩ hv) hz')) hv,
   h.up, fun b i hs => (h.new b i hs).imp id fun h1 => if hb : b < w.heap.size then h1.imp (hZ b i hb) id else .inr (Nat.le_of_not_lt hb), h.lt⟩

theorem Tr.mono (h : Tr Z L S w S' w') (hZ : ∀ b i, Z b i → Z' b i) (hL : ∀ b, L b → L' b) : Tr Z' L' S w S' w' := h.mono' (fun b i _ => hZ b i) hL

/-- a loop's record turns -/
theorem Tr.putLoop (h : Tr Z L S w S' w') {l : Nat} {rc : Loop} (st : LoopState) (pd : Option Code) (hl : w'.heap[l]? = some (.loop rc)) : Tr Z (fun x => x = l ∨ L x) S w S' (w'.putObj l (.loop { rc with state := st, pending := pd })) := by
  have hll : l < w'.heap.size := (Array.getElem?_eq_some_iff.1 hl).1
  have hcell : ∀ (b i : Nat) (v : Value), w'.cell? ⟨b, i, none⟩ = some v → (w'.putObj l (.loop { rc with state := st, pending := pd })).cell? ⟨b, i, none⟩ = some v := by
    intro b i v hv
    have hbd : b ≠ l := by
      rintro rfl
      obtain ⟨o1, h1, h2⟩ := cells_of_cell hv
      simp only at h1
      rw [hl] at h1; cases h1; cases h2
    rw [World.cell?_of_block (w := w') (a := ⟨b, i, none⟩) (World.putObj_heap_other hbd)]; exact hv
  refine ⟨h.os, h.tape, h.output, by simpa using h.size, fun b c e f hb => ?_, fun b o hb ho => ?_, fun b i v hs hv => hcell b i v (h.same b i v hs hv), h.up, h.new, fun b i hs => by simpa using h.lt b i hs⟩
  · obtain ⟨c', h1, h2⟩ := h.cells b c e f hb
    have hbd : b ≠ l := by rintro rfl; rw [hl] at h1; cases h1
    exact ⟨c', by rw [World.putObj_heap_other hbd]; exact h1, h2⟩
  · by_cases hbl : b = l
    · subst hbl
      refine .inr ⟨.inl rfl, _, World.putObj_heap_same hll, ?_⟩
      rcases h.objs b o hb ho with h1 | ⟨_, o', h1, h2⟩
      · rw [hl] at h1; cases h1; exact ⟨rc, st, pd, rfl, rfl⟩
      · rw [hl] at h1; cases h1; exact h2.trans ⟨rc, st, pd, rfl, rfl⟩
    · rw [World.putObj_heap_other hbl]
      exact (h.objs b o hb ho).imp id fun h1 => ⟨.inr h1.1, h1.2⟩

theorem Gs.tr (h : Gs S X none w m S' w' m') (hlt : ∀ b i, S' b i → b < w'.heap.size) : Tr (fun b i => ¬ X b i) (fun _ => False) S w S' w' :=
  ⟨h.ag.os, h.ag.tape, h.ag.output, h.ag.size, h.ag.cells, fun b o hb ho => .inl (h.ag.objs b o hb ho (by simp)), fun b i v hs hv => h.ag.same b i v (hs.imp id fun hx => Classical.not_not.1 hx) hv,
   h.up, fun b i hs => (h.new b i hs).imp id .inl, hlt⟩

theorem RV.tr0 (h : Tr0 Z S w S' w') {x : AV} {v : Value} (hr : RV S w m yv x v) : RV S' w' m yv x v := by
  have hdr : ∀ {x v}, DR S w x v → DR S' w' x v := fun hd => hd.ext h.up fun b i v hs hv => h.same b i v (.inl hs) hv
  induction hr with
  | d h1 => exact .d (hdr h1)
  | agg hl _ ih => exact .agg hl (fun i c v h h' => ih i c v h h')
  | tup hl _ ih => exact .tup hl (fun i c v h h' => ih i c v h h')
  | own h1 ho =>
    obtain ⟨cur, h2, h3, h4⟩ := ho
    obtain ⟨cur', h5, h6⟩ := h.cells _ _ _ _ h2
    exact .own (hdr h1) ⟨cur', h5, h3, h6.trans h4⟩
  | ownNil => exact .ownNil
  | full h1 => exact .full (hdr h1)
  | rptr vals hne hsp hs hc hr h1 =>
    exact .rptr vals hne hsp (fun j c h' => h.up _ _ (hs j c h')) (fun j c h' => h.same _ _ _ (.inl (hs j c h')) (hc j c h')) (fun j c h' => hdr (hr j c h')) h1
  | ref h1 hfit hn => exact .ref h1 hfit hn
  | ptr h1 => exact .ptr h1
  | gref h1 hv' h2 hc =>
    refine .gref h1 hv' h2 fun he => ?_
    obtain ⟨hl, cap, h1', h2, h3, cur, e, h4, h5⟩ := hc he
    obtain ⟨cur', h6, h7⟩ := h.cells _ _ _ _ h4
    exact ⟨hl, cap, h1', h2, h3, cur', e, h6, h7.trans h5⟩
  | gptr h1 hv' h2 hc => exact .gptr h1 hv' h2 hc
  | fn hf hl hl' _ _ ih ih' => exact .fn hf hl hl' (fun i c v h h' => ih i c v h h') (fun i c v h h' => ih' i c v h h')
  | yl h1 => exact .yl h1
  | bad => exact .bad

theorem RV.tr (h : Tr Z L S w S' w') {x : AV} {v : Value} (hr : RV S w m yv x v) : RV S' w' m yv x v := hr.tr0 h.tr0

theorem own_lt {x : AV} {v : Value} {b : Nat} (hr : RV S w m yv x v) (ho : ownB (x, v) = some b) : b < w.heap.size := by
  cases hr <;> simp only [ownB] at ho <;> try (cases ho)
  rename_i ho
  obtain ⟨cur, h1, _⟩ := ho
  exact (Array.getElem?_eq_some_iff.1 h1).1

/-- what stays tied over others' steps -/
theorem Rel.still0 (h : Rel S X yv w m A hp hv) (ht : Tr0 Z S w S' w') (hZm : ∀ (g : Nat) (blk : Blk) (p : MB), hp[g]? = some blk → m[g]? = some p → blk.fro = false → ∀ i, ¬ Z p.b i)
    (hZo : ∀ p ∈ A, ∀ b, ownB p = some b → ∀ i, ¬ Z b i) (hX : ∀ b i, X' b i → X b i ∨ (w.heap.size ≤ b ∧ b < w'.heap.size)) : Rel S' X' yv w' m A hp hv := by
  refine ⟨?_, fun p hp => (h.rv p hp).tr0 ht, h.pw, h.nm, ?_, h.mnd, h.ml, h.hl, ?_, fun g j v hv => by
    obtain ⟨g1, g2, g3⟩ := h.gl g j v hv
    exact ⟨ht.up _ _ g1, ht.same _ _ _ (.inl g1) g2, g3⟩⟩
  · intro b i hbi
    rcases hbi with h1 | h1
    · exact ht.lt b i h1
    · rcases hX b i h1 with h2 | ⟨_, h2⟩
      · exact Nat.lt_of_lt_of_le (h.lt b i (.inr h2)) ht.size
      · exact h2
  · intro p hp b hb
    have hbl := own_lt (h.rv p hp) (x := p.1) (v := p.2) hb
    refine ⟨fun i hx => ?_, fun i hi hs => ?_⟩
    · rcases hX b i hx with h2 | ⟨h2, _⟩
      · exact (h.sp p hp b hb).1 i h2
      · omega
    · rcases ht.new b i hs with h2 | h2 | h2
      · exact (h.sp p hp b hb).2 i hi h2
      · exact hZo p hp b hb i h2
      · omega
  · intro g blk p vs h1 h2 h3
    obtain ⟨a1, a2, a3, a4, a5, ⟨cur, e, a6, a7, a8⟩, a9, a10⟩ := h.bl g blk p vs h1 h2 h3
    have hlt : p.b < w.heap.size := (Array.getElem?_eq_some_iff.1 a6).1
    obtain ⟨cur', c1, c2⟩ := ht.cells _ _ _ _ a6
    refine ⟨a1, a2, a3, a4, a5, ⟨cur', e, c1, ?_, by omega⟩, fun hf i => ⟨fun hs => ?_, fun hx => ?_⟩, fun hf i hi => ht.up _ _ (a10 hf i hi)⟩
    · rw [← a7]
      apply List.ext_getElem?
      intro i
      simp only [List.getElem?_take]
      split
      · rename_i hi
        have hcur : i < cur.size := by omega
        have hce : w.cell? ⟨p.b, i, none⟩ = some cur[i] := by simp [World.cell?, a6, hcur]
        have hs : S p.b i ∨ ¬ Z p.b i := by
          cases hfr : blk.fro with
          | true => exact .inl (a10 hfr i hi)
          | false => exact .inr (hZm g blk p h1 h2 hfr i)
        have hce' := ht.same _ _ _ hs hce
        have hcur' : i < cur'.size := by omega
        simp only [World.cell?, c1] at hce'
        simp [hcur'] at hce'
        simp [hcur, hcur', hce']
      · rfl
    · rcases ht.new _ _ hs with h4 | h4 | h4
      · exact (a9 hf i).1 h4
      · exact hZm g blk p h1 h2 hf i h4
      · omega
    · rcases hX _ _ hx with h4 | ⟨h4, _⟩
      · exact (a9 hf i).2 h4
      · omega

theorem Rel.still (h : Rel S X yv w m A hp hv) (ht : Tr Z L S w S' w') (hZm : ∀ (g : Nat) (blk : Blk) (p : MB), hp[g]? = some blk → m[g]? = some p → blk.fro = false → ∀ i, ¬ Z p.b i)
    (hZo : ∀ p ∈ A, ∀ b, ownB p = some b → ∀ i, ¬ Z b i) (hX : ∀ b i, X' b i → X b i ∨ (w.heap.size ≤ b ∧ b < w'.heap.size)) : Rel S' X' yv w' m A hp hv := h.still0 ht.tr0 hZm hZo hX

/-- an object that is no cells turns -/
theorem tr0_putObj {d : Nat} {o o' : Obj} (hd : w.heap[d]? = some o) (ho : o.isCells = false) (hS : ∀ b i, S b i → b < w.heap.size) : Tr0 Z S w S (w.putObj d o') := by
  have hcell : ∀ (b i : Nat) (v : Value), w.cell? ⟨b, i, none⟩ = some v → (w.putObj d o').cell? ⟨b, i, none⟩ = some v := by
    intro b i v hv
    have hbd : b ≠ d := by
      rintro rfl
      obtain ⟨o1, h1, h2⟩ := cells_of_cell hv
      simp only at h1
      rw [hd] at h1; cases h1; rw [ho] at h2; cases h2
    rw [World.cell?_of_block (w := w) (a := ⟨b, i, none⟩) (World.putObj_heap_other hbd)]; exact hv
  refine ⟨by simp, fun b c e f hb => ⟨c, ?_, rfl⟩, fun b i v _ hv => hcell b i v hv, fun _ _ h => h, fun _ _ h => .inl h, fun b i h => by simpa using hS b i h⟩
  have hbd : b ≠ d := by rintro rfl; rw [hd] at hb; cases hb; cases ho
  rw [World.putObj_heap_other hbd]; exact hb

theorem Rel.putObj (h : Rel S X yv w m A hp hv) {d : Nat} {o o' : Obj} (hd : w.heap[d]? = some o) (ho : o.isCells = false) : Rel S X yv (w.putObj d o') m A hp hv :=
  h.still0 (Z := fun _ _ => False) (tr0_putObj hd ho fun b i hs => h.lt b i (.inl hs)) (fun _ _ _ _ _ _ _ h => h) (fun _ _ _ _ _ h => h) (fun _ _ h => .inl h)

/-- a run of an activation: it keeps away from X (V: what yields may turn) -/
structure Went (L : Nat → Prop) (S X V : Pr) (w : World) (S' X' V' : Pr) (w' : World) : Prop where
  tr : Tr (fun b i => ¬ X b i ∨ V b i) L S w S' w'
  xs : ∀ b i, X b i → X' b i
  vs : ∀ b i, V' b i → V b i ∨ w.heap.size ≤ b

theorem Went.refl {V : Pr} (hS : ∀ b i, S b i → b < w.heap.size) : Went L S X V w S X V w := ⟨Tr.refl _ _ hS, fun _ _ h => h, fun _ _ h => .inl h⟩

theorem Went.trans {V V' V'' X'' : Pr} (h : Went L S X V w S' X' V' w') (k : Went L S' X' V' w' S'' X'' V'' w'') : Went L S X V w S'' X'' V'' w'' :=
  ⟨h.tr.trans k.tr (fun b i hb hz => hz.elim (fun h1 => .inl fun h2 => h1 (h.xs b i h2)) fun h1 => (h.vs b i h1).elim .inr fun h2 => absurd h2 (by omega)) (fun _ _ h => h),
   fun b i hx => k.xs b i (h.xs b i hx), fun b i hv => (k.vs b i hv).elim (h.vs b i) fun h1 => .inr (Nat.le_trans h.tr.size h1)⟩

theorem Gs.went {V : Pr} (h : Gs S X none w m S' w' m') (hlt : ∀ b i, S' b i → b < w'.heap.size) : Went L S X V w S' X V w' :=
  ⟨(h.tr hlt).mono (fun _ _ h => .inl h) (fun _ h => h.elim), fun _ _ h => h, fun _ _ h => .inl h⟩

/-- fewer cells to keep away from -/
theorem Rel.lessX (h : Rel S X yv w m A hp hv) (hX : ∀ b i, X' b i → X b i) : Rel S X' yv w m A hp hv :=
  ⟨fun b i hbi => h.lt b i (hbi.imp id (hX b i)), h.rv, h.pw, h.nm, fun p hp b hb => ⟨fun i hx => (h.sp p hp b hb).1 i (hX b i hx), (h.sp p hp b hb).2⟩, h.mnd, h.ml, h.hl,
   fun g blk p vs h1 h2 h3 => let ⟨a1, a2, a3, a4, a5, a6, a9, a10⟩ := h.bl g blk p vs h1 h2 h3; ⟨a1, a2, a3, a4, a5, a6, fun hf i => ⟨(a9 hf i).1, fun hx => (a9 hf i).2 (hX _ _ hx)⟩, a10⟩, h.gl⟩

end
end Go.Proofs.YtfeemohdpmdaoaaDoor.Am

/- A logic over abstract states: environments, lists of operations, code. -/
namespace Go.Proofs.YtfeemohdpmdaoaaDoor.Am
set_option linter.unusedVariables false
open Go Go.RowKit

/-- who ranges over us: yl: the loop's record; L: the records that a yield may turn; E: what holds of the world outside (V: the cells that a yield may turn); Y: what a yield comes to -/
structure Env (P : Program) where
  β : Type
  N : Nat
  yl : Option Nat
  L : Nat → Prop
  E : β → Pr → Pr → World → Prop
  Y : β → List AV → (Bool → β → Prop) → Prop
  Llt : ∀ {x}, L x → x < N
  Ymono : ∀ {b args} {Q Q' : Bool → β → Prop}, Y b args Q → (∀ c b', Q c b' → Q' c b') → Y b args Q'
  stable : ∀ {b S V w S' w'}, E b S V w → Tr (fun b i => ¬ V b i) (fun _ => False) S w S' w' → E b S' V w'
  stableO : ∀ {b S V w d o} (o' : Obj), E b S V w → N ≤ d → w.heap[d]? = some o → o.isCells = false → E b S V (w.putObj d o')
  yok : ∀ {b args Qy S V w vs l}, Y b args Qy → E b S V w → yl = some l → args.length = List.length vs → (∀ (i : Nat) (x : AV) (v : Value), args[i]? = some x → vs[i]? = some v → RV S w [] none x v) → (∀ b i, S b i → b < w.heap.size) →
    ∃ f tmps assign body, (Instr.yield l (List.toArray vs)).run P w = .ok (.round l f tmps assign body) w ∧
      RoundIn Fence.wide 0 P l f tmps assign body w (fun e w' => ∃ cont b' S' V', e = .returned (.bool cont) ∧ Qy cont b' ∧ E b' S' V' w' ∧ Tr V L S w S' w' ∧
        (∀ b i, V b i → V' b i) ∧ (∀ b i, V' b i → V b i ∨ (w.heap.size ≤ b ∧ b < w'.heap.size)))

/-- nobody -/
def Env.alone (P : Program) (yl : Option Nat) (N : Nat) (E : Pr → Pr → World → Prop) (h : ∀ {S V w S' w'}, E S V w → Tr (fun b i => ¬ V b i) (fun _ => False) S w S' w' → E S' V w')
    (h' : ∀ {S V w d o} (o' : Obj), E S V w → N ≤ d → w.heap[d]? = some o → o.isCells = false → E S V (w.putObj d o')) : Env P :=
  { β := Unit, N := N, yl := yl, L := fun _ => False, E := fun _ => E, Y := fun _ _ _ => False, Llt := fun h => h.elim, Ymono := fun h _ => h, stable := h, stableO := h', yok := fun h => h.elim }

/-- marks among the deferred calls -/
def Marks (lo : Nat) (w : World) (ds : List Deferred) : Prop := ∃ bs : List Nat, ds = bs.map (fun b => { target := .collected b, args := #[] }) ∧ bs.Nodup ∧ ∀ b ∈ bs, lo ≤ b ∧ w.heap[b]? = some (.deferred (some []))

/-- the record of the round that one is in -/
def RoundOk (r : Option Nat) (w : World) : Prop := ∀ l, r = some l → ∃ rec, w.heap[l]? = some (.loop rec)

section
variable {P : Program} {S S' S'' X X' V V' Z : Pr} {L : Nat → Prop} {r : Option Nat} {lo : Nat} {yv : Option Nat} {w w' w'' : World} {m m' m'' : List MB} {A B : List (AV × Value)} {hp hp' : List Blk} {hv hv' : List (List Value)} {call : CallT} {s s' : RS} {a a' : Act} {o : Oper} {ops : Array Oper} {Ev : Env P}

theorem Marks.tr {lo : Nat} {ds : List Deferred} (h : Marks lo w ds) (ht : Tr Z L S w S' w') : Marks lo w' ds := by
  obtain ⟨bs, h1, h2, h3⟩ := h
  refine ⟨bs, h1, h2, fun b hb => ⟨(h3 b hb).1, ?_⟩⟩
  rcases ht.objs b _ (h3 b hb).2 rfl with h4 | ⟨_, o', h4, _, _, _, h5, _⟩
  · exact h4
  · cases h5

theorem RoundOk.tr (h : RoundOk r w) (ht : Tr Z L S w S' w') : RoundOk r w' := by
  intro l hl
  obtain ⟨rec, h1⟩ := h l hl
  rcases ht.objs l _ h1 rfl with h4 | ⟨_, o', h4, _, _, _, h5, h6⟩
  · exact ⟨rec, h4⟩
  · exact ⟨_, by rw [h4, h6]⟩

/-- an activation's abstract state within its surroundings -/
structure Tie (Ev : Env P) (lo : Nat) (r : Option Nat) (S X V : Pr) (w : World) (m : List MB) (B : List (AV × Value)) (hv : List (List Value)) (s : RS) (b : Ev.β) (a : Act) : Prop where
  rel : RelS S X Ev.yl w m B hv s a
  sub : ∀ b i, V b i → X b i
  env : Ev.E b S V w
  round : RoundOk r w
  marks : Marks lo w a.defers
  base : Ev.N ≤ lo ∧ lo ≤ w.heap.size

theorem RelS.slt {yv : Option Nat} (h : RelS S X yv w m B hv s a) : ∀ b i, S b i → b < w.heap.size := fun b i hs => h.2.1.lt b i (.inl hs)

theorem Tie.step {b : Ev.β} (h : Tie Ev lo r S X V w m B hv s b a) (hg : Gs S X none w m S' w' m') (hr : RelS S' X Ev.yl w' m' B hv' s' a') (hd : a'.defers = a.defers) : Tie Ev lo r S' X V w' m' B hv' s' b a' := by
  have ht := hg.tr hr.slt
  exact ⟨hr, h.sub, Ev.stable h.env (ht.mono (fun b i hx hv => hx (h.sub b i hv)) (fun _ h => h)), h.round.tr ht, hd ▸ h.marks.tr ht, h.base.1, Nat.le_trans h.base.2 ht.size⟩

/-- what goes on behind -/
def Goes (Ev : Env P) (lo : Nat) (r : Option Nat) (S X V : Pr) (w : World) (m : List MB) (B : List (AV × Value)) (s' : RS) (b' : Ev.β) (K : Act → World → Prop) : Prop :=
  ∀ S' X' V' w' m' hv' a', Went Ev.L S X V w S' X' V' w' → MStep m m' → Tie Ev lo r S' X' V' w' m' B hv' s' b' a' → K a' w'

theorem Goes.nx {b : Ev.β} {K : Act → World → Prop} (h : Tie Ev lo r S X V w m B hv s b a) (hK : Goes Ev lo r S X V w m B s' b K) : Nx S X Ev.yl w m B s' a K :=
  fun S' w' m' hv' a' hg hr hd hsz => hK S' X V w' m' hv' a' (hg.went hr.slt) hg.ms (h.step hg hr hd)

theorem Goes.mono {b : Ev.β} {K K' : Act → World → Prop} (hK : Goes Ev lo r S X V w m B s b K) (h : ∀ a w, K a w → K' a w) : Goes Ev lo r S X V w m B s b K' :=
  fun S' X' V' w' m' hv' a' hw hm ht => h _ _ (hK S' X' V' w' m' hv' a' hw hm ht)

/-- the arguments of a yield -/
def yieldArgs (tm : List AV) (o : Oper) : Option (List AV) :=
  match o.op with
  | .call c => match c.callee with
    | .value f => match evalA tm f with
      | .yl => some ((c.args.toList.map (evalA tm)).map AV.view)
      | _ => none
    | _ => none
  | _ => none

/-- the arguments of a call -/
def opCall (tm : List AV) (o : Oper) : Option (Nat × List AV) :=
  match o.op with
  | .call c => match c.callee with
    | .value f => callArgs tm (evalA tm f) c.args
    | _ => none
  | _ => none

def noCall : CallT := ⟨fun _ _ _ => none, fun _ _ _ => none⟩
theorem noCall_ok : CallOk P noCall := ⟨fun _ _ _ _ h => (by cases h), fun _ _ _ _ _ h => (by cases h)⟩

/-- an operation that leads from one state to another, whatever the world -/
def ExtOk (P : Program) (o : Oper) (s s' : RS) : Prop := ∀ (r : Option Nat) (S X : Pr) (yv : Option Nat) (w : World) (m : List MB) (B : List (AV × Value)) (hv : List (List Value)) (a : Act) (K : Act → World → Prop) (Q : Exit → Act → World → Prop),
  RelS S X yv w m B hv s a → Nx S X yv w m B s' a K → o.wpIn (Fn r) 0 P a w K Q

/-- an operation that leads to one of several states, by the world -/
def DemOk (P : Program) (o : Oper) (s : RS) (T : RS → Prop) : Prop := ∀ (r : Option Nat) (S X : Pr) (yv : Option Nat) (w : World) (m : List MB) (B : List (AV × Value)) (hv : List (List Value)) (a : Act) (K : Act → World → Prop) (Q : Exit → Act → World → Prop),
  RelS S X yv w m B hv s a → (∀ s', T s' → Nx S X yv w m B s' a K) → o.wpIn (Fn r) 0 P a w K Q
theorem ExtOk.dem {s s' : RS} (h : ExtOk P o s s') : DemOk P o s (fun t => t = s') := fun r S X yv w m B hv a K Q hr hK => h r S X yv w m B hv a K Q hr (hK s' rfl)

/-- readings and blocks turn, the world does not: blocks turn no more, what leans on them is data -/
def FrzOk (s s1 : RS) : Prop := ∀ (S X : Pr) (yv : Option Nat) (w : World) (m : List MB) (B : List (AV × Value)) (hv : List (List Value)) (a : Act),
  RelS S X yv w m B hv s a → ∃ S', Gs S X none w m S' w m ∧ RelS S' X yv w m B hv s1 a
theorem FrzOk.rfl {s : RS} : FrzOk s s := fun S X yv w m B hv a h => ⟨S, Gs.refl S X none w m, h⟩
theorem FrzOk.trans {s s1 s2 : RS} (h : FrzOk s s1) (k : FrzOk s1 s2) : FrzOk s s2 := by
  intro S X yv w m B hv a hr
  obtain ⟨S', g1, h1⟩ := h S X yv w m B hv a hr
  obtain ⟨S'', g2, h2⟩ := k S' X yv w m B hv a h1
  exact ⟨S'', g1.trans g2, h2⟩

/-- a list of operations: what must be shown -/
def wOps (Ev : Env P) (ops : Array Oper) : List Oper → RS → Ev.β → (RS → Ev.β → Prop) → Prop
  | [], s, b, Q => Q s b
  | o :: l, s, b, Q => ∃ s0, FrzOk s s0 ∧ (
    (∃ s', xStep P noCall ops s0 o = some s' ∧ wOps Ev ops l s' b Q) ∨
    (wantedA ops o s0.tm = some true ∧ ∃ k args, opCall s0.tm o = some (k, args) ∧
      ((closeds args = true ∧ ∃ x, PCall P k args x ∧ wOps Ev ops l { tm := putA s0.tm o.dst x.view, hp := s0.hp, pv := pvPut s0.pv o.dst } b Q) ∨
       (∃ x hp', SCall P k args s0.hp x hp' ∧ wOps Ev ops l { tm := putA s0.tm o.dst x.view, hp := hp', pv := [] } b Q))) ∨
    (wantedA ops o s0.tm = some true ∧ ∃ args, yieldArgs s0.tm o = some args ∧ closeds args = true ∧
      Ev.Y b args fun cont b' => wOps Ev ops l { tm := putA s0.tm o.dst (.d (.s (.bool cont))), hp := s0.hp, pv := [] } b' Q) ∨
    (wantedA ops o s0.tm = some true ∧ ∃ T : RS → Prop, DemOk P o s0 T ∧ ∀ s', T s' → wOps Ev ops l s' b Q))

theorem opCall_xa {k : Nat} {args : List AV} (h : opCall s.tm o = some (k, args)) : xa P s o = none := by
  unfold opCall at h
  split at h <;> try (cases h; done)
  rename_i c ho
  split at h <;> try (cases h; done)
  rename_i f hc
  simp [xa, ho, hc]

theorem opCall_p {k : Nat} {args : List AV} {x : AV} (hw : wantedA ops o s.tm = some true) (h : opCall s.tm o = some (k, args)) (hcl : closeds args = true) (hr : call.p o.dst k args = some x) :
    xStep P call ops s o = some { tm := putA s.tm o.dst x.view, hp := s.hp, pv := pvPut s.pv o.dst } := by
  have hxa := opCall_xa (P := P) h
  unfold opCall at h
  split at h <;> try (cases h; done)
  rename_i c ho
  split at h <;> try (cases h; done)
  rename_i f hc
  simp only [xStep, hw, hxa]
  simp [xh, ho, hc, h, hcl, hr]

theorem opCall_s {k : Nat} {args : List AV} {x : AV} {hp' : List Blk} (hw : wantedA ops o s.tm = some true) (h : opCall s.tm o = some (k, args)) (hp : call.p o.dst k args = none) (hr : call.s k args s.hp = some (x, hp')) :
    xStep P call ops s o = some { tm := putA s.tm o.dst x.view, hp := hp', pv := [] } := by
  have hxa := opCall_xa (P := P) h
  unfold opCall at h
  split at h <;> try (cases h; done)
  rename_i c ho
  split at h <;> try (cases h; done)
  rename_i f hc
  simp only [xStep, hw, hxa]
  simp [xh, ho, hc, h, hp, hr]

open Classical in
noncomputable def oneP (k : Nat) (args : List AV) (x : AV) : CallT := ⟨fun _ k' args' => if k' = k ∧ args' = args then some x else none, fun _ _ _ => none⟩
open Classical in
noncomputable def oneS (k : Nat) (args : List AV) (hp : List Blk) (x : AV) (hp' : List Blk) : CallT := ⟨fun _ _ _ => none, fun k' args' hp0 => if k' = k ∧ args' = args ∧ hp0 = hp then some (x, hp') else none⟩

theorem oneP_ok {k : Nat} {args : List AV} {x : AV} (h : PCall P k args x) : CallOk P (oneP k args x) := by
  refine ⟨fun d f as r hr => ?_, fun _ _ _ _ _ h => by cases h⟩
  simp only [oneP] at hr
  split at hr
  · rename_i hc; obtain ⟨rfl, rfl⟩ := hc; cases hr; exact h
  · cases hr
theorem oneS_ok {k : Nat} {args : List AV} {x : AV} {hp' : List Blk} (h : SCall P k args hp x hp') : CallOk P (oneS k args hp x hp') := by
  refine ⟨fun _ _ _ _ h => by (cases h), fun f as hp0 r hp1 hr => ?_⟩
  simp only [oneS] at hr
  split at hr
  · rename_i hc; obtain ⟨rfl, rfl, rfl⟩ := hc; cases hr; exact h
  · cases hr

/-- a yield -/
theorem yield_sound {b : Ev.β} {K : Act → World → Prop} {Q : Exit → Act → World → Prop} {args : List AV} {Qy : Bool → Ev.β → Prop} (h : Tie Ev lo r S X V w m B hv s b a) (hw : wantedA ops o s.tm = some true)
    (hy : yieldArgs s.tm o = some args) (hcl : closeds args = true) (hY : Ev.Y b args Qy)
    (hK : ∀ cont b', Qy cont b' → Goes Ev lo r S X V w m B { tm := putA s.tm o.dst (.d (.s (.bool cont))), hp := s.hp, pv := [] } b' K) : o.wpIn (Fn r) 0 P a w K Q := by
  unfold yieldArgs at hy
  split at hy <;> try (cases hy; done)
  rename_i c ho
  split at hy <;> try (cases hy; done)
  rename_i f hc
  split at hy <;> try (cases hy; done)
  rename_i hf
  simp only [Option.some.injEq] at hy
  subst hy
  have hev := evalA_sound h.rel
  have hfv := hev f
  rw [hf] at hfv
  generalize hfe : a.eval f = fv at hfv
  cases hfv with
  | yl hyl =>
    rename_i l
    have hl : ((c.args.toList.map (evalA s.tm)).map AV.view).length = (c.args.map a.eval).toList.length := by simp
    have hargs : ∀ (i : Nat) (x : AV) (v : Value), ((c.args.toList.map (evalA s.tm)).map AV.view)[i]? = some x → ((c.args.map a.eval).toList)[i]? = some v → RV S w [] none x v := by
      intro i x v h1 h2
      have hcx := closeds_get hcl i x h1
      simp only [List.getElem?_map, Option.map_eq_some_iff, Array.getElem?_toList, Array.getElem?_map] at h1 h2
      obtain ⟨y, ⟨z, h3, rfl⟩, rfl⟩ := h1
      obtain ⟨z', h4, rfl⟩ := h2
      rw [h3] at h4; cases h4
      exact (RV.view (hev z)).closed hcx
    obtain ⟨f', tmps, assign, body, hrun, hround⟩ := Ev.yok hY h.env hyl hl hargs h.rel.slt
    refine ⟨fun f _ => trivial, ?_⟩
    have hexec : (execOp a.eval o).run P w = .ok (.round l f' tmps assign body) w := by
      unfold execOp
      rw [ho]
      rw [Array.toArray_toList] at hrun
      simp [resolve, hc, hfe, Deferred.ofValue, invoke, hrun]
    rw [Oper.semAt_eq _ _ _ (by simp [ho]), hexec]
    refine ⟨fun hd => (by cases hd), ?_⟩
    refine (RoundIn.mono hround ?_ : RoundIn Fence.wide 0 P l f' tmps assign body w _)
    rintro e w' ⟨cont, b', S', V', rfl, g1, g2, g3, g4, g5⟩
    have hrel : Rel S' (fun b i => X b i ∨ V' b i) Ev.yl w' m (s.tm.zip a.tmps.toList ++ (B ++ cellPairs s.hp hv)) s.hp hv := by
      refine h.rel.2.1.still g3 (fun g blk p h1 h2 hfr i hv' => ?_) (fun p hp b hb i hv' => ?_) (fun b i hx => hx.elim .inl fun h1 => (g5 b i h1).imp (h.sub b i) id)
      · obtain ⟨vs, hvs⟩ : ∃ vs, hv[g]? = some vs := by
          have : g < hv.length := by rw [h.rel.2.1.hl]; exact (List.getElem?_eq_some_iff.1 h1).1
          exact ⟨hv[g], by simp [this]⟩
        exact ((h.rel.2.1.bl g blk p vs h1 h2 hvs).2.2.2.2.2.2.1 hfr i).2 (h.sub _ _ hv')
      · exact (h.rel.2.1.sp p hp b hb).1 i (h.sub _ _ hv')
    refine hK cont b' g1 S' (fun b i => X b i ∨ V' b i) V' w' m hv _ ⟨g3.mono (fun _ _ h => .inr h) (fun _ h => h), fun _ _ h => .inl h, fun b i h => (g5 b i h).imp id fun h => h.1⟩ (MStep.refl m) ⟨⟨by rw [putA_length, put_size]; exact h.rel.1, ?_, by intro p hp; cases hp⟩, fun b i hv' => .inr hv', g2, h.round.tr g3, ?_, h.base.1, Nat.le_trans h.base.2 g3.size⟩
    · exact (hrel.cons (x := .d (.s (.bool cont))) (v := .bool cont) (.d (.s _)) rfl).putTmp h.rel.1 o.dst
    · rw [put_defers]; exact h.marks.tr g3

/-- one operation of a list -/
theorem wOps_cons {l : List Oper} {b : Ev.β} {K : Act → World → Prop} {Q : Exit → Act → World → Prop} {R : RS → Ev.β → Prop} (h : Tie Ev lo r S X V w m B hv s b a) (hx : wOps Ev ops (o :: l) s b R)
    (hK : ∀ s' b', wOps Ev ops l s' b' R → Goes Ev lo r S X V w m B s' b' K) :
    if Region.wanted o (yielded ops a.tmps) then o.wpIn (Fn r) 0 P a w K Q else (∀ f, o.about P w a.eval = some f → (Fn r).fn f) ∧ K (a.put o.dst undef) w := by
  simp only [wOps] at hx
  obtain ⟨s0, hfz, hx⟩ := hx
  obtain ⟨S0, hg0, hr0⟩ := hfz S X Ev.yl w m B hv a h.rel
  have h0 : Tie Ev lo r S0 X V w m B hv s0 b a := h.step hg0 hr0 rfl
  have hK0 : ∀ s' b', wOps Ev ops l s' b' R → Goes Ev lo r S0 X V w m B s' b' K := fun s' b' hw S' X' V' w' m' hv' a' h1 h2 h3 => hK s' b' hw S' X' V' w' m' hv' a' ((hg0.went hr0.slt).trans h1) h2 h3
  rcases hx with ⟨s', h1, h2⟩ | ⟨hw, k, args, h1, h2⟩ | ⟨hw, args, h1, h2, h3⟩ | ⟨hw, T, h1, h2⟩
  · exact xStep_sound noCall_ok h0.rel h1 ((hK0 s' b h2).nx h0)
  · rcases h2 with ⟨hcl, x, hp, h2⟩ | ⟨x, hp', hs, h2⟩
    · exact xStep_sound (oneP_ok hp) h0.rel (opCall_p hw h1 hcl (by simp [oneP])) ((hK0 _ b h2).nx h0)
    · exact xStep_sound (oneS_ok hs) h0.rel (opCall_s hw h1 rfl (by simp [oneS])) ((hK0 _ b h2).nx h0)
  · rw [wantedA_spec h0.rel hw]
    simp only [if_true]
    exact yield_sound h0 hw h1 h2 h3 fun cont b' hq => hK0 _ b' hq
  · rw [wantedA_spec h0.rel hw]
    simp only [if_true]
    exact h1 r S0 X Ev.yl w m B hv a K Q h0.rel fun s' hs => (hK0 s' b (h2 s' hs)).nx h0

theorem wOps_sound {b : Ev.β} {Q : Exit → Act → World → Prop} {R : RS → Ev.β → Prop} : ∀ {l : List Oper} {s : RS} {b : Ev.β} {S X V : Pr} {w : World} {m : List MB} {hv : List (List Value)} {a : Act}, Tie Ev lo r S X V w m B hv s b a → wOps Ev ops l s b R →
    (∀ s' b', R s' b' → Goes Ev lo r S X V w m B s' b' (Q .normal)) → wpListIn (Fn r) 0 P ops Q l a w
  | [], s, b, S, X, V, w, m, hv, a, h, hx, hK => hK s b hx S X V w m hv a (Went.refl h.rel.slt) (MStep.refl m) h
  | o :: l, s, b, S, X, V, w, m, hv, a, h, hx, hK => by
    exact wOps_cons h hx fun s' b' hx' S' X' V' w' m' hv' a' hw hm ht => wOps_sound (b := b) ht hx' fun s'' b'' hr S'' X'' V'' w'' m'' hv'' a'' hw' hm' ht' => hK s'' b'' hr S'' X'' V'' w'' m'' hv'' a'' (hw.trans hw') (hm.trans hm') ht'

end
end Go.Proofs.YtfeemohdpmdaoaaDoor.Am

/- A logic over abstract states: code. -/
namespace Go.Proofs.YtfeemohdpmdaoaaDoor.Am
set_option linter.unusedVariables false
open Go Go.RowKit

/-- the abstract state of an activation between two regions -/
structure St (β : Type) where
  tm : List AV
  hp : List Blk
  b : β

abbrev St.rs {β : Type} (s : St β) : RS := ⟨s.tm, s.hp, []⟩

/-- what is shown behind a piece of code -/
def Beh {P : Program} (Ev : Env P) (lo : Nat) (r : Option Nat) (S X V : Pr) (w : World) (m : List MB) (B : List (AV × Value)) (Q : Exit → St Ev.β → Prop) (e : Exit) (a' : Act) (w' : World) : Prop :=
  ∃ s' S' X' V' m' hv', Q e s' ∧ (Went Ev.L S X V w S' X' V' w' ∧ MStep m m') ∧ Tie Ev lo r S' X' V' w' m' B hv' s'.rs s'.b a'

/-- from the abstract state s, the code c leads to Q -/
def W {P : Program} (Ev : Env P) (c : Code) (s : St Ev.β) (Q : Exit → St Ev.β → Prop) : Prop :=
  ∀ (lo : Nat) (r : Option Nat) (S X V : Pr) (w : World) (m : List MB) (B : List (AV × Value)) (hv : List (List Value)) (a : Act), Tie Ev lo r S X V w m B hv s.rs s.b a →
    c.wpIn (Fn r) 0 P (Beh Ev lo r S X V w m B Q) a w

/-- the exit of a block is caught -/
def catchExit {α : Type} (id : Nat) (Q : Exit → α → Prop) : Exit → α → Prop
  | .exit id', s => if id' = id then Q .normal s else Q (.exit id') s
  | e, s => Q e s

/-- behind the first of two -/
def thenW {α : Type} (K : α → Prop) (Q : Exit → α → Prop) : Exit → α → Prop
  | .normal, s => K s
  | e, s => Q e s

section
variable {P : Program} {S S' S'' X X' V V' Z : Pr} {L : Nat → Prop} {r : Option Nat} {lo : Nat} {yv : Option Nat} {w w' w'' : World} {m m' m'' : List MB} {A B : List (AV × Value)} {hp hp' : List Blk} {hv hv' : List (List Value)} {call : CallT} {a a' : Act} {o : Oper} {ops : Array Oper} {Ev : Env P}
  {s : St Ev.β} {Q Q' : Exit → St Ev.β → Prop} {c c' : Code}

theorem Beh.from {e : Exit} (hm : Went Ev.L S X V w S' X' V' w' ∧ MStep m m') (h : Beh Ev lo r S' X' V' w' m' B Q e a w'') : Beh Ev lo r S X V w m B Q e a w'' := by
  obtain ⟨s', S', X', V', m'', hv', h1, h2, h3⟩ := h
  exact ⟨s', S', X', V', m'', hv', h1, ⟨hm.1.trans h2.1, hm.2.trans h2.2⟩, h3⟩

theorem W.mono (h : W Ev c s Q) (hq : ∀ e s, Q e s → Q' e s) : W Ev c s Q' := fun lo r S X V w m B hv a ht =>
  wpIn_mono (h lo r S X V w m B hv a ht) fun e a' w' ⟨s', S', X', V', m', hv', h1, h2⟩ => ⟨s', S', X', V', m', hv', hq _ _ h1, h2⟩

theorem W.skip (h : Q .normal s) : W Ev .skip s Q := fun lo r S X V w m B hv a ht => wpIn_skip ⟨s, S, X, V, m, hv, h, ⟨Went.refl ht.rel.slt, MStep.refl m⟩, ht⟩
theorem W.label {l : Nat} (h : Q .normal s) : W Ev (.label l) s Q := fun lo r S X V w m B hv a ht => wpIn_label ⟨s, S, X, V, m, hv, h, ⟨Went.refl ht.rel.slt, MStep.refl m⟩, ht⟩
theorem W.exit {id : Nat} (h : Q (.exit id) s) : W Ev (.exit id) s Q := fun lo r S X V w m B hv a ht => wpIn_exit ⟨s, S, X, V, m, hv, h, ⟨Went.refl ht.rel.slt, MStep.refl m⟩, ht⟩
theorem W.goto {l : Nat} (h : Q (.goto l) s) : W Ev (.goto l) s Q := fun lo r S X V w m B hv a ht => wpIn_goto ⟨s, S, X, V, m, hv, h, ⟨Went.refl ht.rel.slt, MStep.refl m⟩, ht⟩
theorem W.ret (h : Q .ret s) : W Ev .ret s Q := fun lo r S X V w m B hv a ht => wpIn_ret ⟨s, S, X, V, m, hv, h, ⟨Went.refl ht.rel.slt, MStep.refl m⟩, ht⟩

theorem W.seq (h : W Ev c s (thenW (fun s' => W Ev c' s' Q) Q)) : W Ev (.seq c c') s Q := by
  intro lo r S X V w m B hv a ht
  refine wpIn_seq (wpIn_mono (h lo r S X V w m B hv a ht) fun e a' w' ⟨s', S', X', V', m', hv', h1, h2, h3⟩ => ?_)
  cases e with
  | normal => exact wpIn_mono (h1 lo r S' X' V' w' m' B hv' a' h3) fun e a'' w'' hb => hb.from h2
  | exit id => exact ⟨s', S', X', V', m', hv', h1, h2, h3⟩
  | goto l => exact ⟨s', S', X', V', m', hv', h1, h2, h3⟩
  | ret => exact ⟨s', S', X', V', m', hv', h1, h2, h3⟩
  | panic ch => exact ⟨s', S', X', V', m', hv', h1, h2, h3⟩
  | outgrown => exact ⟨s', S', X', V', m', hv', h1, h2, h3⟩

theorem W.block {id : Nat} (h : W Ev c s (catchExit id Q)) : W Ev (.block id c) s Q := by
  intro lo r S X V w m B hv a ht
  refine wpIn_block (wpIn_mono (h lo r S X V w m B hv a ht) fun e a' w' ⟨s', S', X', V', m', hv', h1, h2, h3⟩ => ?_)
  cases e with
  | exit id' =>
    simp only [Exit.inBlock, catchExit] at h1 ⊢
    split at h1
    · rename_i hid; rw [if_pos hid]; exact ⟨s', S', X', V', m', hv', h1, h2, h3⟩
    · rename_i hid; rw [if_neg hid]; exact ⟨s', S', X', V', m', hv', h1, h2, h3⟩
  | normal => exact ⟨s', S', X', V', m', hv', h1, h2, h3⟩
  | goto l => exact ⟨s', S', X', V', m', hv', h1, h2, h3⟩
  | ret => exact ⟨s', S', X', V', m', hv', h1, h2, h3⟩
  | panic ch => exact ⟨s', S', X', V', m', hv', h1, h2, h3⟩
  | outgrown => exact ⟨s', S', X', V', m', hv', h1, h2, h3⟩

theorem W.cond {x : Operand} {t : Bool} (hx : evalA s.tm x = .d (.s (.bool t))) (h : W Ev (if t then c else c') s Q) : W Ev (.cond x c c') s Q := by
  intro lo r S X V w m B hv a ht
  have hv' := evalA_sound ht.rel x
  have : a.eval x = .bool t := toVal?_spec (x := evalA s.tm x) (by rw [hx]; rfl) hv'
  exact wpIn_cond this (h lo r S X V w m B hv a ht)

/-- a loop: an invariant, and a number that falls -/
theorem W.loop (I : St Ev.β → Prop) (μ : St Ev.β → Nat) (h0 : I s) (round : ∀ s, I s → W Ev c s (thenW (fun s' => I s' ∧ μ s' < μ s) Q)) : W Ev (.loop c) s Q := by
  intro lo r S X V w m B hv a ht
  have key : ∀ (n : Nat) (s : St Ev.β) (S0 X0 V0 : Pr) (w0 : World) (m0 : List MB) (hv : List (List Value)) (a : Act), μ s ≤ n → I s → (Went Ev.L S X V w S0 X0 V0 w0 ∧ MStep m m0) → Tie Ev lo r S0 X0 V0 w0 m0 B hv s.rs s.b a →
      Code.roundsIn (Fn r) 0 P c (Beh Ev lo r S X V w m B Q) (n + 1) a w0 := by
    intro n
    induction n with
    | zero =>
      intro s S0 X0 V0 w0 m0 hv a hn hI hm ht
      rw [roundsIn_succ]
      refine wpIn_mono (round s hI lo r S0 X0 V0 w0 m0 B hv a ht) fun e a' w' ⟨s', S', X', V', m', hv', h1, h2, h3⟩ => ?_
      cases e with
      | normal => exact absurd h1.2 (by omega)
      | exit id => exact Beh.from hm ⟨s', S', X', V', m', hv', h1, h2, h3⟩
      | goto l => exact Beh.from hm ⟨s', S', X', V', m', hv', h1, h2, h3⟩
      | ret => exact Beh.from hm ⟨s', S', X', V', m', hv', h1, h2, h3⟩
      | panic ch => exact Beh.from hm ⟨s', S', X', V', m', hv', h1, h2, h3⟩
      | outgrown => exact Beh.from hm ⟨s', S', X', V', m', hv', h1, h2, h3⟩
    | succ n ih =>
      intro s S0 X0 V0 w0 m0 hv a hn hI hm ht
      rw [roundsIn_succ]
      refine wpIn_mono (round s hI lo r S0 X0 V0 w0 m0 B hv a ht) fun e a' w' ⟨s', S', X', V', m', hv', h1, h2, h3⟩ => ?_
      cases e with
      | normal => exact ih s' S' X' V' w' m' hv' a' (by have := h1.2; omega) h1.1 ⟨hm.1.trans h2.1, hm.2.trans h2.2⟩ h3
      | exit id => exact Beh.from hm ⟨s', S', X', V', m', hv', h1, h2, h3⟩
      | goto l => exact Beh.from hm ⟨s', S', X', V', m', hv', h1, h2, h3⟩
      | ret => exact Beh.from hm ⟨s', S', X', V', m', hv', h1, h2, h3⟩
      | panic ch => exact Beh.from hm ⟨s', S', X', V', m', hv', h1, h2, h3⟩
      | outgrown => exact Beh.from hm ⟨s', S', X', V', m', hv', h1, h2, h3⟩
  exact wpIn_loop_rounds (μ s + 1) (key (μ s) s S X V w m hv a (Nat.le_refl _) h0 ⟨Went.refl ht.rel.slt, MStep.refl m⟩ ht)

/-- a region, in the order of the text -/
theorem W.region {id : Nat} (h : wOps Ev ops ops.toList s.rs s.b (fun s' b' => Q .normal ⟨s'.tm, s'.hp, b'⟩)) : W Ev (.region id ops false) s Q := by
  intro lo r S X V w m B hv a ht
  refine wpIn_region_list (wOps_sound (b := s.b) ht h fun s' b' hq S' X' V' w' m' hv' a' hw hm ht' => ?_)
  exact ⟨⟨s'.tm, s'.hp, b'⟩, S', X', V', m', hv', hq, ⟨hw, hm⟩, ⟨⟨ht'.rel.1, ht'.rel.2.1, by intro p hp; cases hp⟩, ht'.sub, ht'.env, ht'.round, ht'.marks, ht'.base⟩⟩

/-- behind the pure ones: one after the other -/
theorem tail_sound {QQ : Exit → Act → World → Prop} {R : RS → Ev.β → Prop} {k : Nat} (he : ∀ (i : Nat) (o : Oper), ops[i]? = some o → ∀ j ∈ edgesOf o, j < i) (ha : ∀ (i : Nat) (o : Oper), ops[i]? = some o → k ≤ i → ∀ j, j < i → j ∈ ancOf ops ops.size i) : ∀ (n : Nat) {i : Nat} {s : RS} {b : Ev.β} {S X V : Pr} {w : World} {m : List MB} {hv : List (List Value)} {a : Act} {listed : Array Bool},
    n = ops.size - i → k ≤ i → listed.size = ops.size → (∀ j, j < ops.size → listed.getD j false = decide (j < i)) → Tie Ev lo r S X V w m B hv s b a → wOps Ev ops (ops.toList.drop i) s b R →
    (∀ s' b', R s' b' → Goes Ev lo r S X V w m B s' b' (QQ .normal)) → wpAnyIn (Fn r) 0 P .any ops QQ n listed a w
  | 0, i, s, b, S, X, V, w, m, hv, a, listed, hn, hk, hls, hl, h, hx, hK => by
    have hi : ops.size ≤ i := by omega
    have hdrop : ops.toList.drop i = [] := List.drop_eq_nil_of_le (by simpa using hi)
    rw [hdrop] at hx
    simp only [wOps] at hx
    have hready : Region.ready .any ops listed = [] := by
      rw [List.eq_nil_iff_forall_not_mem]
      intro j hj
      obtain ⟨o, ho, h0, _⟩ := ready_edges hj
      have hjl : j < ops.size := (Array.getElem?_eq_some_iff.1 ho).1
      have := hl j hjl
      simp [hls, hjl] at h0 this
      rw [h0] at this
      simp at this; omega
    exact ⟨hready, hK s b hx S X V w m hv a (Went.refl h.rel.slt) (MStep.refl m) h⟩
  | n + 1, i, s, b, S, X, V, w, m, hv, a, listed, hn, hk, hls, hl, h, hx, hK => by
    have hi : i < ops.size := by omega
    have hoi : ops[i]? = some ops[i] := by simp [hi]
    have hdrop : ops.toList.drop i = ops[i] :: ops.toList.drop (i + 1) := by
      rw [List.drop_eq_getElem_cons (by simpa using hi)]; simp
    rw [hdrop] at hx
    have hdown : ∀ (j : Nat) (o' : Oper), ops[j]? = some o' → listed.getD j false = true → ∀ e ∈ edgesOf o', listed.getD e false = true := by
      intro j o' ho' hj e hee
      have hjl : j < ops.size := (Array.getElem?_eq_some_iff.1 ho').1
      have h1 := he _ _ ho' e hee
      rw [hl j hjl] at hj
      simp at hj
      rw [hl e (by omega)]
      simp; omega
    have hmem : i ∈ Region.ready .any ops listed := by
      refine ready_of_edges hoi ?_ (fun e hee => ?_)
      · have := hl i hi
        simp [hls, hi] at this ⊢; exact this
      · have h1 := he _ _ hoi e hee
        rw [hl e (by omega)]; simp; omega
    refine ⟨fun h0 => (by rw [h0] at hmem; cases hmem), fun j hj => ?_⟩
    obtain ⟨oj, hoj, hj0, hje⟩ := ready_edges hj
    have hjl : j < ops.size := (Array.getElem?_eq_some_iff.1 hoj).1
    have hji : j = i := by
      rcases Nat.lt_trichotomy j i with h1 | h1 | h1
      · have := hl j hjl
        simp [hls, hjl] at hj0 this
        rw [hj0] at this; simp at this; omega
      · exact h1
      · have := anc_listed hdown ops.size j oj hoj hje i (ha _ _ hoj (by omega) i h1)
        rw [hl i hi] at this; simp at this
    subst hji
    unfold wpOpIn
    simp only [hoi]
    refine wOps_cons h hx fun s' b' hx' S' X' V' w' m' hv' a' hw hm ht => ?_
    refine tail_sound he ha n (i := j + 1) (by omega) (by omega) (by simp [hls]) (fun j' hj' => ?_) ht hx'
      fun s'' b'' hr S'' X'' V'' w'' m'' hv'' a'' hw' hm' ht' => hK s'' b'' hr S'' X'' V'' w'' m'' hv'' a'' (hw.trans hw') (hm.trans hm') ht'
    have := hl j' hj'
    simp [hls, hj'] at this ⊢
    rw [Array.getElem_setIfInBounds (by rw [hls]; exact hj')]
    split
    · subst_vars; simp
    · rw [this]; simp; omega

theorem went_drew {L : Nat → Prop} {V : Pr} (hS : ∀ b i, S b i → b < w.heap.size) : Went L S X V w S X V { w with drawn := w.drawn + 1 } :=
  ⟨⟨rfl, rfl, rfl, Nat.le_refl _, fun _ c _ _ h => ⟨c, h, rfl⟩, fun _ _ h _ => .inl h, fun _ _ _ _ h => h, fun _ _ h => h, fun _ _ h => .inl h, hS⟩, fun _ _ h => h, fun _ _ h => .inl h⟩

theorem Tie.drew {s : RS} {b : Ev.β} (h : Tie Ev lo r S X V w m B hv s b a) : Tie Ev lo r S X V { w with drawn := w.drawn + 1 } m B hv s b a := by
  have hb : Below w.heap.size w { w with drawn := w.drawn + 1 } := ⟨rfl, rfl, rfl, Nat.le_refl _, fun _ _ => rfl⟩
  exact h.step (Gs.below h.rel.2.1 hb ⟨fun _ _ h => h, fun _ _ h => .inl h⟩) ⟨h.rel.1, h.rel.2.1.below hb (fun _ _ h => h) (fun _ _ h => .inl h), h.rel.2.2⟩ rfl

/-- a region that draws its order: the first k operations are pure -/
theorem W.draw {id : Nat} (k : Nat) {tmK : List AV} (call : CallT) (hm : P.follows .mixedOrders = true) (hcall : CallOk P call) (hd : drawOk ops k = true) (hk : k ≤ ops.size) (hx : xPre P call ops s.hp (ops.toList.take k) s.tm = some tmK)
    (h : wOps Ev ops (ops.toList.drop k) ⟨tmK, s.hp, pvAll P s.hp tmK (ops.toList.take k)⟩ s.b (fun s' b' => Q .normal ⟨s'.tm, s'.hp, b'⟩)) : W Ev (.region id ops true) s Q := by
  intro lo r S X V w m B hv a ht
  refine wpIn_region_any hm ?_
  have ht' := ht.drew
  have hget : ∀ j, (Array.replicate ops.size false).getD j false = false := by intro j; simp [Array.getElem?_replicate]; split <;> rfl
  refine pre_sound hcall hd hk hx ops.size (tm := s.tm) (pv := []) ?_ (by simp) (fun j _ => hget j) (fun j o' _ hj => by rw [hget] at hj; cases hj) rfl
    (fun j o d _ _ _ hj => by rw [hget] at hj; cases hj) (fun _ _ => rfl) (fun j o p _ _ hj => by rw [hget] at hj; cases hj) ht'.rel ?_
  · have : unl ops.size (Array.replicate ops.size false) = List.range ops.size := by
      unfold unl
      rw [List.filter_eq_self]
      intro j _; rw [hget]; rfl
    rw [this]; simp
  · intro S' w' m' hv' a' hg hr hd' hsz listed hls hl
    refine tail_sound (s := ⟨tmK, s.hp, pvAll P s.hp tmK (ops.toList.take k)⟩) (b := s.b) (fun i o ho => (drawOk_at hd ho).1) (fun i o ho => (drawOk_at hd ho).2.2) _ rfl (Nat.le_refl _) hls hl (ht'.step hg hr hd') h fun s' b' hq S'' X'' V'' w'' m'' hv'' a'' hw hm' ht'' => ?_
    exact ⟨⟨s'.tm, s'.hp, b'⟩, S'', X'', V'', m'', hv'', hq, ⟨((went_drew ht.rel.slt).trans (hg.went hr.slt)).trans hw, hg.ms.trans hm'⟩, ⟨⟨ht''.rel.1, ht''.rel.2.1, by intro p hp; cases hp⟩, ht''.sub, ht''.env, ht''.round, ht''.marks, ht''.base⟩⟩

end
end Go.Proofs.YtfeemohdpmdaoaaDoor.Am

/- Regions that draw their order, in which stores may come ahead of pure operations. -/
namespace Go.Proofs.YtfeemohdpmdaoaaDoor.Am
set_option linter.unusedVariables false
open Go Go.RowKit

/-- the first k operations are pure; the next n are plain stores and new blocks, one behind the other; the others come in the order of the text, behind all -/
def drawLateOk (ops : Array Oper) (k n : Nat) : Bool :=
  (List.range ops.size).all (fun i => match ops[i]? with
    | some o => (edgesOf o).all (· < i) &&
        (if i < k + n then (o.looksAt ops).all (fun t => (List.range (k + n)).all fun j => match ops[j]? with
            | some o' => o'.dst != some t || (edgesOf o).contains j
            | none => true) &&
          (List.range i).all (fun j => match ops[j]? with
            | some o' => o.dst == none || o'.dst != o.dst
            | none => true) &&
          (if i < k then pureKind o else (List.range i).all fun j => j < k || (ancOf ops ops.size i).contains j)
        else (List.range i).all fun j => (ancOf ops ops.size i).contains j)
    | none => true)

/-- a plain store, or a new block: its result, the blocks -/
def xLate (P : Program) (hp : List Blk) (tm : List AV) (o : Oper) : Option (AV × List Blk) :=
  match o.op, o.guard, o.dst with
  | .store t a x, none, none => if (evalA tm x).isOwn then none else match xCells (evalA tm x) with
    | some xs => (xStore P hp t (evalA tm a) xs).map fun h => (.bad, h)
    | none => none
  | .alloc t, none, some _ => match xAlloc P t with
    | some xs => some (.ptr hp.length 0, hp ++ [⟨xs, false, false, 0⟩])
    | none => none
  | _, _, _ => none

/-- the state ahead of and behind each of them -/
def xLates (P : Program) : List Oper → List AV → List Blk → Option (List (List AV × List Blk))
  | [], tm, hp => some [(tm, hp)]
  | o :: l, tm, hp => match xLate P hp tm o with
    | some (x, hp') => (xLates P l (putA tm o.dst x) hp').map ((tm, hp) :: ·)
    | none => none

section
variable {P : Program} {S S' S'' X X' V V' Z : Pr} {L : Nat → Prop} {r : Option Nat} {lo : Nat} {yv : Option Nat} {w w' w'' : World} {m m' m'' : List MB} {A B : List (AV × Value)} {hp hp' : List Blk} {hv hv' : List (List Value)} {call : CallT} {a a' : Act} {o : Oper} {ops : Array Oper} {Ev : Env P}
  {s : St Ev.β} {Q Q' : Exit → St Ev.β → Prop} {c c' : Code}

theorem late_at {k n i : Nat} {o : Oper} (h : drawLateOk ops k n = true) (hi : ops[i]? = some o) :
    (∀ j ∈ edgesOf o, j < i) ∧
    (i < k + n → ∀ t ∈ o.looksAt ops, ∀ (j : Nat) (o' : Oper), j < k + n → ops[j]? = some o' → o'.dst = some t → j ∈ edgesOf o) ∧
    (i < k → pureKind o = true) ∧
    (i < k + n → ∀ (j : Nat) (o' : Oper), j < i → ops[j]? = some o' → o.dst ≠ none → o'.dst ≠ o.dst) ∧
    (k ≤ i → ∀ j, k ≤ j → j < i → j ∈ ancOf ops ops.size i) ∧
    (k + n ≤ i → ∀ j, j < i → j ∈ ancOf ops ops.size i) := by
  have hil : i < ops.size := (Array.getElem?_eq_some_iff.1 hi).1
  have h1 := List.all_eq_true.1 h i (List.mem_range.2 hil)
  simp only [hi, Bool.and_eq_true, List.all_eq_true, decide_eq_true_eq] at h1
  obtain ⟨h2, h3⟩ := h1
  refine ⟨h2, fun hk => ?_, fun hk => ?_, fun hk => ?_, fun hk j hkj hj => ?_, fun hk j hj => ?_⟩
  · rw [if_pos hk] at h3
    simp only [Bool.and_eq_true, List.all_eq_true, List.mem_range] at h3
    intro t ht j o' hj ho' hd
    have := h3.1.1 t ht j hj
    simp only [ho', hd, bne_self_eq_false, Bool.false_or, List.contains_iff_mem] at this
    exact this
  · rw [if_pos (by omega), if_pos hk] at h3
    simp only [Bool.and_eq_true] at h3
    exact h3.2
  · rw [if_pos hk] at h3
    simp only [Bool.and_eq_true, List.all_eq_true, List.mem_range] at h3
    intro j o' hj ho' hd
    have := h3.1.2 j hj
    simp only [ho', Bool.or_eq_true, beq_iff_eq, bne_iff_ne] at this
    exact this.resolve_left hd
  · by_cases hn : i < k + n
    · rw [if_pos hn, if_neg (by omega)] at h3
      simp only [Bool.and_eq_true, List.all_eq_true, List.mem_range, Bool.or_eq_true, decide_eq_true_eq, List.contains_iff_mem] at h3
      exact (h3.2 j hj).resolve_left (by omega)
    · rw [if_neg hn] at h3
      simp only [List.all_eq_true, List.mem_range, List.contains_iff_mem] at h3
      exact h3 j hj
  · rw [if_neg (by omega)] at h3
    simp only [List.all_eq_true, List.mem_range, List.contains_iff_mem] at h3
    exact h3 j hj

theorem xLate_step {tm : List AV} {x : AV} (h : xLate P hp tm o = some (x, hp')) : ∃ pv, xStep P call ops ⟨tm, hp, []⟩ o = some ⟨putA tm o.dst x, hp', pv⟩ := by
  unfold xLate at h
  split at h <;> try (cases h; done)
  · rename_i t a x ho hg hd
    split at h <;> try (cases h; done)
    rename_i hown
    split at h <;> try (cases h; done)
    rename_i xs hxs
    simp only [Option.map_eq_some_iff, Prod.mk.injEq] at h
    obtain ⟨h', h, rfl, rfl⟩ := h
    have hw : wantedA ops o tm = some true := by simp [wantedA, hg]
    have hxa : xa P ⟨tm, hp, []⟩ o = none := by simp [xa, ho]
    refine ⟨[], ?_⟩
    simp only [xStep, hw, hxa]
    simp [xh, ho, storeSrc, hown, hxs, h, hd, putA]
  · rename_i t d ho hg hd
    split at h <;> try (cases h; done)
    rename_i xs hxs
    simp only [Option.some.injEq, Prod.mk.injEq] at h
    obtain ⟨rfl, rfl⟩ := h
    have hw : wantedA ops o tm = some true := by simp [wantedA, hg]
    have hxa : xa P ⟨tm, hp, []⟩ o = none := by simp [xa, ho]
    refine ⟨pvPut [] o.dst, ?_⟩
    simp only [xStep, hw, hxa]
    simp [xh, ho, hxs]

theorem xLate_congr {tm tm' : List AV} (h : ∀ t ∈ o.looksAt ops, tm.getD t .bad = tm'.getD t .bad) : xLate P hp tm o = xLate P hp tm' o := by
  have he := evalA_congr (ops := ops) h
  unfold xLate
  split
  · rename_i t a x ho hg hd
    rw [he a (by simp [ho, Op.operands]), he x (by simp [ho, Op.operands])]
  · rfl
  · rfl

theorem xLates_get : ∀ {l : List Oper} {tm : List AV} {hp : List Blk} {sts : List (List AV × List Blk)}, xLates P l tm hp = some sts →
    sts.length = l.length + 1 ∧ sts[0]? = some (tm, hp) ∧ ∀ (i : Nat) (o : Oper), l[i]? = some o → ∃ t h x h', sts[i]? = some (t, h) ∧ sts[i + 1]? = some (putA t o.dst x, h') ∧ xLate P h t o = some (x, h')
  | [], tm, hp, sts, h => by simp only [xLates, Option.some.injEq] at h; subst h; simp
  | o :: l, tm, hp, sts, h => by
    simp only [xLates] at h
    split at h <;> try (cases h; done)
    rename_i x hp' hl
    simp only [Option.map_eq_some_iff] at h
    obtain ⟨sts', h1, rfl⟩ := h
    obtain ⟨h2, h3, h4⟩ := xLates_get h1
    refine ⟨by simp [h2], rfl, fun i o' ho' => ?_⟩
    cases i with
    | zero => simp at ho'; subst ho'; exact ⟨tm, hp, x, hp', rfl, by simpa using h3, hl⟩
    | succ i => simp at ho'; simpa using h4 i o' ho'
theorem xLate_putA_none {tm : List AV} {x : AV} : putA tm none x = tm := rfl

/-- a state whose temporaries are partly laid -/
structure LateInv (ops : Array Oper) (k n : Nat) (sts : List (List AV × List Blk)) (tm0 tmF tm : List AV) (hp : List Blk) (listed : Array Bool) (i : Nat) : Prop where
  sz : listed.size = ops.size
  hi : i ≤ n
  far : ∀ j, k + n ≤ j → listed.getD j false = false
  mid : ∀ j, k ≤ j → j < k + n → listed.getD j false = decide (j < k + i)
  down : ∀ (j : Nat) (o' : Oper), ops[j]? = some o' → listed.getD j false = true → ∀ e ∈ edgesOf o', listed.getD e false = true
  len : tm.length = tm0.length
  got : ∀ (j : Nat) (o : Oper) (d : Nat), j < k + n → ops[j]? = some o → o.dst = some d → listed.getD j false = true → tm[d]? = tmF[d]?
  old : ∀ t, (∀ (j : Nat) (o : Oper), j < k + n → ops[j]? = some o → listed.getD j false = true → o.dst ≠ some t) → tm[t]? = tm0[t]?
  heap : ∃ tmi, sts[i]? = some (tmi, hp)

theorem late_xPre_spec {k n : Nat} (hd : drawLateOk ops k n = true) (hk : k ≤ ops.size) : ∀ (c : Nat) {i : Nat} {tm tmK : List AV}, c = k - i → i ≤ k → xPre P call ops hp ((ops.toList.take k).drop i) tm = some tmK →
    (∀ (j : Nat) (o : Oper), i ≤ j → j < k → ops[j]? = some o → ∃ x, xp P call ops hp tmK o = some x ∧ ∀ d, o.dst = some d → d < tm.length → tmK[d]? = some x) ∧
    (∀ t, (∀ (j : Nat) (o : Oper), i ≤ j → j < k → ops[j]? = some o → o.dst ≠ some t) → tmK[t]? = tm[t]?) ∧ tmK.length = tm.length
  | 0, i, tm, tmK, hn, hi, hx => by
    have hdrop : (ops.toList.take k).drop i = [] := List.drop_eq_nil_of_le (by simp; omega)
    rw [hdrop] at hx
    simp only [xPre, Option.some.injEq] at hx
    subst hx
    exact ⟨fun j o h1 h2 => by omega, fun t _ => rfl, rfl⟩
  | c + 1, i, tm, tmK, hn, hi, hx => by
    have hil : i < ops.size := by omega
    have hoi : ops[i]? = some ops[i] := by simp [hil]
    have hdrop : (ops.toList.take k).drop i = ops[i] :: (ops.toList.take k).drop (i + 1) := by
      rw [List.drop_eq_getElem_cons (by simp; omega)]; simp
    rw [hdrop] at hx
    simp only [xPre] at hx
    split at hx <;> try (cases hx; done)
    rename_i x hxp
    obtain ⟨h1, h2, h3⟩ := late_xPre_spec hd hk c (i := i + 1) (by omega) (by omega) hx
    obtain ⟨hedge, hlook, hpure, _, _, _⟩ := late_at hd hoi
    have hlook := hlook (by omega)
    have hlen : (putA tm ops[i].dst x).length = tm.length := putA_length _ _ _
    have hsame : ∀ t ∈ ops[i].looksAt ops, tmK[t]? = tm[t]? := by
      intro t ht
      have hno : ∀ (j : Nat) (o : Oper), i ≤ j → j < k → ops[j]? = some o → o.dst ≠ some t := by
        intro j o hij hjk ho hdst
        have := hedge j (hlook t ht j o (by omega) ho hdst)
        omega
      rw [h2 t (fun j o hij hjk ho => hno j o (by omega) hjk ho), putA_get (hno i ops[i] (Nat.le_refl _) (by omega) hoi)]
    refine ⟨fun j o hij hjk ho => ?_, fun t ht => ?_, h3.trans hlen⟩
    · rcases Nat.eq_or_lt_of_le hij with rfl | hlt
      · rw [hoi] at ho; cases ho
        refine ⟨x, by rw [xp_congr (tm' := tm) (fun t ht => getD_of (hsame t ht))]; exact hxp, fun d hdst hdl => ?_⟩
        rw [h2 d (fun j o hij hjk ho hdd => ?_)]
        · rw [hdst]; simp [putA, hdl]
        · have := (late_at hd ho).2.2.2.1 (by omega) i ops[i] (by omega) hoi (by rw [hdd]; simp)
          exact this (by rw [hdst, hdd])
      · obtain ⟨x', h4, h5⟩ := h1 j o (by omega) hjk ho
        exact ⟨x', h4, fun d hdst hdl => h5 d hdst (by rw [hlen]; exact hdl)⟩
    · rw [h2 t (fun j o hij hjk ho => ht j o (by omega) hjk ho), putA_get (ht i ops[i] (Nat.le_refl _) (by omega) hoi)]

/-- what the late ones lay stays, and they lay nothing else -/
theorem lates_tm {k n : Nat} (hd : drawLateOk ops k n = true) (hk : k + n ≤ ops.size) {tmK : List AV} {hp0 : List Blk} {sts : List (List AV × List Blk)} (hls : xLates P ((ops.toList.drop k).take n) tmK hp0 = some sts) {tmF : List AV} {hpn : List Blk} (hlast : sts[n]? = some (tmF, hpn)) :
    (∀ (i : Nat) (t : List AV) (h : List Blk), sts[i]? = some (t, h) → i ≤ n → t.length = tmK.length ∧ ∀ d, (∀ (j : Nat) (o : Oper), j < i → ops[k + j]? = some o → o.dst ≠ some d) → t[d]? = tmK[d]?) ∧
    (∀ (i : Nat) (t : List AV) (h : List Blk), sts[i]? = some (t, h) → i ≤ n → ∀ d, (∀ (j : Nat) (o : Oper), i ≤ j → j < n → ops[k + j]? = some o → o.dst ≠ some d) → t[d]? = tmF[d]?) := by
  obtain ⟨sl1, sl2, sl3⟩ := xLates_get hls
  have hll : ((ops.toList.drop k).take n).length = n := by simp; omega
  rw [hll] at sl1
  have hop : ∀ i, i < n → ((ops.toList.drop k).take n)[i]? = ops[k + i]? := by
    intro i hi
    rw [List.getElem?_take, if_pos hi, List.getElem?_drop]; simp
  constructor
  · intro i
    induction i with
    | zero => intro t h hs _; rw [sl2] at hs; cases hs; exact ⟨rfl, fun _ _ => rfl⟩
    | succ i ih =>
      intro t h hs hi
      have ho : ops[k + i]? = some ops[k + i] := by simp <;> omega
      obtain ⟨t1, h1, x, h2, e1, e2, e3⟩ := sl3 i ops[k + i] ((hop i (by omega)).trans ho)
      rw [e2] at hs; cases hs
      obtain ⟨f1, f2⟩ := ih t1 h1 e1 (by omega)
      refine ⟨by rw [putA_length, f1], fun d hdd => ?_⟩
      rw [putA_get (hdd i _ (by omega) ho)]
      exact f2 d fun j o hj ho' => hdd j o (by omega) ho'
  · intro i t h hs hi
    have key : ∀ (c i : Nat) (t : List AV) (h : List Blk), c = n - i → i ≤ n → sts[i]? = some (t, h) → ∀ d, (∀ (j : Nat) (o : Oper), i ≤ j → j < n → ops[k + j]? = some o → o.dst ≠ some d) → t[d]? = tmF[d]? := by
      intro c
      induction c with
      | zero =>
        intro i t h hc hi hs d _
        have : i = n := by omega
        subst this
        rw [hlast] at hs; cases hs; rfl
      | succ c ih =>
        intro i t h hc hi hs d hdd
        have ho : ops[k + i]? = some ops[k + i] := by simp <;> omega
        obtain ⟨t1, h1, x, h2, e1, e2, e3⟩ := sl3 i ops[k + i] ((hop i (by omega)).trans ho)
        rw [hs] at e1; cases e1
        have := ih (i + 1) _ h2 (by omega) (by omega) e2 d fun j o hj hj' ho' => hdd j o (by omega) hj' ho'
        rw [← this, putA_get (hdd i _ (Nat.le_refl _) (by omega) ho)]
    exact key _ i t h rfl hi hs

set_option maxHeartbeats 1000000 in
theorem late_sound {QQ : Exit → Act → World → Prop} {k n : Nat} (hcall : CallOk P call) (hd : drawLateOk ops k n = true) (hk : k + n ≤ ops.size) {tm0 tmK : List AV} {hp0 : List Blk} {sts : List (List AV × List Blk)}
    (hls : xLates P ((ops.toList.drop k).take n) tmK hp0 = some sts) (hx0 : xPre P call ops hp0 (ops.toList.take k) tm0 = some tmK)
    (hfr : ∀ (i : Nat) (t : List AV) (h : List Blk), sts[i]? = some (t, h) → ∀ (j : Nat) (o : Oper), j < k → ops[j]? = some o → (∀ (i' : Nat) (o' : Oper), i' < i → ops[k + i']? = some o' → j ∉ edgesOf o') → xp P call ops h tmK o = xp P call ops hp0 tmK o)
    {tmF : List AV} {hpn : List Blk} (hlast : sts[n]? = some (tmF, hpn)) :
    ∀ (u : Nat) {S : Pr} {w : World} {m : List MB} {hv : List (List Value)} {a : Act} {listed : Array Bool} {tm : List AV} {hp : List Blk} {i : Nat}, u = (unl ops.size listed).length → LateInv ops k n sts tm0 tmF tm hp listed i →
    RelS S X yv w m B hv ⟨tm, hp, []⟩ a →
    Nx S X yv w m B ⟨tmF, hpn, []⟩ a (fun a w => ∀ listed : Array Bool, listed.size = ops.size → (∀ j, j < ops.size → listed.getD j false = decide (j < k + n)) → wpAnyIn (Fn r) 0 P .any ops QQ (ops.size - (k + n)) listed a w) →
    wpAnyIn (Fn r) 0 P .any ops QQ u listed a w := by
  obtain ⟨sl1, sl2, sl3⟩ := xLates_get hls
  have hll : ((ops.toList.drop k).take n).length = n := by simp; omega
  rw [hll] at sl1
  obtain ⟨L1, L2⟩ := lates_tm hd hk hls hlast
  have spec0 := late_xPre_spec (call := call) (P := P) (hp := hp0) hd (by omega) k (i := 0) (tm := tm0) (tmK := tmK) rfl (Nat.zero_le _) (by simpa using hx0)
  have sp2 := spec0.2.1
  have sp3 := spec0.2.2
  obtain ⟨lenF, L1n⟩ := L1 n tmF hpn hlast (Nat.le_refl _)
  -- temporaries that none lays
  have hold : ∀ t, (∀ (j : Nat) (o : Oper), j < k + n → ops[j]? = some o → o.dst ≠ some t) → tmF[t]? = tm0[t]? := by
    intro t ht
    rw [L1n t fun j o hj ho => ht (k + j) o (by omega) ho, sp2 t fun j o _ hj ho => ht j o (by omega) ho]
  have hfin : ∀ {listed : Array Bool} {tm : List AV} {hp : List Blk} {i : Nat}, LateInv ops k n sts tm0 tmF tm hp listed i → (∀ j, j < k + n → listed.getD j false = true) → tm = tmF ∧ hp = hpn ∧ i = n := by
    intro listed tm hp i hI hall
    have hin : i = n := by
      rcases Nat.lt_or_ge i n with h' | h'
      · have := hI.mid (k + i) (by omega) (by omega)
        rw [hall _ (by omega)] at this; simp at this
      · have := hI.hi; omega
    subst hin
    refine ⟨?_, ?_, rfl⟩
    · apply List.ext_getElem?
      intro t
      by_cases hc : ∃ (j : Nat) (o : Oper), j < k + i ∧ ops[j]? = some o ∧ o.dst = some t
      · obtain ⟨j, o, g1, g2, g3⟩ := hc
        exact hI.got j o t g1 g2 g3 (hall j g1)
      · rw [hI.old t (fun j o g1 g2 _ g3 => hc ⟨j, o, g1, g2, g3⟩), hold t (fun j o g1 g2 g3 => hc ⟨j, o, g1, g2, g3⟩)]
    · obtain ⟨t, ht⟩ := hI.heap
      rw [hlast] at ht; cases ht; rfl
  intro u
  induction u with
  | zero =>
    intro S w m hv a listed tm hp i hn hI hr hK
    have hall : ∀ j, j < ops.size → listed.getD j false = true := by
      intro j hj
      cases hh : listed.getD j false with
      | true => rfl
      | false =>
        have : j ∈ unl ops.size listed := by simp only [unl, List.mem_filter, List.mem_range, hh]; exact ⟨hj, rfl⟩
        rw [List.length_eq_zero_iff.1 hn.symm] at this; cases this
    have hkk : k + n = ops.size := by
      rcases Nat.lt_or_ge (k + n) ops.size with h' | h'
      · have := hall _ h'; rw [hI.far _ (Nat.le_refl _)] at this; cases this
      · omega
    obtain ⟨rfl, rfl, rfl⟩ := hfin hI fun j hj => hall j (by omega)
    have := hK S w m hv a (Gs.refl _ _ _ _ _) hr rfl rfl listed hI.sz (fun j hj => by rw [hall j hj]; simp; omega)
    rw [hkk, Nat.sub_self] at this
    exact this
  | succ u ih =>
    intro S w m hv a listed tm hp i hn hI hr hK
    by_cases hdone : ∀ j, j < k + n → listed.getD j false = true
    · obtain ⟨rfl, rfl, rfl⟩ := hfin hI hdone
      have hlist : ∀ j, j < ops.size → listed.getD j false = decide (j < k + i) := by
        intro j hj
        by_cases hjk : j < k + i
        · rw [hdone j hjk]; simp [hjk]
        · rw [hI.far j (by omega)]; simp [hjk]
      have hcount : (unl ops.size listed).length = ops.size - (k + i) := by
        have e : unl ops.size listed = (List.range ops.size).filter fun j => !decide (j < k + i) := by
          unfold unl
          refine List.filter_congr fun j hj => ?_
          rw [hlist j (List.mem_range.1 hj)]
        rw [e]
        have e2 : List.range ops.size = List.range (k + i) ++ (List.range (ops.size - (k + i))).map (k + i + ·) := by
          rw [← List.range_add]; congr 1; omega
        rw [e2, List.filter_append]
        have e3 : (List.range (k + i)).filter (fun j => !decide (j < k + i)) = [] := by
          rw [List.filter_eq_nil_iff]; intro j hj; have := List.mem_range.1 hj; simp [this]
        rw [e3, List.filter_eq_self.2]
        · simp
        · intro j hj
          obtain ⟨l, _, rfl⟩ := List.mem_map.1 hj
          simp
      rw [hn, hcount]
      exact hK S w m hv a (Gs.refl _ _ _ _ _) hr rfl rfl listed hI.sz hlist
    · have hex : ∃ j, j < k + n ∧ listed.getD j false = false := by
        apply Classical.byContradiction
        intro hno
        exact hdone fun j hj => by
          cases hh : listed.getD j false with
          | true => rfl
          | false => exact absurd ⟨j, hj, hh⟩ hno
      have hmin : ∃ j, j < k + n ∧ listed.getD j false = false ∧ ∀ i, i < j → listed.getD i false = true := by
        obtain ⟨j, hj⟩ := hex
        induction j using Nat.strongRecOn with
        | ind j ihj =>
          by_cases hall : ∀ i, i < j → listed.getD i false = true
          · exact ⟨j, hj.1, hj.2, hall⟩
          · have : ∃ i, i < j ∧ listed.getD i false = false := by
              apply Classical.byContradiction
              intro hno
              exact hall fun i hi => by
                cases hh : listed.getD i false with
                | true => rfl
                | false => exact absurd ⟨i, hi, hh⟩ hno
            obtain ⟨i, hi, hi0⟩ := this
            exact ihj i hi ⟨by omega, hi0⟩
      obtain ⟨j0, hj0k, hj00, hj0all⟩ := hmin
      have hgt : ∀ j, j < ops.size → listed.getD j true = listed.getD j false := by
        intro j hj; simp [hI.sz, hj]
      have hmem : j0 ∈ Region.ready .any ops listed := by
        have hj0 : j0 < ops.size := by omega
        refine ready_of_edges (o := ops[j0]) (by simp [hj0]) (by rw [hgt j0 hj0]; exact hj00) fun e he => ?_
        exact hj0all e ((late_at hd (by simp [hj0])).1 e he)
      refine ⟨fun h0 => (by rw [h0] at hmem; cases hmem), fun j hj => ?_⟩
      obtain ⟨oj, hoj, hj0, hje⟩ := ready_edges hj
      have hjl : j < ops.size := (Array.getElem?_eq_some_iff.1 hoj).1
      rw [hgt j hjl] at hj0
      have hjk : j < k + n := by
        rcases Nat.lt_or_ge j (k + n) with h' | h'
        · exact h'
        · have := anc_listed hI.down ops.size j oj hoj hje j0 ((late_at hd hoj).2.2.2.2.2 h' j0 (by omega))
          rw [hj00] at this; cases this
      obtain ⟨hedge, hlook, hpure, huniq, hmidanc, _⟩ := late_at hd hoj
      have hlk := hlook hjk
      have huq := huniq hjk
      have hsame : ∀ t ∈ oj.looksAt ops, tm[t]? = tmF[t]? := by
        intro t ht
        by_cases hc : ∃ (i : Nat) (o : Oper), i < k + n ∧ ops[i]? = some o ∧ o.dst = some t
        · obtain ⟨i, o, g1, g2, g3⟩ := hc
          exact hI.got i o t g1 g2 g3 (hje i (hlk t ht i o g1 g2 g3))
        · rw [hI.old t (fun j o g1 g2 _ g3 => hc ⟨j, o, g1, g2, g3⟩), hold t (fun j o g1 g2 g3 => hc ⟨j, o, g1, g2, g3⟩)]
      have hget : ∀ i, (listed.setIfInBounds j true).getD i false = (if i = j then true else listed.getD i false) := by
        intro i
        simp only [Array.getD_eq_getD_getElem?, Array.getElem?_setIfInBounds]
        by_cases hij : j = i
        · subst hij; simp [hI.sz, hjl]
        · simp [hij, Ne.symm hij]
      have hdown' : ∀ (i : Nat) (o' : Oper), ops[i]? = some o' → (listed.setIfInBounds j true).getD i false = true → ∀ e ∈ edgesOf o', (listed.setIfInBounds j true).getD e false = true := by
        intro i o' ho' hi e he
        rw [hget] at hi ⊢
        split at hi
        · rename_i hij
          subst hij
          rw [hoj] at ho'; cases ho'
          split
          · rfl
          · exact hje e he
        · split
          · rfl
          · exact hI.down i o' ho' hi e he
      have hdst : ∀ (i : Nat) (o : Oper), i < k + n → i ≠ j → ops[i]? = some o → oj.dst ≠ none → o.dst ≠ oj.dst := by
        intro i o hik hij ho hne he
        rcases Nat.lt_or_ge i j with h' | h'
        · exact huq i o h' ho hne he
        · exact (late_at hd ho).2.2.2.1 hik j oj (by omega) hoj (by rw [he]; exact hne) he.symm
      have htl : tm.length = tmF.length := by rw [hI.len, lenF, sp3]
      -- what is laid stays right
      have hgot' : ∀ (x : AV), (∀ d, oj.dst = some d → d < tm.length → tmF[d]? = some x) → ∀ (i' : Nat) (o : Oper) (d : Nat), i' < k + n → ops[i']? = some o → o.dst = some d → (listed.setIfInBounds j true).getD i' false = true → (putA tm oj.dst x)[d]? = tmF[d]? := by
        intro x hxF i' o d hik ho hod hi'
        rw [hget] at hi'
        by_cases hij : i' = j
        · subst hij
          rw [hoj] at ho; cases ho
          rw [hod]
          by_cases hdl : d < tm.length
          · rw [hxF d hod hdl]; simp [putA, hdl]
          · simp only [putA]
            rw [List.getElem?_eq_none (by simp; omega), List.getElem?_eq_none (by omega)]
        · rw [if_neg hij] at hi'
          rw [putA_get]
          · exact hI.got i' o d hik ho hod hi'
          · intro he
            exact hdst i' o hik hij ho (by rw [he]; simp) (by rw [hod, he])
      have hold' : ∀ (x : AV) (t : Nat), (∀ (j' : Nat) (o : Oper), j' < k + n → ops[j']? = some o → (listed.setIfInBounds j true).getD j' false = true → o.dst ≠ some t) → (putA tm oj.dst x)[t]? = tm0[t]? := by
        intro x t ht
        rw [putA_get (ht j oj hjk hoj (by rw [hget, if_pos rfl]))]
        exact hI.old t fun i' o hik ho hi' => ht i' o hik ho (by rw [hget]; split <;> simp_all)
      unfold wpOpIn
      simp only [hoj]
      obtain ⟨tmi, hheap⟩ := hI.heap
      by_cases hjp : j < k
      · -- a pure one
        have hpk := hpure hjp
        obtain ⟨x, hxp0, hxd⟩ := spec0.1 j oj (Nat.zero_le _) hjp hoj
        have hxp : xp P call ops hp tmK oj = some x := (hfr i tmi hp hheap j oj hjp hoj fun i' o' hi' ho' he => by
          have g1 := hI.mid (k + i') (by omega) (by have := hI.hi; omega)
          have g2 := hI.down (k + i') o' ho' (by rw [g1]; simp; omega) j he
          rw [hj0] at g2; cases g2).trans hxp0
        have hKF : ∀ t ∈ oj.looksAt ops, tmF[t]? = tmK[t]? := fun t ht => L1n t fun j' o' hj' ho' hd' => by
          have := hedge _ (hlk t ht (k + j') o' (by omega) ho' hd')
          omega
        have hxp' : xp P call ops hp tm oj = some x := by
          rw [xp_congr (tm' := tmK) (fun t ht => getD_of ((hsame t ht).trans (hKF t ht)))]; exact hxp
        obtain ⟨pv', hst, _, _⟩ := xp_step (pv := []) hpk hxp'
        have hxF : ∀ d, oj.dst = some d → d < tm.length → tmF[d]? = some x := fun d hod hdl => by
          rw [L1n d fun j' o' hj' ho' hd' => (late_at hd ho').2.2.2.1 (by omega) j oj (by omega) hoj (by rw [hd']; simp) (by rw [hod, hd'])]
          exact hxd d hod (by rw [← hI.len]; exact hdl)
        refine qStep_sound hcall hr hst fun S' w' m' hv' a' hg hr' hdd hsz => ?_
        refine ih (i := i) (by have := unl_step hI.sz hjl hj0; omega) ⟨by simp [hI.sz], hI.hi, fun i' hi' => by rw [hget, if_neg (by omega)]; exact hI.far i' hi', fun i' h1 h2 => by rw [hget, if_neg (by omega)]; exact hI.mid i' h1 h2, hdown',
          by rw [putA_length]; exact hI.len, hgot' x hxF, hold' x, hI.heap⟩ ⟨hr'.1, hr'.2.1, by intro p hp; cases hp⟩
          fun S'' w'' m'' hv'' a'' hg' hr'' hd' hsz' => hK S'' w'' m'' hv'' a'' (hg.trans hg') hr'' (hd'.trans hdd) (hsz'.trans hsz)
      · -- a late one
        have hji : j = k + i := by
          have h1 := hI.mid j (by omega) hjk
          rw [hj0] at h1
          have h1' : ¬ j < k + i := by simpa using h1.symm
          rcases Nat.lt_or_ge (k + i) j with h' | h'
          · have := anc_listed hI.down ops.size j oj hoj hje (k + i) (hmidanc (by omega) (k + i) (by omega) h')
            have h2 := hI.mid (k + i) (by omega) (by omega)
            rw [this] at h2; simp at h2
          · omega
        subst hji
        have hol : ((ops.toList.drop k).take n)[i]? = some oj := by
          rw [List.getElem?_take, if_pos (by omega), List.getElem?_drop]; simpa using hoj
        obtain ⟨t1, h1, x, h2, e1, e2, e3⟩ := sl3 i oj hol
        rw [hheap] at e1; cases e1
        have hTi : ∀ t ∈ oj.looksAt ops, tm[t]? = tmi[t]? := fun t ht => by
          rw [hsame t ht]
          exact (L2 i tmi hp hheap (by omega) t fun j' o' hj' hjn ho' hd' => by
            have := hedge _ (hlk t ht (k + j') o' (by omega) ho' hd')
            omega).symm
        obtain ⟨pv', hst⟩ := xLate_step (call := call) (ops := ops) (P := P) (tm := tm) (o := oj) (x := x) (hp := hp) (hp' := h2) (by rw [xLate_congr (ops := ops) (tm' := tmi) (fun t ht => getD_of (hTi t ht))]; exact e3)
        have hxF : ∀ d, oj.dst = some d → d < tm.length → tmF[d]? = some x := fun d hod hdl => by
          rw [← L2 (i + 1) _ h2 e2 (by omega) d fun j' o' hj' hjn ho' hd' => (late_at hd ho').2.2.2.1 (by omega) (k + i) oj (by omega) hoj (by rw [hd']; simp) (by rw [hod, hd']), hod]
          have hl : tmi.length = tm.length := by rw [(L1 i tmi hp hheap (by omega)).1, hI.len, sp3]
          simp [putA, hl, hdl]
        refine xStep_sound hcall hr hst fun S' w' m' hv' a' hg hr' hdd hsz => ?_
        refine ih (i := i + 1) (by have := unl_step hI.sz hjl hj0; omega) ⟨by simp [hI.sz], by omega, fun i' hi' => by rw [hget, if_neg (by omega)]; exact hI.far i' hi', fun i' g1 g2 => ?_, hdown', by rw [putA_length]; exact hI.len, hgot' x hxF, hold' x, ⟨_, e2⟩⟩ ⟨hr'.1, hr'.2.1, by intro p hp; cases hp⟩
          fun S'' w'' m'' hv'' a'' hg' hr'' hd' hsz' => hK S'' w'' m'' hv'' a'' (hg.trans hg') hr'' (hd'.trans hdd) (hsz'.trans hsz)
        rw [hget]
        split
        · subst_vars; simp
        · rw [hI.mid i' g1 g2]; simp; omega

/-- a region that draws its order, with n stores and new blocks behind k pure operations, at any moment -/
theorem W.late {id : Nat} (k n : Nat) {tmK tmF : List AV} {sts : List (List AV × List Blk)} {hpn : List Blk} (call : CallT) (hm : P.follows .mixedOrders = true) (hcall : CallOk P call) (hd : drawLateOk ops k n = true) (hk : k + n ≤ ops.size)
    (hls : xLates P ((ops.toList.drop k).take n) tmK s.hp = some sts) (hx : xPre P call ops s.hp (ops.toList.take k) s.tm = some tmK)
    (hfr : ∀ (i : Nat) (t : List AV) (h : List Blk), sts[i]? = some (t, h) → ∀ (j : Nat) (o : Oper), j < k → ops[j]? = some o → (∀ (i' : Nat) (o' : Oper), i' < i → ops[k + i']? = some o' → j ∉ edgesOf o') → xp P call ops h tmK o = xp P call ops s.hp tmK o) (hlast : sts[n]? = some (tmF, hpn))
    (h : wOps Ev ops (ops.toList.drop (k + n)) ⟨tmF, hpn, []⟩ s.b (fun s' b' => Q .normal ⟨s'.tm, s'.hp, b'⟩)) : W Ev (.region id ops true) s Q := by
  intro lo r S X V w m B hv a ht
  refine wpIn_region_any hm ?_
  have ht' := ht.drew
  have hget : ∀ j, (Array.replicate ops.size false).getD j false = false := by intro j; simp [Array.getElem?_replicate]; split <;> rfl
  have h0 : sts[0]? = some (tmK, s.hp) := (xLates_get hls).2.1
  refine late_sound hcall hd hk hls hx hfr hlast ops.size (i := 0) (tm := s.tm) ?_ ⟨by simp, Nat.zero_le _, fun j _ => hget j, fun j h1 _ => (by rw [hget]; simp; omega), fun j o' _ hj => (by rw [hget] at hj; cases hj), rfl,
    fun j o d _ _ _ hj => (by rw [hget] at hj; cases hj), fun _ _ => rfl, ⟨_, h0⟩⟩ ht'.rel ?_
  · have : unl ops.size (Array.replicate ops.size false) = List.range ops.size := by
      unfold unl
      rw [List.filter_eq_self]
      intro j _; rw [hget]; rfl
    rw [this]; simp
  · intro S' w' m' hv' a' hg hr hd' hsz listed hls' hl
    refine tail_sound (s := ⟨tmF, hpn, []⟩) (b := s.b) (k := k + n) (fun i o ho => (late_at hd ho).1) (fun i o ho => (late_at hd ho).2.2.2.2.2) _ rfl (Nat.le_refl _) hls' hl (ht'.step hg hr hd') h fun s' b' hq S'' X'' V'' w'' m'' hv'' a'' hw hm' ht'' => ?_
    exact ⟨⟨s'.tm, s'.hp, b'⟩, S'', X'', V'', m'', hv'', hq, ⟨((went_drew ht.rel.slt).trans (hg.went hr.slt)).trans hw, hg.ms.trans hm'⟩, ⟨⟨ht''.rel.1, ht''.rel.2.1, by intro p hp; cases hp⟩, ht''.sub, ht''.env, ht''.round, ht''.marks, ht''.base⟩⟩

end
end Go.Proofs.YtfeemohdpmdaoaaDoor.Am

/- Functions: results, what a caller may do with them, contracts out of walks. -/
namespace Go.Proofs.YtfeemohdpmdaoaaDoor.Am
set_option linter.unusedVariables false
open Go Go.RowKit

/-- a result -/
def resA (P : Program) (hp : List Blk) (tm : List AV) : ResultVar → Option AV
  | .tmp t => some (tm.getD t .bad).view
  | .cell a t => xLoad P hp t (tm.getD a .bad)

def resAs (P : Program) (hp : List Blk) (tm : List AV) : List ResultVar → Option (List AV)
  | [] => some []
  | x :: l => match resA P hp tm x, resAs P hp tm l with
    | some y, some ys => some (y :: ys)
    | _, _ => none

/-- a result, read -/
def resSem (tmps : Array Value) : ResultVar → Sem Value
  | .tmp t => pure (tmps.getD t undef)
  | .cell a t => do loadVar t (← asAddr (tmps.getD a undef))

/-- what a call yields -/
def resV : List AV → AV
  | [x] => x
  | xs => .tup xs

mutual
/-- as data: blocks that turn no more -/
def sealV (hp : List Blk) : AV → Option AV
  | .ref g off n cap k => match hp[g]? with
    | some blk => if blk.grow then none else (chunk k n ((blk.cells.drop off).take (n * k))).map fun xs => .d (.sl k xs)
    | none => none
  | .ptr g off => match hp[g]? with
    | some blk => if blk.grow then none else match toDs (blk.cells.drop off) with
      | some (d :: ds) => some (.rptr (d :: ds))
      | _ => none
    | none => none
  | .own _ k xs => some (.d (.sl k xs))
  | .agg cs => (sealVs hp cs).map .agg
  | .tup cs => (sealVs hp cs).map .tup
  | .fn f a b => match sealVs hp a, sealVs hp b with
    | some a, some b => some (.fn f a b)
    | _, _ => none
  | .gref .. | .gptr .. | .yl => none
  | x => some x
def sealVs (hp : List Blk) : List AV → Option (List AV)
  | [] => some []
  | x :: l => match sealV hp x, sealVs hp l with
    | some y, some ys => some (y :: ys)
    | _, _ => none
end

/-- cells of the activation's own blocks too -/
def withBlocks (S : Pr) (m : List MB) : Pr := fun b i => S b i ∨ ∃ (g : Nat) (p : MB), m[g]? = some p ∧ p.b = b ∧ i < p.len

section
variable {P : Program} {S S' S'' X X' V V' Z : Pr} {L : Nat → Prop} {r : Option Nat} {lo : Nat} {yv : Option Nat} {w w' w'' : World} {m m' m'' : List MB} {A B : List (AV × Value)} {hp hp' : List Blk} {hv hv' : List (List Value)} {call : CallT} {a a' : Act} {o : Oper} {ops : Array Oper} {Ev : Env P}
  {s : St Ev.β} {Q Q' : Exit → St Ev.β → Prop} {c c' : Code}

theorem sealVs_spec : ∀ {cs ys : List AV}, sealVs hp cs = some ys → ys.length = cs.length ∧ ∀ (i : Nat) (x : AV), cs[i]? = some x → ∃ y, ys[i]? = some y ∧ sealV hp x = some y
  | [], ys, h => by simp only [sealVs, Option.some.injEq] at h; subst h; simp
  | x :: l, ys, h => by
    simp only [sealVs] at h
    split at h <;> try (cases h; done)
    rename_i y ys' h1 h2
    cases h
    obtain ⟨h3, h4⟩ := sealVs_spec h2
    refine ⟨by simp [h3], fun i z hz => ?_⟩
    cases i with
    | zero => simp at hz; subst hz; exact ⟨y, rfl, h1⟩
    | succ i => simp at hz; simpa using h4 i z hz

/-- the cells of a block, from some place on -/
theorem Rel.cellsOf (h : Rel S X yv w m (B ++ cellPairs hp hv) hp hv) {g off : Nat} {p : MB} {blk : Blk} (hm : m[g]? = some p) (hb : hp[g]? = some blk) :
    ∃ us : List Value, RVs S w m yv (blk.cells.drop off) us ∧ (∀ (j : Nat) (u : Value), us[j]? = some u → w.cell? ⟨p.b, off + j, none⟩ = some u ∧ off + j < p.len) ∧ (∀ u ∈ us, u.oneCell' = true) := by
  obtain ⟨blk', vs, cur, e, g1, g2, g3, g4, g5, g6, g7, g8, g9, g10, _⟩ := h.block hm
  rw [hb] at g1; cases g1
  refine ⟨vs.drop off, ⟨by simp; omega, fun i c u h1 h2 => ?_⟩, fun j u hu => ?_, fun u hu => g7 u (List.mem_of_mem_drop hu)⟩
  · simp only [List.getElem?_drop] at h1 h2
    obtain ⟨pre, post, e1, _⟩ := cellPairs_split hb g2
    refine h.rv (c, u) (List.mem_append_right _ ?_)
    rw [e1]
    refine List.mem_append_left _ (List.mem_append_right _ (List.mem_iff_getElem?.2 ⟨off + i, ?_⟩))
    rw [List.getElem?_zip_eq_some]; exact ⟨h1, h2⟩
  · simp only [List.getElem?_drop] at hu
    exact ⟨cells_of_take g8 g9 _ u hu, by have := (List.getElem?_eq_some_iff.1 hu).1; omega⟩

theorem RVs.take {cs : List AV} {us : List Value} (h : RVs S w m yv cs us) (n : Nat) : RVs S w m yv (cs.take n) (us.take n) := by
  refine ⟨by simp [h.1], fun i c v h1 h2 => ?_⟩
  rw [List.getElem?_take] at h1 h2
  split at h1 <;> try (cases h1; done)
  rename_i hi
  rw [if_pos hi] at h2
  exact h.2 i c v h1 h2

theorem DR.blocks {x : Dv} {v : Value} (h : DR S w x v) : DR (withBlocks S m) w x v := h.ext (fun _ _ h => .inl h) (fun _ _ _ _ h => h)

/-- what is sealed is read by all -/
theorem seal_sound (h : Rel S X yv w m (B ++ cellPairs hp hv) hp hv) {x : AV} {v : Value} (hr : RV S w m yv x v) : ∀ {y : AV}, sealV hp x = some y → RV (withBlocks S m) w [] none y v := by
  induction hr with
  | d h1 => intro y hy; simp only [sealV, Option.some.injEq] at hy; subst hy; exact .d h1.blocks
  | agg hl h1 ih =>
    intro y hy
    simp only [sealV, Option.map_eq_some_iff] at hy
    obtain ⟨ys, h2, rfl⟩ := hy
    obtain ⟨h3, h4⟩ := sealVs_spec h2
    refine .agg (h3.trans hl) fun i c v hc hv => ?_
    have hi : i < ys.length := (List.getElem?_eq_some_iff.1 hc).1
    obtain ⟨y, h5, h6⟩ := h4 i _ (List.getElem?_eq_some_iff.2 ⟨by omega, rfl⟩)
    rw [hc] at h5; cases h5
    exact ih i _ v (List.getElem?_eq_some_iff.2 ⟨by omega, rfl⟩) hv h6
  | tup hl h1 ih =>
    intro y hy
    simp only [sealV, Option.map_eq_some_iff] at hy
    obtain ⟨ys, h2, rfl⟩ := hy
    obtain ⟨h3, h4⟩ := sealVs_spec h2
    refine .tup (h3.trans hl) fun i c v hc hv => ?_
    have hi : i < ys.length := (List.getElem?_eq_some_iff.1 hc).1
    obtain ⟨y, h5, h6⟩ := h4 i _ (List.getElem?_eq_some_iff.2 ⟨by omega, rfl⟩)
    rw [hc] at h5; cases h5
    exact ih i _ v (List.getElem?_eq_some_iff.2 ⟨by omega, rfl⟩) hv h6
  | own h1 h2 => intro y hy; simp only [sealV, Option.some.injEq] at hy; subst hy; exact .d h1.blocks
  | ownNil => intro y hy; simp only [sealV, Option.some.injEq] at hy; subst hy; exact .d (.nil _)
  | full h1 => intro y hy; simp only [sealV, Option.some.injEq] at hy; subst hy; exact .full h1.blocks
  | rptr vals hne hsp hs hc hr h1 =>
    intro y hy; simp only [sealV, Option.some.injEq] at hy; subst hy
    exact .rptr vals hne hsp (fun j c h => .inl (hs j c h)) hc (fun j c h => (hr j c h).blocks) h1
  | ref hm hfit hn =>
    rename_i g off n cap k b len ver
    intro y hy
    simp only [sealV] at hy
    split at hy <;> try (cases hy; done)
    rename_i blk hb
    split at hy <;> try (cases hy; done)
    simp only [Option.map_eq_some_iff] at hy
    obtain ⟨xs, h1, rfl⟩ := hy
    obtain ⟨us, h2, h3, h4⟩ := h.cellsOf (off := off) hm hb
    obtain ⟨blk', vs, cur, e, g1, g2, g3, _⟩ := h.block hm
    rw [hb] at g1; cases g1
    simp only at g3
    have hnk : n * k ≤ cap * k := Nat.mul_le_mul_right k hn
    have hul : (us.take (n * k)).length = n * k := by
      have := h2.1
      simp at this ⊢; omega
    obtain ⟨h5, h6⟩ := chunk_spec h1 (h2.take (n * k)) hul (fun u hu => h4 u (List.mem_of_mem_take hu))
    have h7 : Flat (withBlocks S m) w k xs (us.take (n * k)) := h6.ext (fun _ _ h => .inl h) (fun _ _ _ _ h => h)
    subst h5
    refine .d (DR.ofFlat (a := ⟨b, off, none⟩) h7 (fun j u hu => ?_) hn (.inl rfl))
    rw [List.getElem?_take] at hu
    split at hu <;> try (cases hu; done)
    obtain ⟨h8, h9⟩ := h3 j u hu
    exact ⟨h8, .inr ⟨g, _, hm, rfl, h9⟩⟩
  | ptr hm =>
    rename_i g off b len ver
    intro y hy
    simp only [sealV] at hy
    split at hy <;> try (cases hy; done)
    rename_i blk hb
    split at hy <;> try (cases hy; done)
    split at hy <;> try (cases hy; done)
    rename_i d ds h1
    cases hy
    obtain ⟨us, h2, h3, h4⟩ := h.cellsOf (off := off) hm hb
    obtain ⟨h5, h6⟩ := toDs_spec h1
    have hget : ∀ (j : Nat) (x : Dv), (d :: ds)[j]? = some x → us[j]? = some (us.getD j default) := by
      intro j x hx
      have : j < us.length := by rw [← h2.1, ← h5]; exact (List.getElem?_eq_some_iff.1 hx).1
      simp [List.getD, this]
    refine .rptr (fun j => us.getD j default) (by simp) rfl (fun j x hx => .inr ⟨g, _, hm, rfl, (h3 j _ (hget j x hx)).2⟩) (fun j x hx => (h3 j _ (hget j x hx)).1) (fun j x hx => ?_) (fun j x hx => h4 _ (List.mem_of_getElem? (hget j x hx)))
    have hj : j < (blk.cells.drop off).length := by rw [← h5]; exact (List.getElem?_eq_some_iff.1 hx).1
    have hc : (blk.cells.drop off)[j]? = some (blk.cells.drop off)[j] := List.getElem?_eq_getElem hj
    exact (toD?_spec (h6 j _ x hc hx) (h2.2 j _ _ hc (hget j x hx))).blocks
  | gref => intro y hy; simp [sealV] at hy
  | gptr => intro y hy; simp [sealV] at hy
  | fn hf hl hl' h1 h1' ih ih' =>
    intro y hy
    simp only [sealV] at hy
    split at hy <;> try (cases hy; done)
    rename_i ya yb h2 h2'
    cases hy
    obtain ⟨h3, h4⟩ := sealVs_spec h2
    obtain ⟨h3', h4'⟩ := sealVs_spec h2'
    refine .fn hf (h3.trans hl) (h3'.trans hl') (fun i c v hc hv => ?_) (fun i c v hc hv => ?_)
    · have hi := (List.getElem?_eq_some_iff.1 hc).1
      obtain ⟨y, h5, h6⟩ := h4 i _ (List.getElem?_eq_some_iff.2 ⟨by omega, rfl⟩)
      rw [hc] at h5; cases h5
      exact ih i _ v (List.getElem?_eq_some_iff.2 ⟨by omega, rfl⟩) hv h6
    · have hi := (List.getElem?_eq_some_iff.1 hc).1
      obtain ⟨y, h5, h6⟩ := h4' i _ (List.getElem?_eq_some_iff.2 ⟨by omega, rfl⟩)
      rw [hc] at h5; cases h5
      exact ih' i _ v (List.getElem?_eq_some_iff.2 ⟨by omega, rfl⟩) hv h6
  | yl => intro y hy; simp [sealV] at hy
  | bad => intro y hy; simp only [sealV, Option.some.injEq] at hy; subst hy; exact .bad

/-! ### results -/
theorem tm_rv {s : RS} (h : RelS S X yv w m B hv s a) (t : Nat) : RV S w m yv (s.tm.getD t .bad) (a.tmps.getD t undef) := by
  have := evalA_sound h (.tmp t)
  simpa [evalA, Act.eval] using this

theorem resA_sound {s : RS} (h : RelS S X yv w m B hv s a) {x : ResultVar} {y : AV} (hx : resA P s.hp s.tm x = some y) :
    ∃ v, (resSem a.tmps x).run P w = .ok v w ∧ RV S w m yv y v ∧ ownB (y, v) = none := by
  cases x with
  | tmp t =>
    simp only [resA, Option.some.injEq] at hx
    subst hx
    exact ⟨a.tmps.getD t undef, rfl, (tm_rv h t).view, ownB_view _ _⟩
  | cell p t =>
    simp only [resA, xLoad] at hx
    split at hx <;> try (cases hx; done)
    rename_i cs hcs
    have hr : Rel S X yv w m ((s.tm.zip a.tmps.toList ++ B) ++ cellPairs s.hp hv) s.hp hv := by simpa using h.2.1
    obtain ⟨b, o, us, e1, e2, e3, e4, e5⟩ := cellsAt_sound hr (tm_rv h p) hcs
    obtain ⟨v, h1, h2, h3⟩ := load_sound (P := P) e2 e3 e5 hx
    refine ⟨v, ?_, h2, h3⟩
    simp only [resSem, Sem.run_bind, e1, asAddr, Sem.run_pure, Result.andThen_ok, h1]

theorem resAs_sound {s : RS} (h : RelS S X yv w m B hv s a) : ∀ {l : List ResultVar} {ys : List AV}, resAs P s.hp s.tm l = some ys →
    ∃ vs : List Value, (l.mapM (resSem a.tmps)).run P w = .ok vs w ∧ RVs S w m yv ys vs
  | [], ys, hx => by simp only [resAs, Option.some.injEq] at hx; subst hx; exact ⟨[], rfl, rfl, by simp⟩
  | x :: l, ys, hx => by
    simp only [resAs] at hx
    split at hx <;> try (cases hx; done)
    rename_i y ys' h1 h2
    cases hx
    obtain ⟨v, h3, h4, _⟩ := resA_sound h h1
    obtain ⟨vs, h5, h6⟩ := resAs_sound h h2
    refine ⟨v :: vs, ?_, by simp [h6.1], fun i c u hc hu => ?_⟩
    · simp only [List.mapM_cons, Sem.run_bind, h3, Result.andThen_ok, h5, Sem.run_pure]
    · cases i with
      | zero => simp at hc hu; subst hc; subst hu; exact h4
      | succ i => simp at hc hu; exact h6.2 i c u hc hu

theorem results_sound {s : RS} {fn : Func} (h : RelS S X yv w m B hv s a) {ys : List AV} (hx : resAs P s.hp s.tm fn.results.toList = some ys) : ∃ v, (results fn a.tmps).run P w = .ok v w ∧ RV S w m yv (resV ys) v := by
  obtain ⟨vs, h1, h2⟩ := resAs_sound h hx
  refine ⟨if h : vs.toArray.size = 1 then vs.toArray[0] else .tuple vs.toArray, ?_, ?_⟩
  · have e0 : results fn a.tmps = (do let vs ← fn.results.mapM (resSem a.tmps); pure (if h : vs.size = 1 then vs[0] else .tuple vs)) := by
      unfold results
      congr
    rw [e0, Array.mapM_eq_mapM_toList]
    simp only [Sem.run_bind]
    have e : (List.toArray <$> fn.results.toList.mapM (resSem a.tmps)).run P w = .ok vs.toArray w := by
      rw [map_eq_pure_bind, Sem.run_bind, h1]; rfl
    rw [e]
    rfl
  · match ys, vs, h2 with
    | [], vs, h2 =>
      have : vs = [] := by simpa using h2.1.symm
      subst this
      simp only [resV]
      exact .tup rfl (by simp)
    | [y], vs, h2 =>
      obtain ⟨v, rfl⟩ : ∃ v, vs = [v] := by
        have := h2.1
        match vs, this with
        | [v], _ => exact ⟨v, rfl⟩
      exact h2.2 0 y v rfl rfl
    | y :: y' :: ys, vs, h2 =>
      have hne : ¬ vs.toArray.size = 1 := by have := h2.1; simp at this ⊢; omega
      rw [dif_neg hne]
      simp only [resV]
      exact .tup (by simpa using h2.1) (fun i c v hc hv => h2.2 i c v hc (by simpa using hv))

/-! ### leaving -/
theorem leaves_of {fn : Func} {tmps : Array Value} {R : Ending → World → Prop} {K : World → Prop} (hK : ∀ w d, K w → lo ≤ d → w.heap[d]? = some (.deferred (some [])) → K (w.putObj d (.deferred none)))
    (hend : ∀ w, K w → ∃ v, (results fn tmps).run P w = .ok v w ∧ R (.returned v) w) : ∀ {ds : List Deferred} {w : World}, Marks lo w ds → K w → LeavesInM (Fn none) 0 P fn tmps R ds .returning w := by
  intro ds w ⟨bs, h1, h2, h3⟩ hk
  subst h1
  induction bs generalizing w with
  | nil => exact hend w hk
  | cons b bs ih =>
    simp only [List.nodup_cons] at h2
    refine ⟨by simp, .inl ⟨b, w.putObj b (.deferred none), rfl, run_takeDeferred (h3 b (by simp)).2, ih h2.2 (fun b' hb' => ⟨(h3 b' (by simp [hb'])).1, ?_⟩) (hK w b hk (h3 b (by simp)).1 (h3 b (by simp)).2)⟩⟩
    have hne : b' ≠ b := fun e => h2.1 (e ▸ hb')
    rw [World.putObj_heap_other hne]
    exact (h3 b' (by simp [hb'])).2

/-- how a function's body ends -/
def FnPost {β : Type} (P : Program) (fn : Func) (R : AV → List Blk → β → Prop) (e : Exit) (s : St β) : Prop :=
  (e = .ret ∨ e = .normal) ∧ ∃ ys, resAs P s.hp s.tm fn.results.toList = some ys ∧ R (resV ys) s.hp s.b

/-- the temporaries at a function's start -/
def startTm (fn : Func) (args : List AV) : List AV := args ++ List.replicate (fn.ntmps - args.length) .bad

theorem start_rel {fn : Func} {args : List AV} {vs : List Value} {tmps : Array Value} {C : List (AV × Value)} (ht : tmps = vs.toArray ++ Array.replicate (fn.ntmps - vs.toArray.size) undef) (hl : args.length = vs.length)
    (h : Rel S X yv w m (args.zip vs ++ C) hp hv) : (startTm fn args).length = tmps.size ∧ Rel S X yv w m ((startTm fn args).zip tmps.toList ++ C) hp hv := by
  subst ht
  refine ⟨by simp [startTm, hl], ?_⟩
  have e : (startTm fn args).zip (vs.toArray ++ Array.replicate (fn.ntmps - vs.toArray.size) undef).toList = args.zip vs ++ (List.replicate (fn.ntmps - args.length) AV.bad).zip (List.replicate (fn.ntmps - args.length) undef) := by
    simp [startTm, hl, List.zip_append hl]
  rw [e]
  have h1 := h.pushAll ((List.replicate (fn.ntmps - args.length) AV.bad).zip (List.replicate (fn.ntmps - args.length) undef)) (fun p hp => by
    obtain ⟨p1, p2⟩ := p
    have := (List.of_mem_zip hp).1
    have : p1 = .bad := List.eq_of_mem_replicate this
    subst this
    exact ⟨.bad, rfl⟩)
  refine h1.perm ?_
  rw [← List.append_assoc]
  exact List.Perm.append_right _ List.perm_append_comm

theorem enter_ok {f : Nat} {fn : Func} {c : Code} (hf : P.funcs[f]? = some fn) (hb : fn.body = some c) (hn : (fn.name == "runtime.NumGoroutine") = false) (as : Array Value) (w : World) : (callFunc f as).run P w = .ok (.enter f as) w := by
  unfold callFunc
  simp only [Sem.run_bind, run_program, Result.andThen_ok, hf, hn, hb]
  rfl

theorem Tr.putObj (h2 : Tr Z L S w S' w') {d : Nat} {o o' : Obj} (hd : w.heap.size ≤ d) (hdef : w'.heap[d]? = some o) : Tr Z L S w S' (w'.putObj d o') := by
  refine ⟨h2.os, h2.tape, h2.output, by simpa using h2.size, fun b c e f hb => ?_, fun b o hb ho => ?_, fun b i v hs hv => ?_, h2.up, h2.new, fun b i hs => by simpa using h2.lt b i hs⟩
  · obtain ⟨c', h3, h4⟩ := h2.cells b c e f hb
    have hne : b ≠ d := fun he => by have := (Array.getElem?_eq_some_iff.1 hb).1; omega
    exact ⟨c', by rw [World.putObj_heap_other hne]; exact h3, h4⟩
  · have hne : b ≠ d := fun he => by have := (Array.getElem?_eq_some_iff.1 hb).1; omega
    rw [World.putObj_heap_other hne]; exact h2.objs b o hb ho
  · have hne : b ≠ d := fun he => by have := World.block_lt_of_cell? w ⟨b, i, none⟩ hv; simp at this; omega
    rw [World.cell?_of_block (w := w') (a := ⟨b, i, none⟩) (World.putObj_heap_other hne)]
    exact h2.same b i v hs hv

/-- a call, walked -/
theorem calls_of_W {f : Nat} {fn : Func} {c : Code} {args : List AV} {vs : List Value} {b : Ev.β} {R : AV → List Blk → Ev.β → Prop} {RR : Ending → World → Prop} (hf : P.funcs[f]? = some fn) (hb : fn.body = some c) (hl : args.length = vs.length)
    (hW : W Ev c ⟨startTm fn args, hp, b⟩ (FnPost P fn R)) (hr : Rel S X Ev.yl w m (args.zip vs ++ (B ++ cellPairs hp hv)) hp hv) (hV : ∀ b i, V b i → X b i) (hE : Ev.E b S V w) (hN : Ev.N ≤ w.heap.size)
    (hR : ∀ {x S' X' V' w' m' hv' hp' v b'}, R x hp' b' → Tr (fun b i => ¬ X b i ∨ V b i) Ev.L S w S' w' → (∀ b i, X b i → X' b i) → MStep m m' → Rel S' X' Ev.yl w' m' (B ++ cellPairs hp' hv') hp' hv' → Ev.E b' S' V' w' → RV S' w' m' Ev.yl x v → RR (.returned v) w') :
    CallsIn Fence.wide 0 P f vs.toArray w RR := by
  refine callsIn_of_wp_marks (F := Fn none) hf hb trivial ?_
  obtain ⟨h1, h2⟩ := start_rel (fn := fn) rfl hl hr
  refine wpIn_mono (hW w.heap.size none S X V w m B hv _ ⟨⟨h1, h2, by intro p hp; cases hp⟩, hV, hE, (fun l hl => by cases hl), ⟨[], rfl, List.nodup_nil, by simp⟩, hN, Nat.le_refl _⟩) fun e a' w' ⟨s', S', X', V', m', hv', hq, hm, ht⟩ => ?_
  obtain ⟨he, ys, hys, hRy⟩ := hq
  have hleave : LeavesInM (Fn none) 0 P fn a'.tmps RR a'.defers .returning w' := by
    refine leaves_of (lo := w.heap.size) (K := fun w' => RelS S' X' Ev.yl w' m' B hv' s'.rs a' ∧ Ev.E s'.b S' V' w' ∧ Tr (fun b i => ¬ X b i ∨ V b i) Ev.L S w S' w') (fun w' d ⟨k1, k2, k3⟩ hd hdef => ?_) (fun w' ⟨k1, k2, k3⟩ => ?_) ht.marks ⟨ht.rel, ht.env, hm.1.tr⟩
    · exact ⟨⟨k1.1, k1.2.1.putObj hdef rfl, k1.2.2⟩, Ev.stableO _ k2 (Nat.le_trans hN hd) hdef rfl, k3.putObj hd hdef⟩
    · obtain ⟨v, h3, h4⟩ := results_sound (P := P) (fn := fn) k1 hys
      exact ⟨v, h3, hR hRy k3 hm.1.xs hm.2 (k1.2.1.sub (List.sublist_append_right _ _)) k2 h4⟩
  rcases he with rfl | rfl
  · exact hleave
  · exact hleave

/-- nobody looks on -/
def Env.none (P : Program) (yl : Option Nat) : Env P := Env.alone P yl 0 (fun _ _ _ => True) (fun _ _ => trivial) (fun _ _ _ _ _ => trivial)

theorem below_of_tr (h : Tr Z L S w S' w') (hZ : ∀ b i, b < w.heap.size → ¬ Z b i) (hL : ∀ b, ¬ L b) : Below w.heap.size w w' := by
  refine ⟨h.os, h.tape, h.output, h.size, fun k hk => ?_⟩
  have hk1 : w.heap[k]? = some w.heap[k] := by simp [hk]
  cases ho : w.heap[k] with
  | cells c e f =>
    rw [ho] at hk1
    obtain ⟨c', h1, h2⟩ := h.cells k c e f hk1
    rw [hk1, h1]
    congr 2
    apply Array.ext h2
    intro i hi hi'
    have h3 : w.cell? ⟨k, i, none⟩ = some c[i] := by simp [World.cell?, hk1, hi']
    have h4 := h.same k i _ (.inr (hZ k i hk)) h3
    simp only [World.cell?, h1] at h4
    simpa [hi] using h4
  | _ =>
    rw [ho] at hk1
    rcases h.objs k _ hk1 rfl with h1 | ⟨h1, _⟩
    · rw [hk1, h1]
    · exact absurd h1 (hL k)

/-- **A FUNCTION THAT TURNS NOTHING OF ITS CALLERS'** -/
theorem PCall.ofW {f : Nat} {fn : Func} {c : Code} {args : List AV} {x : AV} (hf : P.funcs[f]? = some fn) (hb : fn.body = some c) (hn : (fn.name == "runtime.NumGoroutine") = false) (hargs : args.map AV.view = args)
    (hW : ∀ (Ev : Env P) (b : Ev.β), W Ev c ⟨startTm fn args, [], b⟩ (FnPost P fn fun y hp _ => sealV hp y = some x)) : PCall P f args x := by
  refine ⟨enter_ok hf hb hn, fun S w vs hl hvs hlt hgl => ?_⟩
  have hrel : Rel S (fun b _ => b < w.heap.size) none w [] (args.zip vs ++ ([] ++ cellPairs [] [])) [] [] := by
    have h0 : Rel S (fun b _ => b < w.heap.size) none w [] [] [] [] := ⟨fun b i h => h.elim (hlt b i) id, by simp, List.Pairwise.nil, by simp, by simp, by simp, rfl, rfl, by simp, hgl⟩
    have := h0.pushAll (args.zip vs) (fun p hp => by
      obtain ⟨j, hj⟩ := List.mem_iff_getElem?.1 hp
      rw [List.getElem?_zip_eq_some] at hj
      refine ⟨hvs j p.1 p.2 hj.1 hj.2, ?_⟩
      have hp1 : p.1.view = p.1 := by
        have h1 : (args.map AV.view)[j]? = some p.1.view := by simp [hj.1]
        rw [hargs, hj.1] at h1; exact (Option.some.inj h1).symm
      obtain ⟨p1, p2⟩ := p
      simp only at hp1
      rw [← hp1]; exact ownB_view _ _)
    simpa [cellPairs] using this
  refine calls_of_W (Ev := Env.none P none) (V := fun _ _ => False) (b := (() : Unit)) hf hb hl (hW (Env.none P _) (() : Unit)) hrel (fun _ _ h => h.elim) trivial (Nat.zero_le _) ?_
  intro y S' X' V' w' m' hv' hp' v b' hy htr0 hxs hm hr _ hyv
  have htr : Tr (fun b i => ¬ b < w.heap.size) (fun _ => False) S w S' w' := htr0.mono (fun b i h => h.resolve_right id) (fun _ h => h)
  refine ⟨v, withBlocks S' m', rfl, below_of_tr htr (fun b i hb hz => hz hb) (fun _ h => h), fun b i hs => .inl (htr.up b i hs), fun b i hs => ?_, (seal_sound (B := []) (by simpa using hr) hyv hy).view⟩
  rcases hs with hs | ⟨g, p, hg, rfl, hi⟩
  · rcases htr.new b i hs with h1 | h1 | h1
    · exact .inl h1
    · exact .inr ⟨Nat.le_of_not_lt h1, htr.lt b i hs⟩
    · exact .inr ⟨h1, htr.lt b i hs⟩
  · have hr' : Rel S' X' none w' m' (([] : List (AV × Value)) ++ cellPairs hp' hv') hp' hv' := hr
    obtain ⟨blk, us, cur, e, g1, g2, g3, g4, g5, g6, g7, g8, g9, g10, g11, g12⟩ := hr'.block hg
    have hlt' : p.b < w'.heap.size := (Array.getElem?_eq_some_iff.1 g8).1
    cases hfr : blk.fro with
    | true =>
      have hs := g12 hfr i hi
      rcases htr.new _ _ hs with h1 | h1 | h1
      · exact .inl h1
      · exact .inr ⟨Nat.le_of_not_lt h1, hlt'⟩
      · exact .inr ⟨h1, hlt'⟩
    | false =>
      refine .inr ⟨Nat.le_of_not_lt fun hb => ?_, hlt'⟩
      exact (g11 hfr i).2 (hxs _ _ hb)

/-- **A FUNCTION THAT MAY TURN ITS CALLER'S BLOCKS** -/
theorem SCall.ofW {f : Nat} {fn : Func} {c : Code} {args : List AV} {x : AV} {hp' : List Blk} (hf : P.funcs[f]? = some fn) (hb : fn.body = some c) (hn : (fn.name == "runtime.NumGoroutine") = false)
    (hW : ∀ (Ev : Env P) (b : Ev.β), W Ev c ⟨startTm fn args, hp, b⟩ (FnPost P fn fun y hp1 _ => y = x ∧ hp1 = hp')) : SCall P f args hp x hp' := by
  refine ⟨enter_ok hf hb hn, fun S X yv w m B hv vs hl hrel => ?_⟩
  refine calls_of_W (Ev := Env.none P yv) (V := fun _ _ => False) (b := (() : Unit)) hf hb hl (hW (Env.none P _) (() : Unit)) hrel (fun _ _ h => h.elim) trivial (Nat.zero_le _) ?_
  intro y S' X' V' w' m' hv' hp1 v b' hy htr0 hxs hm hr _ hyv
  have htr : Tr (fun b i => ¬ X b i) (fun _ => False) S w S' w' := htr0.mono (fun b i h => h.resolve_right id) (fun _ h => h)
  obtain ⟨rfl, rfl⟩ := hy
  refine ⟨v, S', m', hv', rfl, ⟨⟨⟨htr.os, htr.tape, htr.output, htr.size, htr.cells, fun b o hb ho _ => (htr.objs b o hb ho).resolve_right (fun h => h.1)⟩, fun b i v hs hv => htr.same b i v (hs.imp id fun h h' => h' h) hv⟩, htr.up, fun b i hs => ?_, hm⟩, (hr.lessX hxs).cons hyv.view (ownB_view _ _)⟩
  rcases htr.new b i hs with h1 | h1 | h1
  · exact .inl h1
  · exact .inr h1
  · exact .inr fun hx => by have := hrel.lt b i (.inr hx); omega

end
end Go.Proofs.YtfeemohdpmdaoaaDoor.Am

/- Blocks that grow: laid anew, and grown at their end, in place or elsewhere. -/
namespace Go.Proofs.YtfeemohdpmdaoaaDoor.Am
set_option linter.unusedVariables false
open Go Go.RowKit

section
variable {S S' X : Pr} {yv : Option Nat} {w w' : World} {m : List MB} {A B : List (AV × Value)} {hp : List Blk} {hv : List (List Value)}

theorem Rel.ownLt (h : Rel S X yv w m A hp hv) : ∀ p ∈ A, ∀ b, ownB p = some b → b < w.heap.size := by
  intro p hp b hb'
  have := h.rv p hp
  obtain ⟨x, v⟩ := p
  cases this <;> simp only [ownB] at hb' <;> try (cases hb')
  rename_i ho
  obtain ⟨cur, h1, _⟩ := ho
  exact (Array.getElem?_eq_some_iff.1 h1).1
theorem Rel.mLt (h : Rel S X yv w m A hp hv) : ∀ q ∈ m, q.b < w.heap.size := by
  intro q hq
  obtain ⟨g, hg⟩ := List.mem_iff_getElem?.1 hq
  obtain ⟨blk, vs, cur, e', _, _, _, _, _, _, _, g6, _⟩ := h.block hg
  exact (Array.getElem?_eq_some_iff.1 g6).1

/-- a new block that may grow, filled with pairs -/
theorem Rel.newGrow (h : Rel S X yv w m (A ++ (B ++ cellPairs hp hv)) hp hv) (xs : List AV) (vs : List Value) (hA : A = xs.zip vs) (hxl : xs.length = vs.length) {e : TypeId} {cur : Array Value}
    (h1 : ∀ v ∈ vs, v.oneCell' = true) (hb : Below w.heap.size w w') (hcur : w'.heap[w.heap.size]? = some (.cells cur e (0, 0))) (ht : cur.toList.take vs.length = vs) (hle : vs.length ≤ cur.size) :
    Rel S X yv w' (m ++ [⟨w.heap.size, xs.length, true, 0⟩]) (B ++ cellPairs (hp ++ [⟨xs, false, true, 0⟩]) (hv ++ [vs])) (hp ++ [⟨xs, false, true, 0⟩]) (hv ++ [vs]) := by
  have h0 := h.below (S' := S) hb (fun _ _ h => h) (fun _ _ h => .inl h)
  have hmlt := h.mLt
  have hownlt := h.ownLt
  have hperm : (A ++ (B ++ cellPairs hp hv)).Perm (B ++ cellPairs (hp ++ [⟨xs, false, true, 0⟩]) (hv ++ [vs])) := by
    rw [cellPairs_push h.hl, ← List.append_assoc B, hA]
    exact List.perm_append_comm
  have h2 := h0.perm hperm
  refine ⟨h2.lt, fun p hp => (h2.rv p hp).blocks (MStep.push _ _), h2.pw, ?_, h2.sp, ?_, by simp [h.ml], by simp [h.hl], ?_, h2.gl⟩
  · intro p hp b hbo x hx
    rcases List.mem_append.1 hx with hx | hx
    · exact h2.nm p hp b hbo x hx
    · simp only [List.mem_singleton] at hx; subst hx
      have := hownlt p (hperm.mem_iff.2 hp) b hbo
      simp only; omega
  · rw [List.map_append, List.nodup_append]
    refine ⟨h.mnd, by simp, fun a ha b hb' => ?_⟩
    simp only [List.map_cons, List.map_nil, List.mem_singleton] at hb'
    subst hb'
    obtain ⟨q, hq, rfl⟩ := List.mem_map.1 ha
    have := hmlt q hq
    omega
  · intro g blk p vs' g1 g2 g3
    by_cases hg : g < hp.length
    · rw [List.getElem?_append_left hg] at g1
      rw [List.getElem?_append_left (by rw [h.ml]; exact hg)] at g2
      rw [List.getElem?_append_left (by rw [h.hl]; exact hg)] at g3
      exact h2.bl g blk p vs' g1 g2 g3
    · obtain rfl : g = hp.length := by
        have := (List.getElem?_eq_some_iff.1 g1).1
        simp at this; omega
      rw [List.getElem?_append_right (Nat.le_refl _)] at g1
      rw [List.getElem?_append_right (by rw [h.ml]; exact Nat.le_refl _)] at g2
      rw [List.getElem?_append_right (by rw [h.hl]; exact Nat.le_refl _)] at g3
      simp [h.ml, h.hl] at g1 g2 g3
      subst g1; subst g2; subst g3
      refine ⟨rfl, rfl, rfl, hxl.symm, h1, ⟨cur, e, hcur, by simpa [hxl] using ht, by simpa [hxl] using hle⟩, fun _ i => ⟨fun hs => ?_, fun hx => ?_⟩, fun hf => by cases hf⟩
      · have := h.lt _ _ (.inl hs); simp at this
      · have := h.lt _ _ (.inr hx); simp at this

theorem nodup_set {α : Type} : ∀ {l : List α} {g : Nat} {x : α}, l.Nodup → x ∉ l → (l.set g x).Nodup
  | [], _, _, _, _ => by simp
  | a :: l, 0, x, h, hx => by
    rw [List.set_cons_zero]
    exact List.nodup_cons.2 ⟨fun hh => hx (List.mem_cons_of_mem _ hh), (List.nodup_cons.1 h).2⟩
  | a :: l, g + 1, x, h, hx => by
    rw [List.set_cons_succ]
    refine List.nodup_cons.2 ⟨fun hh => ?_, nodup_set (List.nodup_cons.1 h).2 fun hh => hx (List.mem_cons_of_mem _ hh)⟩
    rcases List.mem_or_eq_of_mem_set hh with hh | rfl
    · exact (List.nodup_cons.1 h).1 hh
    · exact hx (List.mem_cons_self ..)

/-- a block has grown -/
theorem Rel.regrow (h : Rel S X yv w m (A ++ (B ++ cellPairs hp hv)) hp hv) {xs : List AV} {us : List Value} (hA : A = xs.zip us) (hl : xs.length = us.length) (h1 : ∀ u ∈ us, u.oneCell' = true)
    {g : Nat} {blk : Blk} {p : MB} {vs : List Value} (hg : hp[g]? = some blk) (hm : m[g]? = some p) (hvs : hv[g]? = some vs) (hf : blk.fro = false) (hgr : blk.grow = true)
    {b' : Nat} {cur' : Array Value} {e' : TypeId} (hag : Agree (fun b i => S b i ∨ X b i) none w w') (hb' : b' = p.b ∨ w.heap.size ≤ b') (hcur' : w'.heap[b']? = some (.cells cur' e' (0, 0)))
    (ht : cur'.toList.take (p.len + us.length) = vs ++ us) (hle : p.len + us.length ≤ cur'.size) (hoth : ∀ q ∈ m, q.b ≠ p.b → w'.heap[q.b]? = w.heap[q.b]?) :
    Rel S X yv w' (m.set g ⟨b', p.len + us.length, true, p.ver + 1⟩) (B ++ cellPairs (hp.set g ⟨blk.cells ++ xs, false, true, blk.ver + 1⟩) (hv.set g (vs ++ us))) (hp.set g ⟨blk.cells ++ xs, false, true, blk.ver + 1⟩) (hv.set g (vs ++ us)) ∧
    MStep m (m.set g ⟨b', p.len + us.length, true, p.ver + 1⟩) := by
  obtain ⟨a1, a2, a3, a4, a5, ⟨cur, e, a6, a7, a8⟩, a9, a10⟩ := h.bl g blk p vs hg hm hvs
  have hmlt := h.mLt
  have hgl := (List.getElem?_eq_some_iff.1 hg).1
  have hml := (List.getElem?_eq_some_iff.1 hm).1
  have hvl := (List.getElem?_eq_some_iff.1 hvs).1
  have hpg : p.grow = true := a2.trans hgr
  have hms : MStep m (m.set g ⟨b', p.len + us.length, true, p.ver + 1⟩) := by
    intro g' q hq
    by_cases hgg : g' = g
    · subst hgg
      rw [hm] at hq; cases hq
      exact .inr ⟨hpg, _, by rw [List.getElem?_set_self hml], rfl, by simp⟩
    · exact .inl (by rw [List.getElem?_set_ne (Ne.symm hgg)]; exact hq)
  refine ⟨?_, hms⟩
  obtain ⟨pre, post, hc1, hc2⟩ := cellPairs_split (hp := hp) (hv := hv) hg hvs
  have hnew := hc2 ⟨blk.cells ++ xs, false, true, blk.ver + 1⟩ (vs ++ us)
  have hlt' : vs.length = blk.cells.length := by omega
  simp only [List.zip_append hlt'.symm] at hnew
  have hperm : (A ++ (B ++ cellPairs hp hv)).Perm (B ++ cellPairs (hp.set g ⟨blk.cells ++ xs, false, true, blk.ver + 1⟩) (hv.set g (vs ++ us))) := by
    rw [hnew, hc1, hA]
    refine (List.perm_append_comm_assoc _ _ _).trans (List.Perm.append_left B ?_)
    simp only [List.append_assoc]
    refine (List.perm_append_comm_assoc _ _ _).trans (List.Perm.append_left pre ?_)
    exact (List.perm_append_comm_assoc _ _ _)
  have h2 := h.perm hperm
  have hAg : Agree S yv w w' := (hag.mono (fun _ _ h => .inl h)).weaken
  have hnS := fun i => (a9 hf i).1
  have hnX := fun i => (a9 hf i).2
  have hsz := hag.size
  refine ⟨fun b i hbi => Nat.lt_of_lt_of_le (h.lt b i hbi) hsz, fun q hq => ((h2.rv q hq).ext (fun _ _ h => h) hAg).blocks hms, h2.pw, ?_, h2.sp, ?_, by simp [h.ml], by simp [h.hl], ?_, h.gl.ext (fun _ _ h => h) hAg⟩
  · intro q hq b hbo x hx
    rcases List.mem_or_eq_of_mem_set hx with hx | rfl
    · exact h2.nm q hq b hbo x hx
    · rcases hb' with rfl | hb'
      · exact h2.nm q hq b hbo p (List.mem_of_getElem? hm)
      · have := h2.ownLt q hq b hbo
        simp only; omega
  · rw [List.map_set]
    rcases hb' with rfl | hb'
    · have : (m.map (·.b)).set g p.b = m.map (·.b) := by
        apply List.ext_getElem?
        intro j
        by_cases hj : j = g
        · subst hj; rw [List.getElem?_set_self (by simpa using hml)]; simp [hm]
        · rw [List.getElem?_set_ne (Ne.symm hj)]
      rw [this]; exact h.mnd
    · have hnd := h.mnd
      have hlt : ∀ x ∈ m.map (·.b), x < w.heap.size := by
        intro x hx
        obtain ⟨q, hq, rfl⟩ := List.mem_map.1 hx
        exact hmlt q hq
      exact nodup_set hnd fun hx => by have := hlt _ hx; simp only at this; omega
  · intro g' blk' p' vs' e1 e2 e3
    by_cases hgg : g' = g
    · subst hgg
      rw [List.getElem?_set_self hgl] at e1
      rw [List.getElem?_set_self hml] at e2
      rw [List.getElem?_set_self hvl] at e3
      cases e1; cases e2; cases e3
      refine ⟨by simp only [List.length_append]; omega, rfl, by simp only; omega, by simp only [List.length_append]; omega, ?_, ⟨cur', e', hcur', ht, hle⟩, fun _ i => ?_, fun hc => by cases hc⟩
      · intro v hv'
        rcases List.mem_append.1 hv' with hv' | hv'
        · exact a5 v hv'
        · exact h1 v hv'
      · rcases hb' with rfl | hb'
        · exact ⟨hnS i, hnX i⟩
        · exact ⟨fun hs => by have := h.lt _ _ (.inl hs); simp only at this; omega, fun hx => by have := h.lt _ _ (.inr hx); simp only at this; omega⟩
    · rw [List.getElem?_set_ne (Ne.symm hgg)] at e1 e2 e3
      obtain ⟨b1, b2, b3, b4, b5, ⟨cur2, e2', b6, b7, b8⟩, b9, b10⟩ := h.bl g' blk' p' vs' e1 e2 e3
      have hne : p'.b ≠ p.b := MB_ne h.mnd e2 hm hgg
      exact ⟨b1, b2, b3, b4, b5, ⟨cur2, e2', by rw [hoth p' (List.mem_of_getElem? e2) hne]; exact b6, b7, b8⟩, b9, b10⟩
end
end Go.Proofs.YtfeemohdpmdaoaaDoor.Am

/- Blocks that grow: append, make. -/
namespace Go.Proofs.YtfeemohdpmdaoaaDoor.Am
set_option linter.unusedVariables false
open Go Go.RowKit

/-- the cells of rows -/
def flatA (xs : List (List Dv)) : List AV := xs.flatten.map .d
theorem flatA_append (xs ys : List (List Dv)) : flatA (xs ++ ys) = flatA xs ++ flatA ys := by simp [flatA]
theorem flatA_cons (r : List Dv) (xs : List (List Dv)) : flatA (r :: xs) = r.map .d ++ flatA xs := by simp [flatA]

section
variable {P : Program} {S S' X : Pr} {yv : Option Nat} {w w' : World} {m : List MB} {A B : List (AV × Value)} {hp hp' : List Blk} {hv : List (List Value)}

theorem Flat.pairs {k : Nat} : ∀ {xs : List (List Dv)} {us : List Value}, Flat S w k xs us → (flatA xs).length = us.length ∧ ∀ p ∈ (flatA xs).zip us, ∃ c, p.1 = .d c ∧ DR S w c p.2
  | [], us, h => by
    have := h.len
    simp only [List.length_nil, Nat.zero_mul, List.length_eq_zero_iff] at this
    subst this
    exact ⟨rfl, fun p hp => by simp [flatA] at hp⟩
  | r :: xs, us, h => by
    have hr : r.length = k := h.row 0 r rfl
    have hl : us.length = (xs.length + 1) * k := h.len
    rw [Nat.add_mul, Nat.one_mul] at hl
    have h2 : Flat S w k xs (us.drop k) := by
      refine ⟨by simp; omega, fun i r hr => h.row (i + 1) r (by simpa using hr), fun i r j c v e1 e2 e3 => ?_, fun v hv => h.one v (List.mem_of_mem_drop hv)⟩
      rw [List.getElem?_drop] at e3
      refine h.rd (i + 1) r j c v (by simpa using e1) e2 ?_
      rw [← e3]; congr 1; rw [Nat.add_mul, Nat.one_mul]; omega
    obtain ⟨g1, g2⟩ := h2.pairs
    rw [flatA_cons]
    refine ⟨by simp [g1, hr]; omega, fun p hp => ?_⟩
    rw [← List.take_append_drop k us, List.zip_append (by simp [hr]; omega)] at hp
    rcases List.mem_append.1 hp with hp | hp
    · obtain ⟨j, hj⟩ := List.mem_iff_getElem?.1 hp
      rw [List.getElem?_zip_eq_some] at hj
      obtain ⟨h3, h4⟩ := hj
      simp only [List.getElem?_map, Option.map_eq_some_iff] at h3
      obtain ⟨c, h3, h5⟩ := h3
      have hjk : j < k := hr ▸ (List.getElem?_eq_some_iff.1 h3).1
      rw [List.getElem?_take_of_lt hjk] at h4
      exact ⟨c, h5.symm, h.rd 0 r j c p.2 rfl h3 (by simpa using h4)⟩
    · exact g2 p hp
theorem Flat.rvs {k : Nat} {xs : List (List Dv)} {us : List Value} (h : Flat S w k xs us) : ∀ p ∈ (flatA xs).zip us, RV S w m yv p.1 p.2 ∧ ownB p = none := by
  intro p hp
  obtain ⟨c, e, hd⟩ := h.pairs.2 p hp
  obtain ⟨x, v⟩ := p
  simp only at e hd
  subst e
  exact ⟨.d hd, rfl⟩

theorem agree_heap (hb : Below w.heap.size w w') {b : Nat} (h : b < w.heap.size) : w'.heap[b]? = w.heap[b]? := hb.block b h

/-- an append in place, whatever the block's own element type -/
theorem run_append_room' {t ty e e' : TypeId} {i : TypeInfo} (ht : P.underlying t = some (.slice e)) (hi : P.info? e = some i)
    (g sLen sCap : Nat) (cur : Array Value) (hg : w.heap[g]? = some (.cells cur e' (0, 0)))
    (a : Addr) (m c : Nat) (news : List Value) (hl : news.length = m * i.size) (hnews : ∀ (j : Nat) (u : Value), news[j]? = some u → w.cell? (a.add j) = some u) (h1 : ∀ u ∈ news, u.oneCell' = true)
    (hroom : sLen + m ≤ sCap) (hfit : sLen * i.size + news.length ≤ cur.size) :
    (Builtin.append_ #[t, t] ty #[.slice (some ⟨g, 0, none⟩) sLen sCap, .slice (some a) m c]).run P w =
      .ok (.slice (some ⟨g, 0, none⟩) (sLen + m) sCap) (w.setRow g (cur.toList.take (sLen * i.size) ++ news ++ cur.toList.drop (sLen * i.size + news.length)).toArray) := by
  have hf := run_firstCells_some (P := P) w i.size m a m c news hl hnews
  have hst := run_storeCells_at P g (sLen * i.size) e' news 0 cur w hg (by simpa using hfit) h1
  simp only [Nat.add_zero] at hst
  simp [Builtin.append_, run_underlying ht, sizeOf, typeInfo, hi, Builtin.lenOf, hroom, hf, Addr.add_lit, hst]

/-- an append to a block that may grow -/
theorem appendG_run {t e : TypeId} {i : TypeInfo} {ty : TypeId} {z : Value} (ht : P.underlying t = some (.slice e)) (hi : P.info? e = some i) (hz : i.zero = some z) (hzs : z.cells.size = i.size) (hby : 0 < i.bytes)
    {g ver n : Nat} {blk : Blk} {ys : List (List Dv)} {v u : Value} (h : Rel S X yv w m (B ++ cellPairs hp hv) hp hv) (hr : RV S w m yv (.gref g ver n i.size) v) (hu : DR S w (.sl i.size ys) u)
    (hg : hp[g]? = some blk) (hgr : blk.grow = true) (hver : blk.ver = ver) (hf : blk.fro = false) (hfit : (n + ys.length) * i.bytes ≤ 140737488355328) :
    ∃ v' w' m' hv', (Builtin.append_ #[t, t] ty #[v, u]).run P w = .ok v' w' ∧ Gs S X none w m S w' m' ∧
      Rel S X yv w' m' ((.gref g (ver + 1) (n + ys.length) i.size, v') :: (B ++ cellPairs (hp.set g ⟨blk.cells ++ flatA ys, false, true, ver + 1⟩) hv')) (hp.set g ⟨blk.cells ++ flatA ys, false, true, ver + 1⟩) hv' := by
  obtain ⟨ub, uc, news, rfl, huc, hfl, hucell, hunil⟩ := hu.flat
  cases hr with
  | gref hm hv0 h1 hcur =>
    rename_i b len ver'
    obtain ⟨blk0, vs, cur0, e0, g1, g2, g3, g4, g5, g6, g7, g8, g9, g10, g11, _⟩ := h.block hm
    rw [hg] at g1; cases g1
    simp only at g3 g4 g5 g6 g8 g9 g10
    obtain ⟨hlen, cap, rfl, hcap, hcm, cur, e', hcur', hsz⟩ := hcur (by omega)
    have e8 : cur = cur0 ∧ e' = e0 := by rw [hcur'] at g8; cases g8; exact ⟨rfl, rfl⟩
    obtain ⟨rfl, rfl⟩ := e8
    have h63 : n + ys.length ≤ 140737488355328 := Nat.le_trans (Nat.le_mul_of_pos_right _ hby) hfit
    have hml : (140737488355328 : Nat) ≤ maxLen := by decide
    have hone : ∀ x ∈ news, x.oneCell' = true := hfl.one
    have hA := h.pushAll ((flatA ys).zip news) hfl.rvs
    have hpl := hfl.pairs.1
    have hnl := hfl.len
    have hgl := (List.getElem?_eq_some_iff.1 hg).1
    have hml' := (List.getElem?_eq_some_iff.1 hm).1
    have finish : ∀ (w' : World) (b' cap' : Nat) (cur2 : Array Value) (e2 : TypeId), Agree (fun b i => S b i ∨ X b i) none w w' → (b' = b ∨ w.heap.size ≤ b') → w'.heap[b']? = some (.cells cur2 e2 (0, 0)) →
        cur2.toList.take (len + news.length) = vs ++ news → cur2.size = cap' * i.size → n + ys.length ≤ cap' → cap' ≤ maxLen → (∀ q ∈ m, q.b ≠ b → w'.heap[q.b]? = w.heap[q.b]?) →
        (Builtin.append_ #[t, t] ty #[.slice (some ⟨b, 0, none⟩) n cap, .slice ub ys.length uc]).run P w = .ok (.slice (some ⟨b', 0, none⟩) (n + ys.length) cap') w' →
        ∃ v' w' m' hv', (Builtin.append_ #[t, t] ty #[.slice (some ⟨b, 0, none⟩) n cap, .slice ub ys.length uc]).run P w = .ok v' w' ∧ Gs S X none w m S w' m' ∧
          Rel S X yv w' m' ((.gref g (ver + 1) (n + ys.length) i.size, v') :: (B ++ cellPairs (hp.set g ⟨blk.cells ++ flatA ys, false, true, ver + 1⟩) hv')) (hp.set g ⟨blk.cells ++ flatA ys, false, true, ver + 1⟩) hv' := by
      intro w' b' cap' cur2 e2 hag hb' hc2 ht2 hs2 hcc hcc2 hoth hrun
      have hle2 : len + news.length ≤ cur2.size := by
        rw [hs2, hlen, hnl, ← Nat.add_mul]; exact Nat.mul_le_mul_right _ hcc
      obtain ⟨hR, hMS⟩ := hA.regrow (p := ⟨b, len, true, ver'⟩) rfl hpl hone hg hm g2 hf hgr hag hb' hc2 ht2 hle2 hoth
      rw [hver] at hR
      refine ⟨_, w', _, _, hrun, ⟨hag, fun _ _ h => h, fun _ _ h => .inl h, hMS⟩, hR.cons (.gref (b := b') (len := len + news.length) (ver' := ver' + 1) (by rw [List.getElem?_set_self hml']) (by omega) rfl fun _ => ?_) rfl⟩
      exact ⟨by rw [hlen, hnl, Nat.add_mul], cap', rfl, hcc, hcc2, cur2, e2, hc2, hs2⟩
    -- the element type of the block
    by_cases hy : ys = []
    · subst hy
      have hn0 : news = [] := by simpa using hnl
      subst hn0
      have hrun := run_append_zero (P := P) w t e i ty ht hi (some ⟨b, 0, none⟩) ub n cap uc hcap
      exact finish w b cap _ _ (Agree.refl _ _ _) (.inl rfl) hcur' (by simpa using g9) hsz (by simpa using hcap) hcm (fun _ _ _ => rfl) (by simpa using hrun)
    · have hyl : 0 < ys.length := List.length_pos_iff.2 hy
      obtain ⟨ua, rfl⟩ : ∃ ua, ub = some ua := by
        cases ub with
        | none => exact absurd (hunil rfl).1 hy
        | some ua => exact ⟨ua, rfl⟩
      have hnews : ∀ (j : Nat) (x : Value), news[j]? = some x → w.cell? (ua.add j) = some x := fun j x hx => ((hucell ua rfl).1 j x hx).1
      by_cases hroom : n + ys.length ≤ cap
      · have hfitc : n * i.size + news.length ≤ cur.size := by rw [hnl, hsz, ← Nat.add_mul]; exact Nat.mul_le_mul_right _ hroom
        have hrun := run_append_room' (P := P) (ty := ty) ht hi b n cap cur hcur' ua ys.length uc news hnl hnews hone hroom hfitc
        have hagr := agree_setRow (X := fun b i => S b i ∨ X b i) (yv := none) (cs := (cur.toList.take (n * i.size) ++ news ++ cur.toList.drop (n * i.size + news.length)).toArray) hcur' (by
          have := set_take_drop cur.toList news (n * i.size) (by simpa using hfitc)
          simpa using this) (fun j hj => hj.elim (fun hs => (g11 hf j).1 hs) fun hx => (g11 hf j).2 hx)
        refine finish _ b cap _ e' hagr (.inl rfl) (setRow_heap w b cur _ e' (0, 0) hcur') ?_ ?_ hroom hcm (fun q _ hq => setRow_other _ _ _ _ hq) hrun
        · rw [← hlen]
          have := take_splice cur.toList news len (len + news.length) (Nat.le_refl _) (by rw [hlen]; simpa using hfitc)
          simp only [List.toList_toArray]
          rw [this]
          have e1 : (cur.toList.take (len + news.length)).take len = vs := by rw [List.take_take, Nat.min_eq_left (by omega)]; exact g9
          rw [e1, List.drop_eq_nil_of_le (by simp; omega), List.append_nil]
        · have := set_take_drop cur.toList news (n * i.size) (by simpa using hfitc)
          rw [← hsz]; simpa using this
      · have hus : ∀ (j : Nat) (x : Value), vs[j]? = some x → w.cell? ((⟨b, 0, none⟩ : Addr).add j) = some x := by
          intro j x hx
          rw [add_lit]
          have hj : j < len := by rw [← g6]; exact (List.getElem?_eq_some_iff.1 hx).1
          have h2 : cur.toList[j]? = some x := by
            rw [← g9, List.getElem?_take_of_lt hj] at hx; exact hx
          simp only [World.cell?, hcur', Option.isSome_none, Bool.false_eq_true, if_false, Nat.zero_add]
          simpa using h2
        have hrun := run_append_grow (P := P) w t ty e i z ht hi hz ⟨b, 0, none⟩ n cap vs (by rw [g6, hlen]) hus ua ys.length uc news hnl hnews (by omega) (by omega) (growslice_fits (by omega) hfit)
        have hge := grownCap_ge w (n + ys.length) cap e
        have hcm2 := grownCap_le_maxLen w (n + ys.length) cap e (by omega)
        have hbel : Below w.heap.size w (w.drew.alloc (.cells (vs.toArray ++ news.toArray ++ Builtin.zeroCells z.cells (grownCap w (n + ys.length) cap e - (n + ys.length))) e)) := ((Below.refl _ _).drew).alloc (Nat.le_refl _) _
        refine finish _ w.heap.size _ _ e (agree_of_below hbel _) (.inr (Nat.le_refl _)) (heap_alloc_new w.drew _) ?_ ?_ hge hcm2 (fun q hq _ => hbel.block _ (h.mLt q hq)) hrun
        · rw [← g6]
          simp only [List.append_toArray, Array.toList_append, List.append_assoc]
          rw [← List.append_assoc, List.take_append_of_le_length (by simp), List.take_of_length_le (by simp)]
        · simp [size_zeroCells, hzs, g6, hlen, hnl, ← Nat.add_mul]; congr 1; omega
end
end Go.Proofs.YtfeemohdpmdaoaaDoor.Am

/- Blocks that turn no more: what leans on them is data, told by a relation. -/
namespace Go.Proofs.YtfeemohdpmdaoaaDoor.Am
set_option linter.unusedVariables false
open Go Go.RowKit

mutual
/-- the blocks that a value leans on -/
def occ : AV → List Nat
  | .ref g .. | .ptr g _ | .gref g .. | .gptr g .. => [g]
  | .agg cs => occs cs
  | .tup cs => occs cs
  | .fn _ a b => occs a ++ occs b
  | _ => []
def occs : List AV → List Nat
  | [] => []
  | x :: l => occ x ++ occs l
end
theorem occs_get : ∀ {cs : List AV} {i : Nat} {c : AV}, cs[i]? = some c → ∀ g ∈ occ c, g ∈ occs cs
  | x :: l, 0, c, h, g, hg => by simp at h; subst h; exact List.mem_append_left _ hg
  | x :: l, i + 1, c, h, g, hg => List.mem_append_right _ (occs_get (by simpa using h) g hg)

/-- as data -/
inductive SealR (hp : List Blk) : AV → AV → Prop
  | v {x y : AV} (h : sealV hp x = some y) : SealR hp x y
  | gref {g ver n k : Nat} {blk : Blk} {xs : List (List Dv)} (hg : hp[g]? = some blk) (hgr : blk.grow = true) (hv : blk.ver = ver) (hc : blk.cells = flatA xs) (hn : xs.length = n) (hk : ∀ r ∈ xs, r.length = k) : SealR hp (.gref g ver n k) (.d (.sl k xs))
  | agg {cs ys : List AV} (hl : cs.length = ys.length) (h : ∀ (i : Nat) (c y : AV), cs[i]? = some c → ys[i]? = some y → SealR hp c y) : SealR hp (.agg cs) (.agg ys)
  | tup {cs ys : List AV} (hl : cs.length = ys.length) (h : ∀ (i : Nat) (c y : AV), cs[i]? = some c → ys[i]? = some y → SealR hp c y) : SealR hp (.tup cs) (.tup ys)
  | fn {f : Go.Fn} {a b a' b' : List AV} (hl : a.length = a'.length) (hl' : b.length = b'.length) (h : ∀ (i : Nat) (c y : AV), a[i]? = some c → a'[i]? = some y → SealR hp c y) (h' : ∀ (i : Nat) (c y : AV), b[i]? = some c → b'[i]? = some y → SealR hp c y) : SealR hp (.fn f a b) (.fn f a' b')

section
variable {P : Program} {S S' T X V Z : Pr} {L : Nat → Prop} {yv : Option Nat} {w w' : World} {m m' : List MB} {A B : List (AV × Value)} {hp hp' : List Blk} {hv hv' : List (List Value)} {o : Oper} {ops : Array Oper}

theorem DR.to (hS : ∀ b i, S b i → T b i) {x : Dv} {v : Value} (h : DR S w x v) : DR T w x v := h.ext hS (fun _ _ _ _ h => h)

/-- rows, read flat, out of cells -/
theorem flat_of_pairs {k : Nat} : ∀ {xs : List (List Dv)} {us : List Value}, (∀ r ∈ xs, r.length = k) → us.length = (flatA xs).length → (∀ (i : Nat) (c : AV) (v : Value), (flatA xs)[i]? = some c → us[i]? = some v → RV S w m yv c v) → (∀ u ∈ us, u.oneCell' = true) → Flat S w k xs us := by
  intro xs us hk hl hrv h1
  have hlen : ∀ (xs : List (List Dv)), (∀ r ∈ xs, r.length = k) → (flatA xs).length = xs.length * k := by
    intro xs
    induction xs with
    | nil => intro _; simp [flatA]
    | cons r xs ih =>
      intro h
      rw [flatA_cons, List.length_append, ih fun r hr => h r (List.mem_cons_of_mem _ hr), List.length_map, h r (List.mem_cons_self ..), List.length_cons, Nat.add_mul]; omega
  have hget : ∀ (xs : List (List Dv)), (∀ r ∈ xs, r.length = k) → ∀ (i : Nat) (r : List Dv) (j : Nat) (c : Dv), xs[i]? = some r → r[j]? = some c → (flatA xs)[i * k + j]? = some (.d c) := by
    intro xs
    induction xs with
    | nil => intro _ i r j c h; simp at h
    | cons r0 xs ih =>
      intro hk i r j c h1 h2
      rw [flatA_cons]
      have hr0 := hk r0 (List.mem_cons_self ..)
      cases i with
      | zero =>
        simp at h1; subst h1
        have hj := (List.getElem?_eq_some_iff.1 h2).1
        rw [Nat.zero_mul, Nat.zero_add, List.getElem?_append_left (by simpa using hj)]; simp [h2]
      | succ i =>
        rw [List.getElem?_append_right (by simp [hr0, Nat.add_mul]; omega)]
        have := ih (fun r hr => hk r (List.mem_cons_of_mem _ hr)) i r j c (by simpa using h1) h2
        rw [← this]; congr 1; simp [hr0, Nat.add_mul]; omega
  refine ⟨by rw [hl, hlen xs hk], fun i r hr => hk r (List.mem_of_getElem? hr), fun i r j c v e1 e2 e3 => ?_, h1⟩
  have := hrv _ _ v (hget xs hk i r j c e1 e2) e3
  cases this with
  | d h => exact h

/-- what is sealed is read by all that read the blocks which it leans on -/
theorem sealR_sound (h : Rel S X yv w m (B ++ cellPairs hp hv) hp hv) (hST : ∀ b i, S b i → T b i) {x y : AV} (hs : SealR hp x y) : (∀ g ∈ occ x, ∀ p, m[g]? = some p → ∀ i, i < p.len → T p.b i) → ∀ {v : Value}, RV S w m yv x v → RV T w [] none y v := by
  induction hs with
  | v hy =>
    rename_i x y
    intro hT v hr
    revert hy y hT
    induction hr with
    | d h1 => intro y hy hT; simp only [sealV, Option.some.injEq] at hy; subst hy; exact .d (h1.to hST)
    | agg hl h1 ih =>
      rename_i cs vs
      intro y hy hT
      simp only [sealV, Option.map_eq_some_iff] at hy
      obtain ⟨ys, h2, rfl⟩ := hy
      obtain ⟨h3, h4⟩ := sealVs_spec h2
      refine .agg (h3.trans hl) fun i c v hc hv => ?_
      have hi : i < ys.length := (List.getElem?_eq_some_iff.1 hc).1
      have hci : cs[i]? = some (cs[i]'(by omega)) := List.getElem?_eq_getElem _
      obtain ⟨y, h5, h6⟩ := h4 i _ hci
      rw [hc] at h5; cases h5
      exact ih i _ v hci hv h6 fun g hg => hT g (by simp only [occ]; exact occs_get hci g hg)
    | tup hl h1 ih =>
      rename_i cs vs
      intro y hy hT
      simp only [sealV, Option.map_eq_some_iff] at hy
      obtain ⟨ys, h2, rfl⟩ := hy
      obtain ⟨h3, h4⟩ := sealVs_spec h2
      refine .tup (h3.trans hl) fun i c v hc hv => ?_
      have hi : i < ys.length := (List.getElem?_eq_some_iff.1 hc).1
      have hci : cs[i]? = some (cs[i]'(by omega)) := List.getElem?_eq_getElem _
      obtain ⟨y, h5, h6⟩ := h4 i _ hci
      rw [hc] at h5; cases h5
      exact ih i _ v hci hv h6 fun g hg => hT g (by simp only [occ]; exact occs_get hci g hg)
    | own h1 h2 => intro y hy hT; simp only [sealV, Option.some.injEq] at hy; subst hy; exact .d (h1.to hST)
    | ownNil => intro y hy hT; simp only [sealV, Option.some.injEq] at hy; subst hy; exact .d (.nil _)
    | full h1 => intro y hy hT; simp only [sealV, Option.some.injEq] at hy; subst hy; exact .full (h1.to hST)
    | rptr vals hne hsp hs hc hr h1 =>
      intro y hy hT; simp only [sealV, Option.some.injEq] at hy; subst hy
      exact .rptr vals hne hsp (fun j c h => hST _ _ (hs j c h)) hc (fun j c h => (hr j c h).to hST) h1
    | ref hm hfit hn =>
      rename_i g off n cap k b len ver
      intro y hy hT
      have hT' := hT g (by simp [occ]) _ hm
      simp only [sealV] at hy
      split at hy <;> try (cases hy; done)
      rename_i blk hb
      split at hy <;> try (cases hy; done)
      simp only [Option.map_eq_some_iff] at hy
      obtain ⟨xs, h1, rfl⟩ := hy
      obtain ⟨us, h2, h3, h4⟩ := h.cellsOf (off := off) hm hb
      obtain ⟨blk', vs, cur, e, g1, g2, g3, _⟩ := h.block hm
      rw [hb] at g1; cases g1
      simp only at g3
      have hnk : n * k ≤ cap * k := Nat.mul_le_mul_right k hn
      have hul : (us.take (n * k)).length = n * k := by
        have := h2.1
        simp at this ⊢; omega
      obtain ⟨h5, h6⟩ := chunk_spec h1 (h2.take (n * k)) hul (fun u hu => h4 u (List.mem_of_mem_take hu))
      have h7 : Flat T w k xs (us.take (n * k)) := h6.ext hST (fun _ _ _ _ h => h)
      subst h5
      refine .d (DR.ofFlat (a := ⟨b, off, none⟩) h7 (fun j u hu => ?_) hn (.inl rfl))
      rw [List.getElem?_take] at hu
      split at hu <;> try (cases hu; done)
      obtain ⟨h8, h9⟩ := h3 j u hu
      exact ⟨h8, hT' _ h9⟩
    | ptr hm =>
      rename_i g off b len ver
      intro y hy hT
      have hT' := hT g (by simp [occ]) _ hm
      simp only [sealV] at hy
      split at hy <;> try (cases hy; done)
      rename_i blk hb
      split at hy <;> try (cases hy; done)
      split at hy <;> try (cases hy; done)
      rename_i d ds h1
      cases hy
      obtain ⟨us, h2, h3, h4⟩ := h.cellsOf (off := off) hm hb
      obtain ⟨h5, h6⟩ := toDs_spec h1
      have hget : ∀ (j : Nat) (x : Dv), (d :: ds)[j]? = some x → us[j]? = some (us.getD j default) := by
        intro j x hx
        have : j < us.length := by rw [← h2.1, ← h5]; exact (List.getElem?_eq_some_iff.1 hx).1
        simp [List.getD, this]
      refine .rptr (fun j => us.getD j default) (by simp) rfl (fun j x hx => hT' _ (h3 j _ (hget j x hx)).2) (fun j x hx => (h3 j _ (hget j x hx)).1) (fun j x hx => ?_) (fun j x hx => h4 _ (List.mem_of_getElem? (hget j x hx)))
      have hj : j < (blk.cells.drop off).length := by rw [← h5]; exact (List.getElem?_eq_some_iff.1 hx).1
      have hc : (blk.cells.drop off)[j]? = some (blk.cells.drop off)[j] := List.getElem?_eq_getElem hj
      exact (toD?_spec (h6 j _ x hc hx) (h2.2 j _ _ hc (hget j x hx))).to hST
    | gref => intro y hy hT; simp [sealV] at hy
    | gptr => intro y hy hT; simp [sealV] at hy
    | fn hf hl hl' h1 h1' ih ih' =>
      rename_i f0 fa fb fs cs
      intro y hy hT
      simp only [sealV] at hy
      split at hy <;> try (cases hy; done)
      rename_i ya yb h2 h2'
      cases hy
      obtain ⟨h3, h4⟩ := sealVs_spec h2
      obtain ⟨h3', h4'⟩ := sealVs_spec h2'
      refine .fn hf (h3.trans hl) (h3'.trans hl') (fun i c v hc hv => ?_) (fun i c v hc hv => ?_)
      · have hi := (List.getElem?_eq_some_iff.1 hc).1
        have hci : fa[i]? = some (fa[i]'(by omega)) := List.getElem?_eq_getElem _
        obtain ⟨y, h5, h6⟩ := h4 i _ hci
        rw [hc] at h5; cases h5
        exact ih i _ v hci hv h6 fun g hg => hT g (by simp only [occ]; exact List.mem_append_left _ (occs_get hci g hg))
      · have hi := (List.getElem?_eq_some_iff.1 hc).1
        have hci : fb[i]? = some (fb[i]'(by omega)) := List.getElem?_eq_getElem _
        obtain ⟨y, h5, h6⟩ := h4' i _ hci
        rw [hc] at h5; cases h5
        exact ih' i _ v hci hv h6 fun g hg => hT g (by simp only [occ]; exact List.mem_append_right _ (occs_get hci g hg))
    | yl => intro y hy hT; simp [sealV] at hy
    | bad => intro y hy hT; simp only [sealV, Option.some.injEq] at hy; subst hy; exact .bad
  | gref hg hgr hver hc hn hk =>
    intro hT v hr
    cases hr with
    | gref hm hv0 h1 hcur =>
      rename_i g ver n k blk xs b len ver'
      have hT' := hT g (by simp [occ]) _ hm
      obtain ⟨us, h2, h3, h4⟩ := h.cellsOf (off := 0) hm hg
      obtain ⟨blk', vs, cur, e, g1, g2, g3, g4, g5, _⟩ := h.block hm
      rw [hg] at g1; cases g1
      simp only at g3 g5
      obtain ⟨hlen, cap, rfl, hcap, _⟩ := hcur (by omega)
      rw [List.drop_zero, hc] at h2
      have h7 := flat_of_pairs hk h2.1.symm h2.2 h4
      have h8 : Flat T w k xs us := h7.ext hST (fun _ _ _ _ h => h)
      subst hn
      refine .d (DR.ofFlat (a := ⟨b, 0, none⟩) h8 (fun j u hu => ?_) hcap (.inl rfl))
      obtain ⟨h9, h10⟩ := h3 j u hu
      exact ⟨h9, hT' _ h10⟩
  | agg hl h ih =>
    rename_i cs ys
    intro hT v hr
    cases hr with
    | agg hl' h' =>
      refine .agg (by omega) fun i c v hc hv => ?_
      have hci : cs[i]? = some (cs[i]'(by have := (List.getElem?_eq_some_iff.1 hc).1; omega)) := List.getElem?_eq_getElem _
      exact ih i _ c hci hc (fun g hg => hT g (by simp only [occ]; exact occs_get hci g hg)) (h' i _ v hci hv)
  | tup hl h ih =>
    rename_i cs ys
    intro hT v hr
    cases hr with
    | tup hl' h' =>
      refine .tup (by omega) fun i c v hc hv => ?_
      have hci : cs[i]? = some (cs[i]'(by have := (List.getElem?_eq_some_iff.1 hc).1; omega)) := List.getElem?_eq_getElem _
      exact ih i _ c hci hc (fun g hg => hT g (by simp only [occ]; exact occs_get hci g hg)) (h' i _ v hci hv)
  | fn hl hl' h h' ih ih' =>
    rename_i f0 fa fb fa' fb'
    intro hT v hr
    cases hr with
    | fn hf k1 k2 k3 k4 =>
      refine .fn hf (by omega) (by omega) (fun i c v hc hv => ?_) (fun i c v hc hv => ?_)
      · have hci : fa[i]? = some (fa[i]'(by have := (List.getElem?_eq_some_iff.1 hc).1; omega)) := List.getElem?_eq_getElem _
        exact ih i _ c hci hc (fun g hg => hT g (by simp only [occ]; exact List.mem_append_left _ (occs_get hci g hg))) (k3 i _ v hci hv)
      · have hci : fb[i]? = some (fb[i]'(by have := (List.getElem?_eq_some_iff.1 hc).1; omega)) := List.getElem?_eq_getElem _
        exact ih' i _ c hci hc (fun g hg => hT g (by simp only [occ]; exact List.mem_append_right _ (occs_get hci g hg))) (k4 i _ v hci hv)

/-- blocks turn no more -/
def frz (hp : List Blk) : List Nat → List Blk
  | [] => hp
  | g :: gs => frz (match hp[g]? with | some blk => hp.set g { blk with fro := true } | none => hp) gs
theorem frz_cells : ∀ (gs : List Nat) (hp : List Blk), (frz hp gs).map (·.cells) = hp.map (·.cells)
  | [], hp => rfl
  | g :: gs, hp => by
    simp only [frz]
    rw [frz_cells gs]
    split
    · rename_i blk hb
      rw [List.map_set]
      exact list_set_self (by simp [hb])
    · rfl
theorem cellPairs_cells : ∀ {hp hp' : List Blk} (hv : List (List Value)), hp'.map (·.cells) = hp.map (·.cells) → cellPairs hp' hv = cellPairs hp hv
  | [], [], _, _ => rfl
  | [], b :: hp', _, h => by simp at h
  | a :: hp, [], _, h => by simp at h
  | a :: hp, b :: hp', [], h => by simp [cellPairs]
  | a :: hp, b :: hp', v :: hv, h => by
    simp only [List.map_cons, List.cons.injEq] at h
    have := cellPairs_cells (hp := hp) (hp' := hp') hv h.2
    simp only [cellPairs, List.zip_cons_cons, List.flatMap_cons, h.1] at this ⊢
    rw [this]
theorem Rel.frzAll : ∀ (gs : List Nat) {hp : List Blk} {S : Pr}, Rel S X yv w m A hp hv →
    ∃ S' : Pr, (∀ b i, S b i → S' b i) ∧ (∀ b i, S' b i → S b i ∨ ¬ X b i) ∧ Rel S' X yv w m A (frz hp gs) hv ∧ ∀ g ∈ gs, ∀ p, m[g]? = some p → ∀ i, i < p.len → S' p.b i
  | [], hp, S, h => ⟨S, fun _ _ h => h, fun _ _ h => .inl h, h, fun g hg => by cases hg⟩
  | g :: gs, hp, S, h => by
    simp only [frz]
    cases hb : hp[g]? with
    | none =>
      obtain ⟨S', h1, h2, h3, h4⟩ := Rel.frzAll gs h
      refine ⟨S', h1, h2, h3, fun g' hg' p hp' => ?_⟩
      rcases List.mem_cons.1 hg' with rfl | hg'
      · have := (List.getElem?_eq_some_iff.1 hp').1
        have h5 : hp.length ≤ g' := List.getElem?_eq_none_iff.1 hb
        rw [h.ml] at this; omega
      · exact h4 g' hg' p hp'
    | some blk =>
      have hgl := (List.getElem?_eq_some_iff.1 hb).1
      have hm : m[g]? = some (m[g]'(by rw [h.ml]; exact hgl)) := List.getElem?_eq_getElem _
      generalize m[g]'(by rw [h.ml]; exact hgl) = p at hm
      have hvl : g < hv.length := by rw [h.hl]; exact hgl
      obtain ⟨a1, a2, a3, a4, a5, a6, a9, a10⟩ := h.bl g blk p hv[g] hb hm (by simp [hvl])
      have h0 := h.freeze hb hm
      obtain ⟨S', h1, h2, h3, h4⟩ := Rel.frzAll gs h0
      refine ⟨S', fun b i hs => h1 b i (.inl hs), fun b i hs => ?_, h3, fun g' hg' q hq i hi => ?_⟩
      · rcases h2 b i hs with (h5 | ⟨rfl, h5⟩) | h5
        · exact .inl h5
        · cases hf : blk.fro with
          | true => exact .inl (a10 hf i h5)
          | false => exact .inr (a9 hf i).2
        · exact .inr h5
      · rcases List.mem_cons.1 hg' with rfl | hg'
        · rw [hm] at hq; cases hq
          exact h1 _ _ (.inr ⟨rfl, hi⟩)
        · exact h4 g' hg' q hq i hi
/-- **A FUNCTION THAT TURNS NOTHING OF ITS CALLERS'** -/
theorem PCall.ofWS {f : Nat} {fn : Func} {c : Code} {args : List AV} {x : AV} (hf : P.funcs[f]? = some fn) (hb : fn.body = some c) (hn : (fn.name == "runtime.NumGoroutine") = false) (hargs : args.map AV.view = args)
    (hW : ∀ (Ev : Env P) (b : Ev.β), W Ev c ⟨startTm fn args, [], b⟩ (FnPost P fn fun y hp _ => SealR hp y x)) : PCall P f args x := by
  refine ⟨enter_ok hf hb hn, fun S w vs hl hvs hlt hgl => ?_⟩
  have hrel : Rel S (fun b _ => b < w.heap.size) none w [] (args.zip vs ++ ([] ++ cellPairs [] [])) [] [] := by
    have h0 : Rel S (fun b _ => b < w.heap.size) none w [] [] [] [] := ⟨fun b i h => h.elim (hlt b i) id, by simp, List.Pairwise.nil, by simp, by simp, by simp, rfl, rfl, by simp, hgl⟩
    have := h0.pushAll (args.zip vs) (fun p hp => by
      obtain ⟨j, hj⟩ := List.mem_iff_getElem?.1 hp
      rw [List.getElem?_zip_eq_some] at hj
      refine ⟨hvs j p.1 p.2 hj.1 hj.2, ?_⟩
      have hp1 : p.1.view = p.1 := by
        have h1 : (args.map AV.view)[j]? = some p.1.view := by simp [hj.1]
        rw [hargs, hj.1] at h1; exact (Option.some.inj h1).symm
      obtain ⟨p1, p2⟩ := p
      simp only at hp1
      rw [← hp1]; exact ownB_view _ _)
    simpa [cellPairs] using this
  refine calls_of_W (Ev := Env.none P none) (V := fun _ _ => False) (b := (() : Unit)) hf hb hl (hW (Env.none P _) (() : Unit)) hrel (fun _ _ h => h.elim) trivial (Nat.zero_le _) ?_
  intro y S' X' V' w' m' hv' hp' v b' hy htr0 hxs hm hr _ hyv
  have htr : Tr (fun b i => ¬ b < w.heap.size) (fun _ => False) S w S' w' := htr0.mono (fun b i h => h.resolve_right id) (fun _ h => h)
  refine ⟨v, withBlocks S' m', rfl, below_of_tr htr (fun b i hb hz => hz hb) (fun _ h => h), fun b i hs => .inl (htr.up b i hs), fun b i hs => ?_, (sealR_sound (B := []) (T := withBlocks S' m') (by simpa using hr) (fun _ _ h => .inl h) hy (fun g _ p hp i hi => .inr ⟨g, p, hp, rfl, hi⟩) hyv).view⟩
  rcases hs with hs | ⟨g, p, hg, rfl, hi⟩
  · rcases htr.new b i hs with h1 | h1 | h1
    · exact .inl h1
    · exact .inr ⟨Nat.le_of_not_lt h1, htr.lt b i hs⟩
    · exact .inr ⟨h1, htr.lt b i hs⟩
  · have hr' : Rel S' X' none w' m' (([] : List (AV × Value)) ++ cellPairs hp' hv') hp' hv' := hr
    obtain ⟨blk, us, cur, e, g1, g2, g3, g4, g5, g6, g7, g8, g9, g10, g11, g12⟩ := hr'.block hg
    have hlt' : p.b < w'.heap.size := (Array.getElem?_eq_some_iff.1 g8).1
    cases hfr : blk.fro with
    | true =>
      have hs := g12 hfr i hi
      rcases htr.new _ _ hs with h1 | h1 | h1
      · exact .inl h1
      · exact .inr ⟨Nat.le_of_not_lt h1, hlt'⟩
      · exact .inr ⟨h1, hlt'⟩
    | false =>
      refine .inr ⟨Nat.le_of_not_lt fun hb => ?_, hlt'⟩
      exact (g11 hfr i).2 (hxs _ _ hb)

end
end Go.Proofs.YtfeemohdpmdaoaaDoor.Am

/- Operations over blocks that grow; freezing. -/
namespace Go.Proofs.YtfeemohdpmdaoaaDoor.Am
set_option linter.unusedVariables false
open Go Go.RowKit

section
variable {P : Program} {S S' T X : Pr} {yv : Option Nat} {w w' : World} {m m' : List MB} {A A' B : List (AV × Value)} {hp hp' : List Blk} {hv hv' : List (List Value)} {o : Oper} {ops : Array Oper} {s s' : RS} {a : Act}

theorem own_of_isOwn {y : AV} {v : Value} (h : y.isOwn = false) : ownB (y, v) = none := by
  cases y <;> first | rfl | cases h

/-- some temporaries are read otherwise -/
inductive RP (S : Pr) (w : World) (m : List MB) (yv : Option Nat) : List (AV × Value) → List (AV × Value) → Prop
  | nil : RP S w m yv [] []
  | keep {p : AV × Value} {A A' : List (AV × Value)} (hs : RP S w m yv A A') : RP S w m yv (p :: A) (p :: A')
  | turn {x y : AV} {v : Value} {A A' : List (AV × Value)} (hr : RV S w m yv y v) (ho : ownB (y, v) = none) (hs : RP S w m yv A A') : RP S w m yv ((x, v) :: A) ((y, v) :: A')
theorem Rel.rp (h : RP S w m yv A A') : ∀ {C : List (AV × Value)}, Rel S X yv w m (A ++ C) hp hv → Rel S X yv w m (A' ++ C) hp hv := by
  induction h with
  | nil => intro C h; exact h
  | @keep p A1 A2 _ ih =>
    intro C h
    have h2 : Rel S X yv w m (A1 ++ (p :: C)) hp hv := h.perm (by simpa using (List.perm_middle (a := p) (l₁ := A1) (l₂ := C)).symm)
    exact (ih h2).perm List.perm_middle
  | @turn x y v A1 A2 hr ho _ ih =>
    intro C h
    have h2 : Rel S X yv w m (A1 ++ ((x, v) :: C)) hp hv := h.perm (by simpa using (List.perm_middle (a := (x, v)) (l₁ := A1) (l₂ := C)).symm)
    have h4 : Rel S X yv w m ((x, v) :: (A2 ++ C)) hp hv := (ih h2).perm List.perm_middle
    exact (h4.sub (List.sublist_cons_self _ _)).cons hr ho

/-- freezing: what temporaries lean on blocks that turn no more is data -/
def FrzTm (hp : List Blk) (gs : List Nat) : List AV → List AV → Prop
  | [], [] => True
  | x :: l, y :: l' => (x = y ∨ (SealR hp x y ∧ (∀ g ∈ occ x, g ∈ gs) ∧ y.isOwn = false)) ∧ FrzTm hp gs l l'
  | _, _ => False
theorem FrzTm.len {gs : List Nat} : ∀ {l l' : List AV}, FrzTm hp gs l l' → l'.length = l.length
  | [], [], _ => rfl
  | _ :: _, _ :: _, h => by simp [FrzTm.len h.2]
  | [], _ :: _, h => h.elim
  | _ :: _, [], h => h.elim
theorem frz_ok {gs : List Nat} {tm1 : List AV} (ht : FrzTm s.hp gs s.tm tm1) : FrzOk s ⟨tm1, frz s.hp gs, s.pv⟩ := by
  intro S X yv w m B hv a hr
  obtain ⟨hl, hr, hpv⟩ := hr
  obtain ⟨S', h1, h2, h3, h4⟩ := Rel.frzAll gs hr
  refine ⟨S', ⟨Agree.refl _ _ _, h1, h2, MStep.refl m⟩, by rw [ht.len]; exact hl, ?_, hpv⟩
  rw [cellPairs_cells hv (frz_cells gs s.hp)]
  have hr' : Rel S X yv w m ((s.tm.zip a.tmps.toList ++ B) ++ cellPairs s.hp hv) s.hp hv := by simpa using hr
  refine Rel.rp ?_ h3
  have hrv : ∀ p ∈ s.tm.zip a.tmps.toList, RV S w m yv p.1 p.2 := fun p hp => hr.rv p (List.mem_append_left _ hp)
  have key : ∀ (l l' : List AV) (vs : List Value), FrzTm s.hp gs l l' → (∀ p ∈ l.zip vs, RV S w m yv p.1 p.2) → RP S' w m yv (l.zip vs) (l'.zip vs) := by
    intro l
    induction l with
    | nil =>
      intro l' vs h _
      cases l' with
      | nil => exact .nil
      | cons _ _ => exact h.elim
    | cons x l ih =>
      intro l' vs h hv
      cases l' with
      | nil => exact h.elim
      | cons y l' =>
        cases vs with
        | nil => exact .nil
        | cons v vs =>
          simp only [List.zip_cons_cons] at hv ⊢
          have ih := ih l' vs h.2 fun p hp => hv p (List.mem_cons_of_mem _ hp)
          rcases h.1 with rfl | ⟨hs, hg, ho⟩
          · exact .keep ih
          · refine .turn ?_ (own_of_isOwn ho) ih
            exact (sealR_sound hr' h1 hs (fun g hgg p hp i hi => h4 g (hg g hgg) p hp i hi) (hv (x, v) (List.mem_cons_self ..))).opened
  exact key _ _ _ ht hrv

/-! ### operations -/
theorem two_args {c : Call} {x y : Operand} (hsz : c.args.size = 2) (h0 : c.args[0]? = some x) (h1 : c.args[1]? = some y) : c.args = #[x, y] := by
  apply Array.ext_getElem?
  intro j
  match j with
  | 0 => simpa using h0
  | 1 => simpa using h1
  | j + 2 => simp [Array.getElem?_eq_none (by omega : c.args.size ≤ j + 2)]

/-- append to a block that may grow -/
theorem ext_append {c : Call} {x y : Operand} {e : TypeId} {i : TypeInfo} {g ver n : Nat} {ys : List (List Dv)} {blk : Blk} (ho : o.op = .call c) (hc : c.callee = .builtin .append) (hsz : c.args.size = 2) (h0 : c.args[0]? = some x) (h1 : c.args[1]? = some y)
    (hinf : appInfo P c.argTypes = some (e, i)) (hx : evalA s.tm x = .gref g ver n i.size) (hys : srcRows i.size (evalA s.tm y) = some ys) (hg : s.hp[g]? = some blk) (hgr : blk.grow = true) (hver : blk.ver = ver) (hf : blk.fro = false)
    (hfit : (n + ys.length) * i.bytes ≤ 140737488355328) : ExtOk P o s { tm := putA s.tm o.dst (.gref g (ver + 1) (n + ys.length) i.size), hp := s.hp.set g ⟨blk.cells ++ flatA ys, false, true, ver + 1⟩, pv := [] } := by
  intro r S X yv w m B hv a K Q h hK
  obtain ⟨ty, z, hts, ht, hi, hz, hzs, hsz', hby⟩ := appInfo_spec hinf
  have hsrc : DR S w (.sl i.size ys) (a.eval y) := srcRows_spec hys (evalA_sound h y)
  have hbase := evalA_sound h x
  rw [hx] at hbase
  obtain ⟨hl, hr, hpv⟩ := h
  have hr' : Rel S X yv w m ((s.tm.zip a.tmps.toList ++ B) ++ cellPairs s.hp hv) s.hp hv := by simpa using hr
  obtain ⟨v', w', m', hv', g1, g2, g3⟩ := appendG_run (ty := o.type) ht hi hz hzs hby hr' hbase hsrc hg hgr hver hf hfit
  obtain ⟨consts, hb⟩ := builtin_exec (P := P) (ρ := a.eval) ho hc w
  refine wpIn_value (by simp [ho]) (nx := .value v') (v := v') (w' := w') ?_ (.inl rfl) ?_
  · rw [hb]; simp [builtin, two_args hsz h0 h1, hts, g1]
  · exact Nx.of hK g2 hl (by simpa using g3) (by intro p hp; cases hp)

/-- nothing is appended -/
theorem ext_zero {c : Call} {x y : Operand} {e : TypeId} {i : TypeInfo} (ho : o.op = .call c) (hc : c.callee = .builtin .append) (hsz : c.args.size = 2) (h0 : c.args[0]? = some x) (h1 : c.args[1]? = some y)
    (hinf : appInfo P c.argTypes = some (e, i)) (hx : isNilSlice (evalA s.tm x) = true ∨ evalA s.tm x = .full i.size []) (hys : srcRows i.size (evalA s.tm y) = some []) : ExtOk P o s { tm := putA s.tm o.dst (evalA s.tm x), hp := s.hp, pv := [] } := by
  intro r S X yv w m B hv a K Q h hK
  obtain ⟨ty, z, hts, ht, hi, hz, hzs, hsz', hby⟩ := appInfo_spec hinf
  have hsrc : DR S w (.sl i.size []) (a.eval y) := srcRows_spec hys (evalA_sound h y)
  have hbase := evalA_sound h x
  obtain ⟨hl, hr, hpv⟩ := h
  obtain ⟨ub, uc, news, hu, huc, hfl, hucell, hunil⟩ := hsrc.flat
  have hb2 : ∃ base n cap, a.eval x = .slice base n cap ∧ n ≤ cap := by
    rcases hx with hx | hx
    · exact ⟨_, _, _, isNilSlice_spec hx hbase, Nat.le_refl _⟩
    · rw [hx] at hbase
      generalize a.eval x = vx at hbase
      cases hbase with
      | full hd => exact ⟨_, _, _, rfl, Nat.le_refl _⟩
  obtain ⟨base, n, cap, hvx, hn⟩ := hb2
  obtain ⟨consts, hb⟩ := builtin_exec (P := P) (ρ := a.eval) ho hc w
  have hrun := run_append_zero (P := P) w ty e i o.type ht hi base ub n cap uc hn
  have hexec : (execOp a.eval o).run P w = .ok (.value (a.eval x)) w := by
    rw [hb]; simp only [builtin, two_args hsz h0 h1, hts]
    simp only [List.map_toArray, List.map_cons, List.map_nil, hu, hvx, List.length_nil] at hrun ⊢
    simp [hrun]
  have hown : ownB (evalA s.tm x, a.eval x) = none := by
    rcases hx with hx | hx
    · unfold isNilSlice at hx
      split at hx
      · rename_i he; rw [he]; rfl
      · cases hx
    · rw [hx]; rfl
  exact wpIn_value (by simp [ho]) hexec (.inl rfl) (Nx.of hK (Gs.refl S X none w m) hl (hr.cons hbase hown) (by intro p hp; cases hp))

/-- the first rows of a block that may grow -/
theorem ext_first {c : Call} {x y : Operand} {e : TypeId} {i : TypeInfo} {ys : List (List Dv)} (ho : o.op = .call c) (hc : c.callee = .builtin .append) (hsz : c.args.size = 2) (h0 : c.args[0]? = some x) (h1 : c.args[1]? = some y)
    (hinf : appInfo P c.argTypes = some (e, i)) (hx : isNilSlice (evalA s.tm x) = true ∨ evalA s.tm x = .full i.size []) (hys : srcRows i.size (evalA s.tm y) = some ys) (hne : ys ≠ [])
    (hfit : ys.length * i.bytes ≤ 140737488355328) : ExtOk P o s { tm := putA s.tm o.dst (.gref s.hp.length 0 ys.length i.size), hp := s.hp ++ [⟨flatA ys, false, true, 0⟩], pv := [] } := by
  intro r S X yv w m B hv a K Q h hK
  obtain ⟨ty, z, hts, ht, hi, hz, hzs, hsz', hby⟩ := appInfo_spec hinf
  have hsrc : DR S w (.sl i.size ys) (a.eval y) := srcRows_spec hys (evalA_sound h y)
  have hbase := evalA_sound h x
  obtain ⟨hl, hr, hpv⟩ := h
  have hr' : Rel S X yv w m ((s.tm.zip a.tmps.toList ++ B) ++ cellPairs s.hp hv) s.hp hv := by simpa using hr
  have h63 : ys.length ≤ 140737488355328 := Nat.le_trans (Nat.le_mul_of_pos_right _ hby) hfit
  have hml : (140737488355328 : Nat) ≤ maxLen := by decide
  have hyl : 0 < ys.length := List.length_pos_iff.2 hne
  obtain ⟨ub, uc, news, hu, huc, hfl, hucell, hunil⟩ := hsrc.flat
  obtain ⟨ua, rfl⟩ : ∃ ua, ub = some ua := by
    cases ub with
    | none => exact absurd (hunil rfl).1 hne
    | some ua => exact ⟨ua, rfl⟩
  have hnews : ∀ (j : Nat) (x : Value), news[j]? = some x → w.cell? (ua.add j) = some x := fun j x hx => ((hucell ua rfl).1 j x hx).1
  have hge := grownCap_ge w ys.length 0 e
  have hcm := grownCap_le_maxLen w ys.length 0 e (by omega)
  have hbel : Below w.heap.size w (w.drew.alloc (.cells (news.toArray ++ Builtin.zeroCells z.cells (grownCap w ys.length 0 e - ys.length)) e)) := ((Below.refl _ _).drew).alloc (Nat.le_refl _) _
  have hpl := hfl.pairs.1
  have hA := hr'.pushAll ((flatA ys).zip news) hfl.rvs
  have hcur : (w.drew.alloc (.cells (news.toArray ++ Builtin.zeroCells z.cells (grownCap w ys.length 0 e - ys.length)) e)).heap[w.heap.size]? = some (.cells (news.toArray ++ Builtin.zeroCells z.cells (grownCap w ys.length 0 e - ys.length)) e (0, 0)) := heap_alloc_new w.drew _
  have hR := hA.newGrow (flatA ys) news rfl hpl hfl.one hbel hcur (by simp) (by simp)
  have hrun : (Builtin.append_ #[ty, ty] o.type #[a.eval x, a.eval y]).run P w = .ok (.slice (some ⟨w.heap.size, 0, none⟩) ys.length (grownCap w ys.length 0 e)) (w.drew.alloc (.cells (news.toArray ++ Builtin.zeroCells z.cells (grownCap w ys.length 0 e - ys.length)) e)) := by
    rw [hu]
    have hgrow : ∀ ad : Addr, (Builtin.append_ #[ty, ty] o.type #[.slice (some ad) 0 0, .slice (some ua) ys.length uc]).run P w = .ok (.slice (some ⟨w.heap.size, 0, none⟩) ys.length (grownCap w ys.length 0 e)) (w.drew.alloc (.cells (news.toArray ++ Builtin.zeroCells z.cells (grownCap w ys.length 0 e - ys.length)) e)) := by
      intro ad
      have := run_append_grow (P := P) w ty o.type e i z ht hi hz ad 0 0 [] (by simp) (by simp) ua ys.length uc news hfl.len hnews (by omega) (by omega) (growslice_fits (by omega) (by simpa using hfit))
      simpa using this
    have hnil := run_append_nil (P := P) w ty o.type e i z ht hi hz ua ys.length uc news hfl.len hnews hyl (by omega) (by omega)
    rcases hx with hx | hx
    · rw [isNilSlice_spec hx hbase]; exact hnil
    · rw [hx] at hbase
      generalize a.eval x = vx at hbase
      cases hbase with
      | full hd =>
        rename_i ad
        cases ad with
        | none => exact hnil
        | some ad => exact hgrow ad
  obtain ⟨consts, hb⟩ := builtin_exec (P := P) (ρ := a.eval) ho hc w
  have hexec : (execOp a.eval o).run P w = .ok (.value (.slice (some ⟨w.heap.size, 0, none⟩) ys.length (grownCap w ys.length 0 e))) (w.drew.alloc (.cells (news.toArray ++ Builtin.zeroCells z.cells (grownCap w ys.length 0 e - ys.length)) e)) := by
    rw [hb]; simp [builtin, two_args hsz h0 h1, hts, hrun]
  refine wpIn_value (by simp [ho]) hexec (.inl rfl) ?_
  · refine Nx.of hK (S' := S) (m' := m ++ [⟨w.heap.size, (flatA ys).length, true, 0⟩]) (hv' := hv ++ [news]) ⟨agree_of_below hbel _, fun _ _ h => h, fun _ _ h => .inl h, MStep.push _ _⟩ hl ?_ (by intro p hp; cases hp)
    refine Rel.cons (by simpa using hR) (.gref (b := w.heap.size) (len := (flatA ys).length) (ver' := 0) (by rw [List.getElem?_append_right (by rw [hr.ml]; exact Nat.le_refl _), hr.ml]; simp) (Nat.le_refl _) rfl fun _ => ?_) rfl
    refine ⟨by rw [hpl, hfl.len], _, rfl, hge, hcm, _, e, hcur, ?_⟩
    simp [size_zeroCells, hzs, hfl.len, ← Nat.add_mul]; congr 1; omega
end
end Go.Proofs.YtfeemohdpmdaoaaDoor.Am
