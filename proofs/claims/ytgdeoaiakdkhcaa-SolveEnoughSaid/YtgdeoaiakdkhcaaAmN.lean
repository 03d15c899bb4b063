/- A region's run on the abstract state is the model's run. -/
import Derived.Test.YtgdeoaiakdkhcaaAmM
namespace Go.Proofs.Ytgdeoaiakdkhcaa.Am
set_option linter.unusedVariables false
open Go Go.RowKit

/-- the fence of an activation (of a loop's round, if r says so): it shuts nothing out -/
abbrev Fn (r : Option Nat) : Fence := { Fence.wide with round := r }

/-- a call's contract: abstract arguments and blocks lead to an abstract result and blocks -/
def SCall (P : Program) (f : Nat) (args : List AV) (hp : List Blk) (r : AV) (hp' : List Blk) : Prop :=
  (∀ (as : Array Value) (w : World), (callFunc f as).run P w = .ok (.enter f as) w) ∧
  ∀ (S X : Pr) (yv : Option Nat) (w : World) (m : List MB) (B : List (AV × Value)) (hv : List (List Value)) (vs : List Value), args.length = vs.length →
    Rel S X yv w m (args.zip vs ++ (B ++ cellPairs hp hv)) hp hv →
    CallsIn Fence.wide 0 P f vs.toArray w fun e w' => ∃ v S' m' hv', e = .returned v ∧ Gs S X none w m S' w' m' ∧ Rel S' X yv w' m' ((r.view, v) :: (B ++ cellPairs hp' hv')) hp' hv'

/-- a call's contract: abstract arguments that lean on no block lead to an abstract result; nothing that was there turns -/
def PCall (P : Program) (f : Nat) (args : List AV) (r : AV) : Prop :=
  (∀ (as : Array Value) (w : World), (callFunc f as).run P w = .ok (.enter f as) w) ∧
  ∀ (S : Pr) (w : World) (vs : List Value), args.length = vs.length → (∀ (i : Nat) (x : AV) (v : Value), args[i]? = some x → vs[i]? = some v → RV S w [] none x v) → (∀ b i, S b i → b < w.heap.size) →
    CallsIn Fence.wide 0 P f vs.toArray w fun e w' => ∃ v S', e = .returned v ∧ Below w.heap.size w w' ∧ (∀ b i, S b i → S' b i) ∧ (∀ b i, S' b i → S b i ∨ (w.heap.size ≤ b ∧ b < w'.heap.size)) ∧ RV S' w' [] none r.view v

structure CallOk (P : Program) (call : CallT) : Prop where
  p : ∀ d f args r, call.p d f args = some r → PCall P f args r
  s : ∀ f args hp r hp', call.s f args hp = some (r, hp') → SCall P f args hp r hp'

section
variable {P : Program} {S S' S'' X : Pr} {yv : Option Nat} {w w' w'' : World} {m m' m'' : List MB} {A B : List (AV × Value)} {hp hp' : List Blk} {hv : List (List Value)} {call : CallT} {s s' : RS} {a : Act} {o : Oper} {ops : Array Oper}

theorem wpIn_value {r : Option Nat} {K : Act → World → Prop} {Q : Exit → Act → World → Prop} {nx : Next} {v : Value} (hd : ∀ c, o.op ≠ .defer c) (hrun : (execOp a.eval o).run P w = .ok nx w')
    (hnx : nx = .value v ∨ (nx = .skip ∧ v = undef)) (hK : K (a.put o.dst v) w') : o.wpIn (Fn r) 0 P a w K Q := by
  refine ⟨fun f _ => trivial, ?_⟩
  rw [Oper.semAt_eq _ _ _ hd, hrun]
  rcases hnx with rfl | ⟨rfl, rfl⟩ <;> exact hK

/-- what is wanted behind an operation -/
def Nx (S X : Pr) (yv : Option Nat) (w : World) (m : List MB) (B : List (AV × Value)) (s' : RS) (a : Act) (K : Act → World → Prop) : Prop :=
  ∀ S' w' m' hv' a', Gs S X none w m S' w' m' → RelS S' X yv w' m' B hv' s' a' → a'.defers = a.defers → a'.tmps.size = a.tmps.size → K a' w'

theorem put_defers (a : Act) (d : Option Nat) (v : Value) : (a.put d v).defers = a.defers := by cases d <;> rfl

/-- a value is laid into its temporary: what stands in the way of the region's state -/
theorem Nx.of {K : Act → World → Prop} {tm : List AV} {x : AV} {v : Value} {pv : List (Nat × Loc)} {hv' : List (List Value)} (hN : Nx S X yv w m B ⟨putA tm o.dst x, hp', pv⟩ a K) (hg : Gs S X none w m S' w' m')
    (hl : tm.length = a.tmps.size) (hr : Rel S' X yv w' m' ((x, v) :: (tm.zip a.tmps.toList ++ (B ++ cellPairs hp' hv'))) hp' hv') (hpv : PvOk pv (a.put o.dst v).tmps hv') : K (a.put o.dst v) w' :=
  hN S' w' m' hv' _ hg ⟨by rw [putA_length, put_size]; exact hl, hr.putTmp hl o.dst, hpv⟩ (put_defers _ _ _) (put_size _ _ _)

/-! ### the places of accumulators -/
theorem lookup_mem {pv : List (Nat × Loc)} {t : Nat} {loc : Loc} (h : pv.lookup t = some loc) : (t, loc) ∈ pv := by
  induction pv with
  | nil => simp at h
  | cons p pv ih =>
    obtain ⟨t', loc'⟩ := p
    simp only [List.lookup_cons] at h
    split at h
    · rename_i he; cases h; simp at he; subst he; simp
    · exact List.mem_cons_of_mem _ (ih h)

theorem perm_erase {α : Type} (l : List α) (d : Nat) (x : α) (h : l[d]? = some x) : l.Perm (x :: l.eraseIdx d) := by
  induction l generalizing d with
  | nil => simp at h
  | cons a l ih =>
    cases d with
    | zero => simp at h; subst h; simp
    | succ d =>
      simp only [List.getElem?_cons_succ] at h
      simp only [List.eraseIdx_cons_succ]
      exact ((ih d h).cons a).trans (List.Perm.swap _ _ _)

theorem perm_set' {α : Type} (l : List α) (d : Nat) (x y : α) (h : l[d]? = some x) : (l.set d y).Perm (y :: l.eraseIdx d) :=
  (perm_set l d y (List.getElem?_eq_some_iff.1 h).1).symm

theorem list_set_self {α : Type} {l : List α} {i : Nat} {x : α} (h : l[i]? = some x) : l.set i x = l := by
  apply List.ext_getElem?
  intro j
  by_cases hj : i = j
  · subst hj; rw [List.getElem?_set_self (List.getElem?_eq_some_iff.1 h).1, h]
  · rw [List.getElem?_set_ne hj]

/-- a cell of a block takes another reading -/
theorem cellPairs_set {g off : Nat} {blk : Blk} {vs : List Value} {c : AV} {u : Value} (y : AV) (h1 : hp[g]? = some blk) (h2 : hv[g]? = some vs) (h3 : blk.cells[off]? = some c) (h4 : vs[off]? = some u) :
    ∃ L, (cellPairs hp hv).Perm ((c, u) :: L) ∧ (cellPairs (hp.set g { blk with cells := blk.cells.set off y }) hv).Perm ((y, u) :: L) := by
  obtain ⟨pre, post, e1, e2⟩ := cellPairs_split h1 h2
  have e3 := e2 { blk with cells := blk.cells.set off y } vs
  rw [list_set_self h2] at e3
  have hz : (blk.cells.zip vs)[off]? = some (c, u) := by rw [List.getElem?_zip_eq_some]; exact ⟨h3, h4⟩
  have hz2 : (blk.cells.set off y).zip vs = (blk.cells.zip vs).set off (y, u) := by
    conv => lhs; rw [← list_set_self h4]
    rw [zip_set]
  refine ⟨pre ++ (blk.cells.zip vs).eraseIdx off ++ post, ?_, ?_⟩
  · rw [e1]
    simp only [List.append_assoc]
    refine ((List.perm_append_comm_assoc _ _ _).trans ?_)
    refine ((List.Perm.append_right _ (perm_erase _ _ _ hz)).trans ?_)
    simp only [List.cons_append]
    refine List.Perm.cons _ ?_
    exact List.perm_append_comm_assoc _ _ _
  · rw [e3, hz2]
    simp only [List.append_assoc]
    refine ((List.perm_append_comm_assoc _ _ _).trans ?_)
    refine ((List.Perm.append_right _ (perm_set' _ _ _ (y, u) hz)).trans ?_)
    simp only [List.cons_append]
    refine List.Perm.cons _ ?_
    exact List.perm_append_comm_assoc _ _ _

/-- the table of blocks does not look at readings -/
theorem Rel.rehp {hp' : List Blk} (h : Rel S X yv w m A hp hv) (hl : hp'.length = hp.length)
    (hb : ∀ (g : Nat) (b : Blk), hp'[g]? = some b → ∃ b0, hp[g]? = some b0 ∧ b.cells.length = b0.cells.length ∧ b.fro = b0.fro ∧ b.grow = b0.grow ∧ b.ver = b0.ver) : Rel S X yv w m A hp' hv := by
  refine ⟨h.lt, h.rv, h.pw, h.nm, h.sp, h.mnd, by rw [h.ml, hl], by rw [h.hl, hl], fun g blk p vs e1 e2 e3 => ?_⟩
  obtain ⟨b0, g1, g2, g3, g4, g5⟩ := hb g blk e1
  have := h.bl g b0 p vs g1 e2 e3
  rw [g2, g3, g4, g5]; exact this

theorem ownAt_spec {loc : Loc} {e k : Nat} {xs : List (List Dv)} {t : Nat} (h : RelS S X yv w m B hv s a) (hpv : (t, loc) ∈ s.pv) (ho : ownAt s loc = some (e, k, xs)) :
    ∃ v L, a.tmps[t]? = some v ∧ (s.tm.zip a.tmps.toList ++ (B ++ cellPairs s.hp hv)).Perm ((.own e k xs, v) :: L) ∧
      ((demote s loc).tm.zip a.tmps.toList ++ (B ++ cellPairs (demote s loc).hp hv)).Perm ((.d (.sl k xs), v) :: L) ∧ (demote s loc).tm.length = s.tm.length ∧
      (∀ (S' : Pr) (w' : World) (m' : List MB) C, Rel S' X yv w' m' C s.hp hv → Rel S' X yv w' m' C (demote s loc).hp hv) := by
  obtain ⟨hl, hr, hp⟩ := h
  have hpp := hp _ hpv
  cases loc with
  | slot x =>
    obtain ⟨v, h1, h2⟩ := hpp
    simp only [ownAt] at ho
    split at ho <;> try (cases ho; done)
    rename_i e' k' xs' hx
    cases ho
    have hxl : s.tm[x]? = some (.own e k xs) := by
      cases hh : s.tm[x]? with
      | none => simp [List.getD, hh] at hx
      | some y => simp [List.getD, hh] at hx; rw [hx]
    have hz : (s.tm.zip a.tmps.toList)[x]? = some (.own e k xs, v) := by
      rw [List.getElem?_zip_eq_some]; exact ⟨hxl, by simpa using h2⟩
    refine ⟨v, (s.tm.zip a.tmps.toList).eraseIdx x ++ (B ++ cellPairs s.hp hv), h1, ?_, ?_, by simp [demote], fun _ _ _ C hC => hC⟩
    · rw [← List.cons_append]; exact List.Perm.append_right _ (perm_erase _ _ _ hz)
    · rw [← List.cons_append]
      refine List.Perm.append_right _ ?_
      have e1 : (s.tm.set x (s.tm.getD x .bad).view).zip a.tmps.toList = (s.tm.zip a.tmps.toList).set x (.d (.sl k xs), v) := by
        have h2' : a.tmps.toList[x]? = some v := by simpa using h2
        rw [hx]
        conv => lhs; rw [← list_set_self h2']
        rw [zip_set]; rfl
      simp only [demote]
      rw [e1]
      exact perm_set' _ _ _ _ hz
  | cell g off =>
    obtain ⟨v, vs, h1, h2, h3⟩ := hpp
    simp only [ownAt] at ho
    split at ho <;> try (cases ho; done)
    rename_i blk hb
    split at ho <;> try (cases ho; done)
    rename_i e' k' xs' hx
    cases ho
    have hxl : blk.cells[off]? = some (.own e k xs) := by
      cases hh : blk.cells[off]? with
      | none => simp [List.getD, hh] at hx
      | some y => simp [List.getD, hh] at hx; rw [hx]
    obtain ⟨L, p1, p2⟩ := cellPairs_set (.d (.sl k xs)) hb h2 hxl h3
    have hdem : demote s (.cell g off) = { s with hp := s.hp.set g { blk with cells := blk.cells.set off (.d (.sl k xs)) } } := by
      simp only [demote, hb, hx, AV.view]
    rw [hdem]
    refine ⟨v, s.tm.zip a.tmps.toList ++ (B ++ L), h1, ?_, ?_, rfl, fun _ _ _ C hC => hC.rehp (by simp) fun g' b' hb' => ?_⟩
    · refine (List.Perm.append_left _ (List.Perm.append_left _ p1)).trans ?_
      refine (List.Perm.append_left _ List.perm_middle).trans ?_
      exact List.perm_middle
    · refine (List.Perm.append_left _ (List.Perm.append_left _ p2)).trans ?_
      refine (List.Perm.append_left _ List.perm_middle).trans ?_
      exact List.perm_middle
    · by_cases hg : g' = g
      · subst hg
        rw [List.getElem?_set_self (List.getElem?_eq_some_iff.1 hb).1] at hb'
        cases hb'
        exact ⟨blk, hb, by simp, rfl, rfl, rfl⟩
      · rw [List.getElem?_set_ne (Ne.symm hg)] at hb'
        exact ⟨b', hb', rfl, rfl, rfl, rfl⟩

theorem xa_sound {r : Option Nat} {K : Act → World → Prop} {Q : Exit → Act → World → Prop} (h : RelS S X yv w m B hv s a) (hx : xa P s o = some s') (hK : Nx S X yv w m B s' a K) : o.wpIn (Fn r) 0 P a w K Q := by
  unfold xa at hx
  split at hx <;> try (cases hx; done)
  rename_i c ho
  split at hx <;> try (cases hx; done)
  rename_i t y hc h0 h1
  split at hx <;> try (cases hx; done)
  rename_i hsz
  split at hx <;> try (cases hx; done)
  rename_i loc hloc
  split at hx <;> try (cases hx; done)
  rename_i e k xs e' i hown hinf
  split at hx <;> try (cases hx; done)
  rename_i ys hys
  split at hx <;> try (cases hx; done)
  rename_i hcond
  obtain ⟨rfl, rfl, hfit⟩ := hcond
  cases hx
  obtain ⟨ty, z, hts, ht, hi, hz, hzs, hsz', hby⟩ := appInfo_spec hinf
  obtain ⟨v, L, q1, q2, q3, q4, q5⟩ := ownAt_spec h (lookup_mem hloc) hown
  have hsrc : DR S w (.sl i.size ys) (a.eval y) := srcRows_spec hys (evalA_sound h y)
  have hev : a.eval (.tmp t) = v := by simp [Act.eval, q1]
  obtain ⟨v', w', S', g1, g2, g3, g4, g5⟩ := append_own (ty := o.type) ht hi hz hzs hsz' hby (h.2.1.perm q2) hsrc hfit
  have hargs : c.args = #[.tmp t, y] := by
    apply Array.ext_getElem?
    intro j
    match j with
    | 0 => simpa using h0
    | 1 => simpa using h1
    | j + 2 => simp [Array.getElem?_eq_none (by omega : c.args.size ≤ j + 2)]
  obtain ⟨consts, hb⟩ := builtin_exec (P := P) (ρ := a.eval) ho hc w
  refine wpIn_value (by simp [ho]) (nx := .value v') (v := v') (w' := w') ?_ (.inl rfl) ?_
  · rw [hb]; simp [builtin, hargs, hev, hts, g1]
  · refine Nx.of (S' := S') (m' := m) (hv' := hv) hK ⟨g2, g3, g4, MStep.refl m⟩ (by rw [q4]; exact h.1) ?_ (by intro p hp; cases hp)
    refine (q5 _ _ _ _ g5).perm (List.Perm.cons _ ?_)
    exact q3.symm

theorem closeds_get : ∀ {cs : List AV}, closeds cs = true → ∀ (i : Nat) (c : AV), cs[i]? = some c → c.closed = true
  | [], _, i, c, h => by simp at h
  | x :: r, hc, i, c, h => by
    simp only [closeds, Bool.and_eq_true] at hc
    cases i with
    | zero => simp at h; subst h; exact hc.1
    | succ i => simp at h; exact closeds_get hc.2 i c h

theorem RV.closed {x : AV} {v : Value} (h : RV S w m yv x v) : x.closed = true → RV S w [] none x v := by
  induction h with
  | d h => exact fun _ => .d h
  | agg hl h ih => exact fun hc => .agg hl fun i c v h1 h2 => ih i c v h1 h2 (closeds_get (by simpa [AV.closed] using hc) i c h1)
  | tup hl h ih => exact fun hc => .tup hl fun i c v h1 h2 => ih i c v h1 h2 (closeds_get (by simpa [AV.closed] using hc) i c h1)
  | full h => exact fun _ => .full h
  | rptr vals hne hsp hs hcc hr h1 => exact fun _ => .rptr vals hne hsp hs hcc hr h1
  | fn hf hl hl' h h' ih ih' =>
    intro hc
    simp only [AV.closed, Bool.and_eq_true] at hc
    exact .fn hf hl hl' (fun i c v h1 h2 => ih i c v h1 h2 (closeds_get hc.1 i c h1)) (fun i c v h1 h2 => ih' i c v h1 h2 (closeds_get hc.2 i c h1))
  | bad => exact fun _ => .bad
  | own => exact fun hc => by simp [AV.closed] at hc
  | ownNil => exact fun hc => by simp [AV.closed] at hc
  | ref => exact fun hc => by simp [AV.closed] at hc
  | ptr => exact fun hc => by simp [AV.closed] at hc
  | gref => exact fun hc => by simp [AV.closed] at hc
  | gptr => exact fun hc => by simp [AV.closed] at hc
  | yl => exact fun hc => by simp [AV.closed] at hc

theorem RV.opened {x : AV} {v : Value} (h : RV S w [] none x v) : RV S w m yv x v := by
  generalize hm : ([] : List MB) = m0 at h
  generalize hy : (none : Option Nat) = y0 at h
  induction h with
  | d h => exact .d h
  | agg hl h ih => exact .agg hl fun i c v h1 h2 => ih i c v h1 h2
  | tup hl h ih => exact .tup hl fun i c v h1 h2 => ih i c v h1 h2
  | full h => exact .full h
  | rptr vals hne hsp hs hcc hr h1 => exact .rptr vals hne hsp hs hcc hr h1
  | fn hf hl hl' h h' ih ih' => exact .fn hf hl hl' (fun i c v h1 h2 => ih i c v h1 h2) (fun i c v h1 h2 => ih' i c v h1 h2)
  | bad => exact .bad
  | own h1 h2 => exact .own h1 h2
  | ownNil => exact .ownNil
  | ref h => subst hm; simp at h
  | ptr h => subst hm; simp at h
  | gref h => subst hm; simp at h
  | gptr h => subst hm; simp at h
  | yl h => subst hy; cases h

theorem Rel.consAll (h : Rel S X yv w m A hp hv) : ∀ l : List (AV × Value), (∀ p ∈ l, RV S w m yv p.1 p.2 ∧ ownB p = none) → Rel S X yv w m (l ++ A) hp hv
  | [], _ => h
  | p :: l, hl => by
    obtain ⟨h1, h2⟩ := hl p (by simp)
    exact (Rel.consAll h l (fun q hq => hl q (by simp [hq]))).cons h1 h2

theorem store_exec {t : TypeId} {ax x : Operand} (ρ : Operand → Value) (ho : o.op = .store t ax x) : execOp ρ o = (do Instr.storeAt t (ρ ax) (ρ x); pure .skip) := by
  unfold execOp; rw [ho]

theorem xh_sound {r : Option Nat} {K : Act → World → Prop} {Q : Exit → Act → World → Prop} (hcall : CallOk P call) (h : RelS S X yv w m B hv s a) (hx : xh P call s o = some s') (hK : Nx S X yv w m B s' a K) :
    o.wpIn (Fn r) 0 P a w K Q := by
  obtain ⟨hl, hr, hpv⟩ := h
  have hev := evalA_sound (s := s) (a := a) ⟨hl, hr, hpv⟩
  have hswap : ∀ {D : List (AV × Value)}, (s.tm.zip a.tmps.toList ++ (B ++ D)) = ((s.tm.zip a.tmps.toList ++ B) ++ D) := by intro D; simp
  rw [hswap] at hr
  unfold xh at hx
  split at hx
  · -- assign
    rename_i x ho
    split at hx <;> try (cases hx; done)
    cases hx
    have hrun : (execOp a.eval o).run P w = .ok (.value (a.eval x)) w := by unfold execOp; rw [ho]; rfl
    refine wpIn_value (by simp [ho]) hrun (.inl rfl) ?_
    have key : ∃ L, (s.tm.zip a.tmps.toList ++ (B ++ cellPairs s.hp hv)).Perm L ∧ Rel S X yv w m ((evalA s.tm x, a.eval x) :: ((untake s.tm x).zip a.tmps.toList ++ (B ++ cellPairs s.hp hv))) s.hp hv := by
      refine ⟨_, List.Perm.refl _, ?_⟩
      rw [← hswap] at hr
      cases x with
      | const v => exact hr.cons (hev (.const v)) (ownB_ofVal v)
      | global g => exact hr.cons (hev (.global g)) rfl
      | func f => exact hr.cons (hev (.func f)) rfl
      | tmp t =>
        by_cases ht : t < s.tm.length
        · have hxl : s.tm[t]? = some (s.tm.getD t .bad) := by simp [List.getD, ht]
          obtain ⟨v, h1, _⟩ := zip_mem hl hxl
          have hev' : a.eval (.tmp t) = v := by simp [Act.eval, h1]
          rw [hev']
          have hz : (s.tm.zip a.tmps.toList)[t]? = some (s.tm.getD t .bad, v) := by
            rw [List.getElem?_zip_eq_some]; exact ⟨hxl, by simpa using h1⟩
          have e1 : (s.tm.set t (s.tm.getD t .bad).view).zip a.tmps.toList = (s.tm.zip a.tmps.toList).set t ((s.tm.getD t .bad).view, v) := by
            have h2' : a.tmps.toList[t]? = some v := by simpa using h1
            conv => lhs; rw [← list_set_self h2']
            rw [zip_set]
          simp only [evalA, untake, e1]
          have h2 := hr.perm (List.Perm.append_right (B ++ cellPairs s.hp hv) (perm_erase _ _ _ hz))
          simp only [List.cons_append] at h2
          have h3 := (h2.copy (x := s.tm.getD t .bad) (v := v) (by simp)).perm (List.Perm.swap _ _ _)
          refine h3.perm (List.Perm.cons _ ?_)
          exact (List.Perm.append_right (B ++ cellPairs s.hp hv) (perm_set' _ _ _ ((s.tm.getD t .bad).view, v) hz)).symm
        · have e0 : s.tm.getD t .bad = .bad := by simp [List.getD, List.getElem?_eq_none (Nat.le_of_not_lt ht)]
          have e1 : s.tm.set t AV.bad.view = s.tm := List.set_eq_of_length_le (Nat.le_of_not_lt ht)
          simp only [evalA, untake, e0, e1]
          exact hr.cons .bad rfl
    obtain ⟨_, _, hk⟩ := key
    have hlu : (untake s.tm x).length = s.tm.length := by cases x <;> simp [untake]
    exact Nx.of hK (Gs.refl S X none w m) (by rw [hlu]; exact hl) hk (by intro p hp; cases hp)
  · -- alloc
    rename_i t ho
    split at hx <;> try (cases hx; done)
    rename_i xs hxs
    cases hx
    obtain ⟨v, w', S', m', hv', g1, g3, g4, g5⟩ := xAlloc_sound hr hxs
    have hrun : (execOp a.eval o).run P w = .ok (.value v) w' := by unfold execOp; rw [ho]; exact g1
    exact wpIn_value (by simp [ho]) hrun (.inl rfl) (Nx.of hK g3 hl (by simpa using g4) ((pvPut_ok hpv o.dst v).mono g5))
  · -- box
    rename_i t x ho
    split at hx <;> try (cases hx; done)
    rename_i xs hxs
    cases hx
    obtain ⟨v, w', S', m', hv', g1, g3, g4, g5⟩ := xBox_sound (P := P) (t := t) hr (hev x) hxs
    have hrun : (execOp a.eval o).run P w = .ok (.value v) w' := by unfold execOp; rw [ho]; exact g1
    exact wpIn_value (by simp [ho]) hrun (.inl rfl) (Nx.of hK g3 hl (by simpa using g4) ((pvPut_ok hpv o.dst v).mono g5))
  · -- store
    rename_i t ax x ho
    split at hx <;> try (cases hx; done)
    rename_i tm xs hsrc
    split at hx <;> try (cases hx; done)
    rename_i hp' hst
    cases hx
    rw [← hswap] at hr
    have key : tm.length = s.tm.length ∧ xs.length = (a.eval x).cells.toList.length ∧ (∀ u ∈ (a.eval x).cells.toList, u.oneCell' = true) ∧
        Rel S X yv w m (xs.zip (a.eval x).cells.toList ++ (tm.zip a.tmps.toList ++ (B ++ cellPairs s.hp hv))) s.hp hv := by
      unfold storeSrc at hsrc
      split at hsrc
      · rename_i hown
        cases hsrc
        have hlu : (untake s.tm x).length = s.tm.length := by cases x <;> simp [untake]
        have hone : (a.eval x).cells = #[a.eval x] ∧ (a.eval x).oneCell' = true := by
          have h1 := hev x
          cases hh : evalA s.tm x with
          | own e k ys =>
            rw [hh] at h1
            generalize a.eval x = u at h1
            cases h1 <;> exact ⟨rfl, rfl⟩
          | _ => rw [hh] at hown; cases hown
        refine ⟨hlu, by rw [hone.1]; rfl, by rw [hone.1]; simp [hone.2], ?_⟩
        rw [hone.1]
        simp only [List.zip_cons_cons, List.zip_nil_right, List.cons_append, List.nil_append]
        cases x with
        | const v => simp only [evalA] at hown; cases v <;> cases hown
        | global g => cases hown
        | func f => cases hown
        | tmp t =>
          have ht : t < s.tm.length := by
            rcases Nat.lt_or_ge t s.tm.length with h' | h'
            · exact h'
            · simp only [evalA, List.getD, List.getElem?_eq_none h'] at hown; cases hown
          have hxl : s.tm[t]? = some (s.tm.getD t .bad) := by simp [List.getD, ht]
          obtain ⟨v, h1, _⟩ := zip_mem hl hxl
          have hev' : a.eval (.tmp t) = v := by simp [Act.eval, h1]
          rw [hev']
          have hz : (s.tm.zip a.tmps.toList)[t]? = some (s.tm.getD t .bad, v) := by
            rw [List.getElem?_zip_eq_some]; exact ⟨hxl, by simpa using h1⟩
          have e1 : (s.tm.set t (s.tm.getD t .bad).view).zip a.tmps.toList = (s.tm.zip a.tmps.toList).set t ((s.tm.getD t .bad).view, v) := by
            have h2' : a.tmps.toList[t]? = some v := by simpa using h1
            conv => lhs; rw [← list_set_self h2']
            rw [zip_set]
          simp only [evalA, untake, e1]
          have h2 := hr.perm (List.Perm.append_right (B ++ cellPairs s.hp hv) (perm_erase _ _ _ hz))
          simp only [List.cons_append] at h2
          have h3 := (h2.copy (x := s.tm.getD t .bad) (v := v) (by simp)).perm (List.Perm.swap _ _ _)
          refine h3.perm (List.Perm.cons _ ?_)
          exact (List.Perm.append_right (B ++ cellPairs s.hp hv) (perm_set' _ _ _ ((s.tm.getD t .bad).view, v) hz)).symm
      · simp only [Option.map_eq_some_iff, Prod.mk.injEq] at hsrc
        obtain ⟨xs', hxs, rfl, rfl⟩ := hsrc
        obtain ⟨q1, q2, q3⟩ := xCells_spec hxs (hev x)
        refine ⟨rfl, q1.1, fun u hu => ?_, hr.consAll _ fun p hp => ?_⟩
        · obtain ⟨j, hj⟩ := List.mem_iff_getElem?.1 hu
          have hjl : j < xs'.length := by rw [q1.1]; exact (List.getElem?_eq_some_iff.1 hj).1
          exact (q1.2 j xs'[j] u (by simp [hjl]) hj).one (List.all_eq_true.1 q2 _ (List.getElem_mem hjl))
        · obtain ⟨j, hj⟩ := List.mem_iff_getElem?.1 hp
          have hj' := hj
          rw [List.getElem?_zip_eq_some] at hj'
          exact ⟨q1.2 j _ _ hj'.1 hj'.2, q3 p hp⟩
    obtain ⟨k1, k2, k3, k4⟩ := key
    have k4' : Rel S X yv w m (xs.zip (a.eval x).cells.toList ++ ((tm.zip a.tmps.toList ++ B) ++ cellPairs s.hp hv)) s.hp hv := by simpa using k4
    obtain ⟨nx, v, w', S', m', hv', g1, g2, g3, g4⟩ := xStore_sound k4' (hev ax) k2 k3 hst
    have hrun : (execOp a.eval o).run P w = .ok nx w' := by rw [store_exec _ ho]; exact g1
    exact wpIn_value (by simp [ho]) hrun g2 (Nx.of hK g3 (by rw [k1]; exact hl) (by simpa using g4) (by intro p hp; cases hp))
  · -- makeSlice
    rename_i t l c ho
    split at hx <;> try (cases hx; done)
    rename_i n cap k xs hxs
    cases hx
    obtain ⟨v, w', S', m', hv', g1, g3, g4, g5⟩ := xMake_sound (P := P) hr (hev l) (hev c) hxs
    have hrun : (execOp a.eval o).run P w = .ok (.value v) w' := by unfold execOp; rw [ho]; exact g1
    exact wpIn_value (by simp [ho]) hrun (.inl rfl) (Nx.of hK g3 hl (by simpa using g4) ((pvPut_ok hpv o.dst v).mono g5))
  · -- a call
    rename_i c ho
    split at hx
    rotate_left
    · rename_i hc
      split at hx <;> try (cases hx; done)
      rename_i d y h0 h1
      split at hx <;> try (cases hx; done)
      rename_i hsz
      split at hx <;> try (cases hx; done)
      rename_i x hp' hxc
      cases hx
      obtain ⟨consts, hb⟩ := builtin_exec (P := P) (ρ := a.eval) ho hc w
      have hargs : c.args = #[d, y] := by
        apply Array.ext_getElem?
        intro j
        match j with
        | 0 => simpa using h0
        | 1 => simpa using h1
        | j + 2 => simp [Array.getElem?_eq_none (by omega : c.args.size ≤ j + 2)]
      obtain ⟨nx, v, w', S', m', hv', g1, g2, g3, g4⟩ := xCopy_sound (P := P) hr (hev d) (hev y) o.type hxc
      have hrun : (execOp a.eval o).run P w = .ok nx w' := by
        rw [hb, ← g1]; simp [builtin, hargs]
      exact wpIn_value (by simp [ho]) hrun g2 (Nx.of hK g3 hl (by simpa using g4) (by intro p hp; cases hp))
    · cases hx
    rename_i f hc
    split at hx <;> try (cases hx; done)
    rename_i k args hargs
    -- the function value
    have hfv := hev f
    unfold callArgs at hargs
    split at hargs <;> try (cases hargs; done)
    rename_i k' first caps hf
    simp only [Option.some.injEq, Prod.mk.injEq] at hargs
    obtain ⟨rfl, rfl⟩ := hargs
    rw [hf] at hfv
    generalize hfe : a.eval f = fv at hfv
    cases hfv with
    | fn hne hl1 hl2 h1 h2 =>
      rename_i fs cs
      have hrun : (∀ (as : Array Value) (w : World), (callFunc k' as).run P w = .ok (.enter k' as) w) → (execOp a.eval o).run P w = .ok (.enter k' (fs ++ c.args.map a.eval ++ cs)) w := by
        intro hent
        unfold execOp
        rw [ho]
        simp [resolve, hc, hfe, Deferred.ofValue, invoke, hent]
      have hlen : ((first ++ (c.args.toList.map (evalA s.tm)) ++ caps).map AV.view).length = (fs.toList ++ (c.args.map a.eval).toList ++ cs.toList).length := by simp [hl1, hl2]
      have hpairs : ∀ (j : Nat) (x : AV) (u : Value), ((first ++ (c.args.toList.map (evalA s.tm)) ++ caps).map AV.view)[j]? = some x → (fs.toList ++ (c.args.map a.eval).toList ++ cs.toList)[j]? = some u → RV S w m yv x u ∧ ownB (x, u) = none := by
        intro j x u hj1 hj2
        simp only [List.getElem?_map, Option.map_eq_some_iff] at hj1
        obtain ⟨y, hj1, rfl⟩ := hj1
        refine ⟨RV.view ?_, ownB_view _ _⟩
        by_cases c1 : j < first.length
        · rw [List.append_assoc, List.getElem?_append_left c1] at hj1
          rw [List.append_assoc, List.getElem?_append_left (by simpa [← hl1] using c1)] at hj2
          exact h1 j y u hj1 (by simpa using hj2)
        · by_cases c2 : j < first.length + c.args.size
          · rw [List.getElem?_append_left (by simpa using c2), List.getElem?_append_right (by omega)] at hj1
            rw [List.getElem?_append_left (by simpa [← hl1] using c2), List.getElem?_append_right (by simp [← hl1]; omega)] at hj2
            simp only [Array.length_toList, ← hl1, List.getElem?_map, Option.map_eq_some_iff, Array.getElem?_toList, Array.getElem?_map] at hj1 hj2
            obtain ⟨y1, hy1, rfl⟩ := hj1
            obtain ⟨y2, hy2, rfl⟩ := hj2
            rw [hy1] at hy2; cases hy2
            exact hev y1
          · rw [List.getElem?_append_right (by simp; omega)] at hj1
            rw [List.getElem?_append_right (by simp [← hl1]; omega)] at hj2
            simp only [List.length_append, List.length_map, Array.length_toList, Array.size_map, ← hl1] at hj1 hj2
            exact h2 _ y u hj1 (by simpa using hj2)
      have e0 : (fs.toList ++ (c.args.map a.eval).toList ++ cs.toList).toArray = fs ++ c.args.map a.eval ++ cs := by apply Array.ext'; simp
      split at hx
      · rename_i res hres
        cases hx
        split at hres <;> try (cases hres; done)
        rename_i hcl
        obtain ⟨hent, hcontract⟩ := hcall.p _ _ _ _ hres
        refine ⟨fun f' _ => trivial, ?_⟩
        rw [Oper.semAt_eq _ _ _ (by simp [ho]), hrun hent]
        refine ⟨fun hd => (by cases hd), ?_⟩
        have hc1 := hcontract S w (fs.toList ++ (c.args.map a.eval).toList ++ cs.toList) hlen (fun j x u hj1 hj2 => (hpairs j x u hj1 hj2).1.closed (closeds_get hcl j x hj1)) (fun b i hb => hr.lt b i (.inl hb))
        rw [e0] at hc1
        refine (CallsIn.mono hc1 ?_ : CallsIn Fence.wide 0 P k' _ w _)
        rintro e w' ⟨v, S', rfl, g1, g2, g3, g4⟩
        have hrel := (hr.below g1 g2 g3).cons (x := res.view) (v := v) g4.opened (ownB_view _ _)
        exact Nx.of hK (Gs.below hr g1 ⟨g2, g3⟩) hl (by simpa using hrel) (pvPut_ok hpv _ _)
      · split at hx <;> try (cases hx; done)
        rename_i res hp' hres
        cases hx
        obtain ⟨hent, hcontract⟩ := hcall.s _ _ _ _ _ hres
        refine ⟨fun f' _ => trivial, ?_⟩
        rw [Oper.semAt_eq _ _ _ (by simp [ho]), hrun hent]
        refine ⟨fun hd => (by cases hd), ?_⟩
        have hrel := hr.consAll (((first ++ (c.args.toList.map (evalA s.tm)) ++ caps).map AV.view).zip (fs.toList ++ (c.args.map a.eval).toList ++ cs.toList)) (fun p hp => by
          obtain ⟨j, hj⟩ := List.mem_iff_getElem?.1 hp
          rw [List.getElem?_zip_eq_some] at hj
          exact hpairs j p.1 p.2 hj.1 hj.2)
        have hc1 := hcontract S X yv w m (s.tm.zip a.tmps.toList ++ B) hv (fs.toList ++ (c.args.map a.eval).toList ++ cs.toList) hlen hrel
        rw [e0] at hc1
        refine (CallsIn.mono hc1 ?_ : CallsIn Fence.wide 0 P k' _ w _)
        rintro e w' ⟨v, S', m', hv', rfl, g3, g4⟩
        exact Nx.of hK g3 hl (by simpa using g4) (by intro p hp; cases hp)
  · cases hx

theorem evalA_op {s : RS} {a : Act} (h : RelS S X yv w m B hv s a) : ∀ y ∈ o.op.operands, RV S w m yv (evalA s.tm y) (a.eval y) := fun y _ => evalA_sound h y

theorem put_self {a : Act} {d : Nat} {v : Value} (hd : d < a.tmps.size) : (a.put (some d) v).tmps[d]? = some v := by simp [Act.put, hd]
theorem put_other {a : Act} {d x : Nat} {v : Value} (hd : x ≠ d) : (a.put (some d) v).tmps[x]? = a.tmps[x]? := by
  simp [Act.put, Array.getElem?_setIfInBounds_ne (Ne.symm hd)]

/-- a place that an accumulator is read out of -/
theorem pvRead_ok {v : Value} (h : RelS S X yv w m B hv s a) (hrun : (execOp a.eval o).run P w = .ok (.value v) w') :
    PvOk (pvRead P s o).toList (a.put o.dst v).tmps hv := by
  obtain ⟨hl, hr, hpv⟩ := h
  have hev := evalA_sound (s := s) (a := a) ⟨hl, hr, hpv⟩
  intro p hp
  unfold pvRead at hp
  split at hp
  · rename_i d x hd ho
    split at hp <;> try (cases hp; done)
    rename_i hc
    simp only [Bool.and_eq_true, bne_iff_ne, ne_eq] at hc
    obtain ⟨⟨hc1, hc2⟩, hc3⟩ := hc
    simp only [Option.toList_some, List.mem_singleton] at hp
    subst hp
    have hdl : d < a.tmps.size := by
      rw [← hl]
      cases hh : s.tm[d]? with
      | none => rw [hh] at hc3; cases hc3
      | some y => exact (List.getElem?_eq_some_iff.1 hh).1
    have hxl : x < s.tm.length := by
      rcases Nat.lt_or_ge x s.tm.length with h' | h'
      · exact h'
      · simp only [List.getD, List.getElem?_eq_none h'] at hc1; cases hc1
    have hxs : x < a.tmps.size := by rw [← hl]; exact hxl
    have hv : v = a.tmps[x] := by
      unfold execOp at hrun
      rw [ho] at hrun
      simp only [Sem.run_pure, Result.ok.injEq, Next.value.injEq, Act.eval] at hrun
      rw [← hrun.1]; simp [hxs]
    refine ⟨v, ?_, ?_⟩
    · rw [hd]; exact put_self hdl
    · rw [hd, put_other hc2, hv]; simp [hxs]
  · rename_i d t q hd ho
    split at hp <;> try (cases hp; done)
    rename_i g off hq
    split at hp <;> try (cases hp; done)
    rename_i blk hb
    split at hp <;> try (cases hp; done)
    rename_i hc
    simp only [Bool.and_eq_true, Bool.not_eq_true'] at hc
    obtain ⟨⟨hc1, hc2⟩, hc3⟩ := hc
    simp only [Option.toList_some, List.mem_singleton] at hp
    subst hp
    have hdl : d < a.tmps.size := by
      rw [← hl]
      cases hh : s.tm[d]? with
      | none => rw [hh] at hc3; cases hc3
      | some y => exact (List.getElem?_eq_some_iff.1 hh).1
    have hq' := hev (.tmp q)
    simp only [evalA, hq] at hq'
    generalize hqe : a.eval (.tmp q) = vq at hq'
    cases hq' with
    | ptr hm =>
      obtain ⟨blk', vs, cur, e, g1, g2, g3, g4, g5, g6, g7, g8, g9, g10, _⟩ := hr.block hm
      rw [hb] at g1; cases g1
      have hol : off < blk.cells.length := by
        rcases Nat.lt_or_ge off blk.cells.length with h' | h'
        · exact h'
        · simp only [List.getD, List.getElem?_eq_none h'] at hc1; cases hc1
      have hov : off < vs.length := by simp only at g3 g6; omega
      have hcell := cells_of_take g8 g9 off vs[off] (by simp [hov])
      have hv : v = vs[off] := by
        unfold execOp at hrun
        rw [ho] at hrun
        simp only [hqe, Instr.loadAt, Instr.sureAddr, loadVar, Sem.run_bind, Sem.run_pure, Result.andThen_ok] at hrun
        cases hu : P.underlying t with
        | none => simp [isAgg, underlying, hu] at hrun
        | some dd =>
          simp only [isAggT_run hu, hc2, Result.andThen_ok, Bool.false_eq_true, if_false] at hrun
          simp only at hcell
          rw [run_load, hcell] at hrun
          simp at hrun
          exact hrun.1.symm
      exact ⟨v, vs, by rw [hd]; exact put_self hdl, g2, by rw [hv]; simp [hov]⟩
  · cases hp

theorem PvOk.app {p1 p2 : List (Nat × Loc)} {tmps : Array Value} (h1 : PvOk p1 tmps hv) (h2 : PvOk p2 tmps hv) : PvOk (p1 ++ p2) tmps hv := by
  intro p hp
  rcases List.mem_append.1 hp with h | h
  · exact h1 p h
  · exact h2 p h

theorem wantedA_spec {b : Bool} (h : RelS S X yv w m B hv s a) (hw : wantedA ops o s.tm = some b) : Region.wanted o (yielded ops a.tmps) = b := by
  unfold wantedA at hw
  unfold Region.wanted
  split at hw
  · rename_i hg; cases hw; rw [hg]
  · rename_i j want hg
    rw [hg]
    split at hw <;> try (cases hw; done)
    rename_i t ht
    have key : ∀ z : Value, s.tm.getD t .bad = .d (.s z) → a.tmps[t]? = some z := by
      intro z hb
      have htl : t < s.tm.length := by
        rcases Nat.lt_or_ge t s.tm.length with h' | h'
        · exact h'
        · simp [List.getD, List.getElem?_eq_none h'] at hb
      have hxl : s.tm[t]? = some (.d (.s z)) := by
        have : s.tm[t]? = some (s.tm.getD t .bad) := by simp [List.getD, htl]
        rw [hb] at this; exact this
      obtain ⟨v, h1, h2⟩ := zip_mem h.1 hxl
      have hv := h.2.1.rv _ (List.mem_append_left _ h2)
      have hv' : v = z := toVal?_spec (x := .d (.s z)) rfl hv
      rw [← hv']; exact h1
    split at hw <;> try (cases hw; done)
    · rename_i b' hb
      cases hw
      simp [yielded, ht, key _ hb]
    · rename_i b' hb
      cases hw
      simp [yielded, ht, key _ hb]

theorem xStep_sound {r : Option Nat} {K : Act → World → Prop} {Q : Exit → Act → World → Prop} (hcall : CallOk P call) (h : RelS S X yv w m B hv s a) (hx : xStep P call ops s o = some s') (hK : Nx S X yv w m B s' a K) :
    if Region.wanted o (yielded ops a.tmps) then o.wpIn (Fn r) 0 P a w K Q else (∀ f, o.about P w a.eval = some f → (Fn r).fn f) ∧ K (a.put o.dst undef) w := by
  unfold xStep at hx
  split at hx
  · rename_i hw
    cases hx
    rw [wantedA_spec h hw]
    simp only [Bool.false_eq_true, if_false]
    refine ⟨fun f _ => trivial, ?_⟩
    obtain ⟨hl, hr, hpv⟩ := h
    exact Nx.of hK (Gs.refl S X none w m) hl (hr.cons (.d (.s undef)) rfl) (pvPut_ok hpv _ _)
  · rename_i hw
    rw [wantedA_spec h hw]
    simp only [if_true]
    split at hx
    · rename_i s1 hs1
      cases hx
      exact xa_sound h hs1 hK
    · split at hx
      · rename_i s1 hs1
        cases hx
        exact xh_sound hcall h hs1 hK
      · split at hx <;> try (cases hx; done)
        rename_i x hq
        cases hx
        obtain ⟨hl, hr, hpv⟩ := h
        have hr' : Rel S X yv w m ((s.tm.zip a.tmps.toList ++ B) ++ cellPairs s.hp hv) s.hp hv := by simpa using hr
        obtain ⟨v, w', S', g1, g2, g3, g4⟩ := xq_sound hr' (evalA_op (o := o) ⟨hl, hr, hpv⟩) hq
        have hd : ∀ c, o.op ≠ .defer c := by
          intro c hc
          simp [xq, hc] at hq
        refine wpIn_value hd g1 (.inl rfl) ?_
        exact Nx.of hK (Gs.below hr g2 g3) hl (by simpa using g4) ((pvRead_ok ⟨hl, hr, hpv⟩ g1).app (pvPut_ok hpv _ _))
  · cases hx

/-- a list of operations -/
def xOps (P : Program) (call : CallT) (ops : Array Oper) : List Oper → RS → Option RS
  | [], s => some s
  | o :: l, s => match xStep P call ops s o with
    | some s' => xOps P call ops l s'
    | none => none

theorem xOps_sound {r : Option Nat} {Q : Exit → Act → World → Prop} (hcall : CallOk P call) {rest : List Oper} : ∀ {l : List Oper} {s s' : RS} {S : Pr} {w : World} {m : List MB} {hv : List (List Value)} {a : Act}, RelS S X yv w m B hv s a →
    xOps P call ops l s = some s' → Nx S X yv w m B s' a (wpListIn (Fn r) 0 P ops Q rest) → wpListIn (Fn r) 0 P ops Q (l ++ rest) a w
  | [], s, s', S, w, m, hv, a, h, hx, hK => by
    simp only [xOps, Option.some.injEq] at hx
    subst hx
    exact hK S w m hv a (Gs.refl _ _ _ _ _) h rfl rfl
  | o :: l, s, s', S, w, m, hv, a, h, hx, hK => by
    simp only [xOps] at hx
    split at hx <;> try (cases hx; done)
    rename_i s1 hs1
    refine xStep_sound hcall h hs1 fun S' w' m' hv' a' hg hr hd hsz => ?_
    exact xOps_sound hcall hr hx fun S'' w'' m'' hv'' a'' hg' hr' hd' hsz' => hK S'' w'' m'' hv'' a'' (hg.trans hg') hr' (hd'.trans hd) (hsz'.trans hsz)

end
end Go.Proofs.Ytgdeoaiakdkhcaa.Am
