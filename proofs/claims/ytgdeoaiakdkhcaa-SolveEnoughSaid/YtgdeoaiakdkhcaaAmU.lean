/- Functions: results, what a caller may do with them, contracts out of walks. -/
import Derived.Test.YtgdeoaiakdkhcaaAmT
namespace Go.Proofs.Ytgdeoaiakdkhcaa.Am
set_option linter.unusedVariables false
open Go Go.RowKit

/-- a result -/
def resA (P : Program) (hp : List Blk) (tm : List AV) : ResultVar → Option AV
  | .tmp t => some (tm.getD t .bad).view
  | .cell a t => xLoad P hp t (tm.getD a .bad)

def resAs (P : Program) (hp : List Blk) (tm : List AV) : List ResultVar → Option (List AV)
  | [] => some []
  | x :: l => match resA P hp tm x, resAs P hp tm l with
    | some y, some ys => some (y :: ys)
    | _, _ => none

/-- a result, read -/
def resSem (tmps : Array Value) : ResultVar → Sem Value
  | .tmp t => pure (tmps.getD t undef)
  | .cell a t => do loadVar t (← asAddr (tmps.getD a undef))

/-- what a call yields -/
def resV : List AV → AV
  | [x] => x
  | xs => .tup xs

mutual
/-- as data: blocks that turn no more -/
def sealV (hp : List Blk) : AV → Option AV
  | .ref g off n cap k => match hp[g]? with
    | some blk => if blk.grow then none else (chunk k n ((blk.cells.drop off).take (n * k))).map fun xs => .d (.sl k xs)
    | none => none
  | .ptr g off => match hp[g]? with
    | some blk => if blk.grow then none else match toDs (blk.cells.drop off) with
      | some (d :: ds) => some (.rptr (d :: ds))
      | _ => none
    | none => none
  | .own _ k xs => some (.d (.sl k xs))
  | .agg cs => (sealVs hp cs).map .agg
  | .tup cs => (sealVs hp cs).map .tup
  | .fn f a b => match sealVs hp a, sealVs hp b with
    | some a, some b => some (.fn f a b)
    | _, _ => none
  | .gref .. | .gptr .. | .yl => none
  | x => some x
def sealVs (hp : List Blk) : List AV → Option (List AV)
  | [] => some []
  | x :: l => match sealV hp x, sealVs hp l with
    | some y, some ys => some (y :: ys)
    | _, _ => none
end

/-- cells of the activation's own blocks too -/
def withBlocks (S : Pr) (m : List MB) : Pr := fun b i => S b i ∨ ∃ (g : Nat) (p : MB), m[g]? = some p ∧ p.b = b ∧ i < p.len

section
variable {P : Program} {S S' S'' X X' V V' Z : Pr} {L : Nat → Prop} {r : Option Nat} {lo : Nat} {yv : Option Nat} {w w' w'' : World} {m m' m'' : List MB} {A B : List (AV × Value)} {hp hp' : List Blk} {hv hv' : List (List Value)} {call : CallT} {a a' : Act} {o : Oper} {ops : Array Oper} {Ev : Env P}
  {s : St Ev.β} {Q Q' : Exit → St Ev.β → Prop} {c c' : Code}

theorem sealVs_spec : ∀ {cs ys : List AV}, sealVs hp cs = some ys → ys.length = cs.length ∧ ∀ (i : Nat) (x : AV), cs[i]? = some x → ∃ y, ys[i]? = some y ∧ sealV hp x = some y
  | [], ys, h => by simp only [sealVs, Option.some.injEq] at h; subst h; simp
  | x :: l, ys, h => by
    simp only [sealVs] at h
    split at h <;> try (cases h; done)
    rename_i y ys' h1 h2
    cases h
    obtain ⟨h3, h4⟩ := sealVs_spec h2
    refine ⟨by simp [h3], fun i z hz => ?_⟩
    cases i with
    | zero => simp at hz; subst hz; exact ⟨y, rfl, h1⟩
    | succ i => simp at hz; simpa using h4 i z hz

/-- the cells of a block, from some place on -/
theorem Rel.cellsOf (h : Rel S X yv w m (B ++ cellPairs hp hv) hp hv) {g off : Nat} {p : MB} {blk : Blk} (hm : m[g]? = some p) (hb : hp[g]? = some blk) :
    ∃ us : List Value, RVs S w m yv (blk.cells.drop off) us ∧ (∀ (j : Nat) (u : Value), us[j]? = some u → w.cell? ⟨p.b, off + j, none⟩ = some u ∧ off + j < p.len) ∧ (∀ u ∈ us, u.oneCell' = true) := by
  obtain ⟨blk', vs, cur, e, g1, g2, g3, g4, g5, g6, g7, g8, g9, g10, _⟩ := h.block hm
  rw [hb] at g1; cases g1
  refine ⟨vs.drop off, ⟨by simp; omega, fun i c u h1 h2 => ?_⟩, fun j u hu => ?_, fun u hu => g7 u (List.mem_of_mem_drop hu)⟩
  · simp only [List.getElem?_drop] at h1 h2
    obtain ⟨pre, post, e1, _⟩ := cellPairs_split hb g2
    refine h.rv (c, u) (List.mem_append_right _ ?_)
    rw [e1]
    refine List.mem_append_left _ (List.mem_append_right _ (List.mem_iff_getElem?.2 ⟨off + i, ?_⟩))
    rw [List.getElem?_zip_eq_some]; exact ⟨h1, h2⟩
  · simp only [List.getElem?_drop] at hu
    exact ⟨cells_of_take g8 g9 _ u hu, by have := (List.getElem?_eq_some_iff.1 hu).1; omega⟩

theorem RVs.take {cs : List AV} {us : List Value} (h : RVs S w m yv cs us) (n : Nat) : RVs S w m yv (cs.take n) (us.take n) := by
  refine ⟨by simp [h.1], fun i c v h1 h2 => ?_⟩
  rw [List.getElem?_take] at h1 h2
  split at h1 <;> try (cases h1; done)
  rename_i hi
  rw [if_pos hi] at h2
  exact h.2 i c v h1 h2

theorem DR.blocks {x : Dv} {v : Value} (h : DR S w x v) : DR (withBlocks S m) w x v := h.ext (fun _ _ h => .inl h) (fun _ _ _ _ h => h)

/-- what is sealed is read by all -/
theorem seal_sound (h : Rel S X yv w m (B ++ cellPairs hp hv) hp hv) {x : AV} {v : Value} (hr : RV S w m yv x v) : ∀ {y : AV}, sealV hp x = some y → RV (withBlocks S m) w [] none y v := by
  induction hr with
  | d h1 => intro y hy; simp only [sealV, Option.some.injEq] at hy; subst hy; exact .d h1.blocks
  | agg hl h1 ih =>
    intro y hy
    simp only [sealV, Option.map_eq_some_iff] at hy
    obtain ⟨ys, h2, rfl⟩ := hy
    obtain ⟨h3, h4⟩ := sealVs_spec h2
    refine .agg (h3.trans hl) fun i c v hc hv => ?_
    have hi : i < ys.length := (List.getElem?_eq_some_iff.1 hc).1
    obtain ⟨y, h5, h6⟩ := h4 i _ (List.getElem?_eq_some_iff.2 ⟨by omega, rfl⟩)
    rw [hc] at h5; cases h5
    exact ih i _ v (List.getElem?_eq_some_iff.2 ⟨by omega, rfl⟩) hv h6
  | tup hl h1 ih =>
    intro y hy
    simp only [sealV, Option.map_eq_some_iff] at hy
    obtain ⟨ys, h2, rfl⟩ := hy
    obtain ⟨h3, h4⟩ := sealVs_spec h2
    refine .tup (h3.trans hl) fun i c v hc hv => ?_
    have hi : i < ys.length := (List.getElem?_eq_some_iff.1 hc).1
    obtain ⟨y, h5, h6⟩ := h4 i _ (List.getElem?_eq_some_iff.2 ⟨by omega, rfl⟩)
    rw [hc] at h5; cases h5
    exact ih i _ v (List.getElem?_eq_some_iff.2 ⟨by omega, rfl⟩) hv h6
  | own h1 h2 => intro y hy; simp only [sealV, Option.some.injEq] at hy; subst hy; exact .d h1.blocks
  | ownNil => intro y hy; simp only [sealV, Option.some.injEq] at hy; subst hy; exact .d (.nil _)
  | full h1 => intro y hy; simp only [sealV, Option.some.injEq] at hy; subst hy; exact .full h1.blocks
  | rptr vals hne hsp hs hc hr h1 =>
    intro y hy; simp only [sealV, Option.some.injEq] at hy; subst hy
    exact .rptr vals hne hsp (fun j c h => .inl (hs j c h)) hc (fun j c h => (hr j c h).blocks) h1
  | ref hm hfit hn =>
    rename_i g off n cap k b len ver
    intro y hy
    simp only [sealV] at hy
    split at hy <;> try (cases hy; done)
    rename_i blk hb
    split at hy <;> try (cases hy; done)
    simp only [Option.map_eq_some_iff] at hy
    obtain ⟨xs, h1, rfl⟩ := hy
    obtain ⟨us, h2, h3, h4⟩ := h.cellsOf (off := off) hm hb
    obtain ⟨blk', vs, cur, e, g1, g2, g3, _⟩ := h.block hm
    rw [hb] at g1; cases g1
    simp only at g3
    have hnk : n * k ≤ cap * k := Nat.mul_le_mul_right k hn
    have hul : (us.take (n * k)).length = n * k := by
      have := h2.1
      simp at this ⊢; omega
    obtain ⟨h5, h6⟩ := chunk_spec h1 (h2.take (n * k)) hul (fun u hu => h4 u (List.mem_of_mem_take hu))
    have h7 : Flat (withBlocks S m) w k xs (us.take (n * k)) := h6.ext (fun _ _ h => .inl h) (fun _ _ _ _ h => h)
    subst h5
    refine .d (DR.ofFlat (a := ⟨b, off, none⟩) h7 (fun j u hu => ?_) hn (.inl rfl))
    rw [List.getElem?_take] at hu
    split at hu <;> try (cases hu; done)
    obtain ⟨h8, h9⟩ := h3 j u hu
    exact ⟨h8, .inr ⟨g, _, hm, rfl, h9⟩⟩
  | ptr hm =>
    rename_i g off b len ver
    intro y hy
    simp only [sealV] at hy
    split at hy <;> try (cases hy; done)
    rename_i blk hb
    split at hy <;> try (cases hy; done)
    split at hy <;> try (cases hy; done)
    rename_i d ds h1
    cases hy
    obtain ⟨us, h2, h3, h4⟩ := h.cellsOf (off := off) hm hb
    obtain ⟨h5, h6⟩ := toDs_spec h1
    have hget : ∀ (j : Nat) (x : Dv), (d :: ds)[j]? = some x → us[j]? = some (us.getD j default) := by
      intro j x hx
      have : j < us.length := by rw [← h2.1, ← h5]; exact (List.getElem?_eq_some_iff.1 hx).1
      simp [List.getD, this]
    refine .rptr (fun j => us.getD j default) (by simp) rfl (fun j x hx => .inr ⟨g, _, hm, rfl, (h3 j _ (hget j x hx)).2⟩) (fun j x hx => (h3 j _ (hget j x hx)).1) (fun j x hx => ?_) (fun j x hx => h4 _ (List.mem_of_getElem? (hget j x hx)))
    have hj : j < (blk.cells.drop off).length := by rw [← h5]; exact (List.getElem?_eq_some_iff.1 hx).1
    have hc : (blk.cells.drop off)[j]? = some (blk.cells.drop off)[j] := List.getElem?_eq_getElem hj
    exact (toD?_spec (h6 j _ x hc hx) (h2.2 j _ _ hc (hget j x hx))).blocks
  | gref => intro y hy; simp [sealV] at hy
  | gptr => intro y hy; simp [sealV] at hy
  | fn hf hl hl' h1 h1' ih ih' =>
    intro y hy
    simp only [sealV] at hy
    split at hy <;> try (cases hy; done)
    rename_i ya yb h2 h2'
    cases hy
    obtain ⟨h3, h4⟩ := sealVs_spec h2
    obtain ⟨h3', h4'⟩ := sealVs_spec h2'
    refine .fn hf (h3.trans hl) (h3'.trans hl') (fun i c v hc hv => ?_) (fun i c v hc hv => ?_)
    · have hi := (List.getElem?_eq_some_iff.1 hc).1
      obtain ⟨y, h5, h6⟩ := h4 i _ (List.getElem?_eq_some_iff.2 ⟨by omega, rfl⟩)
      rw [hc] at h5; cases h5
      exact ih i _ v (List.getElem?_eq_some_iff.2 ⟨by omega, rfl⟩) hv h6
    · have hi := (List.getElem?_eq_some_iff.1 hc).1
      obtain ⟨y, h5, h6⟩ := h4' i _ (List.getElem?_eq_some_iff.2 ⟨by omega, rfl⟩)
      rw [hc] at h5; cases h5
      exact ih' i _ v (List.getElem?_eq_some_iff.2 ⟨by omega, rfl⟩) hv h6
  | yl => intro y hy; simp [sealV] at hy
  | bad => intro y hy; simp only [sealV, Option.some.injEq] at hy; subst hy; exact .bad

/-! ### results -/
theorem tm_rv {s : RS} (h : RelS S X yv w m B hv s a) (t : Nat) : RV S w m yv (s.tm.getD t .bad) (a.tmps.getD t undef) := by
  have := evalA_sound h (.tmp t)
  simpa [evalA, Act.eval] using this

theorem resA_sound {s : RS} (h : RelS S X yv w m B hv s a) {x : ResultVar} {y : AV} (hx : resA P s.hp s.tm x = some y) :
    ∃ v, (resSem a.tmps x).run P w = .ok v w ∧ RV S w m yv y v ∧ ownB (y, v) = none := by
  cases x with
  | tmp t =>
    simp only [resA, Option.some.injEq] at hx
    subst hx
    exact ⟨a.tmps.getD t undef, rfl, (tm_rv h t).view, ownB_view _ _⟩
  | cell p t =>
    simp only [resA, xLoad] at hx
    split at hx <;> try (cases hx; done)
    rename_i cs hcs
    have hr : Rel S X yv w m ((s.tm.zip a.tmps.toList ++ B) ++ cellPairs s.hp hv) s.hp hv := by simpa using h.2.1
    obtain ⟨b, o, us, e1, e2, e3, e4, e5⟩ := cellsAt_sound hr (tm_rv h p) hcs
    obtain ⟨v, h1, h2, h3⟩ := load_sound (P := P) e2 e3 e5 hx
    refine ⟨v, ?_, h2, h3⟩
    simp only [resSem, Sem.run_bind, e1, asAddr, Sem.run_pure, Result.andThen_ok, h1]

theorem resAs_sound {s : RS} (h : RelS S X yv w m B hv s a) : ∀ {l : List ResultVar} {ys : List AV}, resAs P s.hp s.tm l = some ys →
    ∃ vs : List Value, (l.mapM (resSem a.tmps)).run P w = .ok vs w ∧ RVs S w m yv ys vs
  | [], ys, hx => by simp only [resAs, Option.some.injEq] at hx; subst hx; exact ⟨[], rfl, rfl, by simp⟩
  | x :: l, ys, hx => by
    simp only [resAs] at hx
    split at hx <;> try (cases hx; done)
    rename_i y ys' h1 h2
    cases hx
    obtain ⟨v, h3, h4, _⟩ := resA_sound h h1
    obtain ⟨vs, h5, h6⟩ := resAs_sound h h2
    refine ⟨v :: vs, ?_, by simp [h6.1], fun i c u hc hu => ?_⟩
    · simp only [List.mapM_cons, Sem.run_bind, h3, Result.andThen_ok, h5, Sem.run_pure]
    · cases i with
      | zero => simp at hc hu; subst hc; subst hu; exact h4
      | succ i => simp at hc hu; exact h6.2 i c u hc hu

theorem results_sound {s : RS} {fn : Func} (h : RelS S X yv w m B hv s a) {ys : List AV} (hx : resAs P s.hp s.tm fn.results.toList = some ys) : ∃ v, (results fn a.tmps).run P w = .ok v w ∧ RV S w m yv (resV ys) v := by
  obtain ⟨vs, h1, h2⟩ := resAs_sound h hx
  refine ⟨if h : vs.toArray.size = 1 then vs.toArray[0] else .tuple vs.toArray, ?_, ?_⟩
  · have e0 : results fn a.tmps = (do let vs ← fn.results.mapM (resSem a.tmps); pure (if h : vs.size = 1 then vs[0] else .tuple vs)) := by
      unfold results
      congr
    rw [e0, Array.mapM_eq_mapM_toList]
    simp only [Sem.run_bind]
    have e : (List.toArray <$> fn.results.toList.mapM (resSem a.tmps)).run P w = .ok vs.toArray w := by
      rw [map_eq_pure_bind, Sem.run_bind, h1]; rfl
    rw [e]
    rfl
  · match ys, vs, h2 with
    | [], vs, h2 =>
      have : vs = [] := by simpa using h2.1.symm
      subst this
      simp only [resV]
      exact .tup rfl (by simp)
    | [y], vs, h2 =>
      obtain ⟨v, rfl⟩ : ∃ v, vs = [v] := by
        have := h2.1
        match vs, this with
        | [v], _ => exact ⟨v, rfl⟩
      exact h2.2 0 y v rfl rfl
    | y :: y' :: ys, vs, h2 =>
      have hne : ¬ vs.toArray.size = 1 := by have := h2.1; simp at this ⊢; omega
      rw [dif_neg hne]
      simp only [resV]
      exact .tup (by simpa using h2.1) (fun i c v hc hv => h2.2 i c v hc (by simpa using hv))

/-! ### leaving -/
theorem leaves_of {fn : Func} {tmps : Array Value} {R : Ending → World → Prop} {K : World → Prop} (hK : ∀ w d, K w → lo ≤ d → w.heap[d]? = some (.deferred (some [])) → K (w.putObj d (.deferred none)))
    (hend : ∀ w, K w → ∃ v, (results fn tmps).run P w = .ok v w ∧ R (.returned v) w) : ∀ {ds : List Deferred} {w : World}, Marks lo w ds → K w → LeavesInM (Fn none) 0 P fn tmps R ds .returning w := by
  intro ds w ⟨bs, h1, h2, h3⟩ hk
  subst h1
  induction bs generalizing w with
  | nil => exact hend w hk
  | cons b bs ih =>
    simp only [List.nodup_cons] at h2
    refine ⟨by simp, .inl ⟨b, w.putObj b (.deferred none), rfl, run_takeDeferred (h3 b (by simp)).2, ih h2.2 (fun b' hb' => ⟨(h3 b' (by simp [hb'])).1, ?_⟩) (hK w b hk (h3 b (by simp)).1 (h3 b (by simp)).2)⟩⟩
    have hne : b' ≠ b := fun e => h2.1 (e ▸ hb')
    rw [World.putObj_heap_other hne]
    exact (h3 b' (by simp [hb'])).2

/-- how a function's body ends -/
def FnPost {β : Type} (P : Program) (fn : Func) (R : AV → List Blk → β → Prop) (e : Exit) (s : St β) : Prop :=
  (e = .ret ∨ e = .normal) ∧ ∃ ys, resAs P s.hp s.tm fn.results.toList = some ys ∧ R (resV ys) s.hp s.b

/-- the temporaries at a function's start -/
def startTm (fn : Func) (args : List AV) : List AV := args ++ List.replicate (fn.ntmps - args.length) .bad

theorem start_rel {fn : Func} {args : List AV} {vs : List Value} {tmps : Array Value} {C : List (AV × Value)} (ht : tmps = vs.toArray ++ Array.replicate (fn.ntmps - vs.toArray.size) undef) (hl : args.length = vs.length)
    (h : Rel S X yv w m (args.zip vs ++ C) hp hv) : (startTm fn args).length = tmps.size ∧ Rel S X yv w m ((startTm fn args).zip tmps.toList ++ C) hp hv := by
  subst ht
  refine ⟨by simp [startTm, hl], ?_⟩
  have e : (startTm fn args).zip (vs.toArray ++ Array.replicate (fn.ntmps - vs.toArray.size) undef).toList = args.zip vs ++ (List.replicate (fn.ntmps - args.length) AV.bad).zip (List.replicate (fn.ntmps - args.length) undef) := by
    simp [startTm, hl, List.zip_append hl]
  rw [e]
  have h1 := h.pushAll ((List.replicate (fn.ntmps - args.length) AV.bad).zip (List.replicate (fn.ntmps - args.length) undef)) (fun p hp => by
    obtain ⟨p1, p2⟩ := p
    have := (List.of_mem_zip hp).1
    have : p1 = .bad := List.eq_of_mem_replicate this
    subst this
    exact ⟨.bad, rfl⟩)
  refine h1.perm ?_
  rw [← List.append_assoc]
  exact List.Perm.append_right _ List.perm_append_comm

theorem enter_ok {f : Nat} {fn : Func} {c : Code} (hf : P.funcs[f]? = some fn) (hb : fn.body = some c) (hn : (fn.name == "runtime.NumGoroutine") = false) (as : Array Value) (w : World) : (callFunc f as).run P w = .ok (.enter f as) w := by
  unfold callFunc
  simp only [Sem.run_bind, run_program, Result.andThen_ok, hf, hn, hb]
  rfl

theorem Tr.putObj (h2 : Tr Z L S w S' w') {d : Nat} {o o' : Obj} (hd : w.heap.size ≤ d) (hdef : w'.heap[d]? = some o) : Tr Z L S w S' (w'.putObj d o') := by
  refine ⟨h2.os, h2.tape, h2.output, by simpa using h2.size, fun b c e f hb => ?_, fun b o hb ho => ?_, fun b i v hs hv => ?_, h2.up, h2.new, fun b i hs => by simpa using h2.lt b i hs⟩
  · obtain ⟨c', h3, h4⟩ := h2.cells b c e f hb
    have hne : b ≠ d := fun he => by have := (Array.getElem?_eq_some_iff.1 hb).1; omega
    exact ⟨c', by rw [World.putObj_heap_other hne]; exact h3, h4⟩
  · have hne : b ≠ d := fun he => by have := (Array.getElem?_eq_some_iff.1 hb).1; omega
    rw [World.putObj_heap_other hne]; exact h2.objs b o hb ho
  · have hne : b ≠ d := fun he => by have := World.block_lt_of_cell? w ⟨b, i, none⟩ hv; simp at this; omega
    rw [World.cell?_of_block (w := w') (a := ⟨b, i, none⟩) (World.putObj_heap_other hne)]
    exact h2.same b i v hs hv

/-- a call, walked -/
theorem calls_of_W {f : Nat} {fn : Func} {c : Code} {args : List AV} {vs : List Value} {b : Ev.β} {R : AV → List Blk → Ev.β → Prop} {RR : Ending → World → Prop} (hf : P.funcs[f]? = some fn) (hb : fn.body = some c) (hl : args.length = vs.length)
    (hW : W Ev c ⟨startTm fn args, hp, b⟩ (FnPost P fn R)) (hr : Rel S X Ev.yl w m (args.zip vs ++ (B ++ cellPairs hp hv)) hp hv) (hV : ∀ b i, V b i → X b i) (hE : Ev.E b S V w) (hN : Ev.N ≤ w.heap.size)
    (hR : ∀ {x S' X' V' w' m' hv' hp' v b'}, R x hp' b' → Tr (fun b i => ¬ X b i ∨ V b i) Ev.L S w S' w' → (∀ b i, X b i → X' b i) → MStep m m' → Rel S' X' Ev.yl w' m' (B ++ cellPairs hp' hv') hp' hv' → Ev.E b' S' V' w' → RV S' w' m' Ev.yl x v → RR (.returned v) w') :
    CallsIn Fence.wide 0 P f vs.toArray w RR := by
  refine callsIn_of_wp_marks (F := Fn none) hf hb trivial ?_
  obtain ⟨h1, h2⟩ := start_rel (fn := fn) rfl hl hr
  refine wpIn_mono (hW w.heap.size none S X V w m B hv _ ⟨⟨h1, h2, by intro p hp; cases hp⟩, hV, hE, (fun l hl => by cases hl), ⟨[], rfl, List.nodup_nil, by simp⟩, hN, Nat.le_refl _⟩) fun e a' w' ⟨s', S', X', V', m', hv', hq, hm, ht⟩ => ?_
  obtain ⟨he, ys, hys, hRy⟩ := hq
  have hleave : LeavesInM (Fn none) 0 P fn a'.tmps RR a'.defers .returning w' := by
    refine leaves_of (lo := w.heap.size) (K := fun w' => RelS S' X' Ev.yl w' m' B hv' s'.rs a' ∧ Ev.E s'.b S' V' w' ∧ Tr (fun b i => ¬ X b i ∨ V b i) Ev.L S w S' w') (fun w' d ⟨k1, k2, k3⟩ hd hdef => ?_) (fun w' ⟨k1, k2, k3⟩ => ?_) ht.marks ⟨ht.rel, ht.env, hm.1.tr⟩
    · exact ⟨⟨k1.1, k1.2.1.putObj hdef rfl, k1.2.2⟩, Ev.stableO _ k2 (Nat.le_trans hN hd) hdef rfl, k3.putObj hd hdef⟩
    · obtain ⟨v, h3, h4⟩ := results_sound (P := P) (fn := fn) k1 hys
      exact ⟨v, h3, hR hRy k3 hm.1.xs hm.2 (k1.2.1.sub (List.sublist_append_right _ _)) k2 h4⟩
  rcases he with rfl | rfl
  · exact hleave
  · exact hleave

/-- nobody looks on -/
def Env.none (P : Program) (yl : Option Nat) : Env P := Env.alone P yl 0 (fun _ _ _ => True) (fun _ _ => trivial) (fun _ _ _ _ _ => trivial)

theorem below_of_tr (h : Tr Z L S w S' w') (hZ : ∀ b i, b < w.heap.size → ¬ Z b i) (hL : ∀ b, ¬ L b) : Below w.heap.size w w' := by
  refine ⟨h.os, h.tape, h.output, h.size, fun k hk => ?_⟩
  have hk1 : w.heap[k]? = some w.heap[k] := by simp [hk]
  cases ho : w.heap[k] with
  | cells c e f =>
    rw [ho] at hk1
    obtain ⟨c', h1, h2⟩ := h.cells k c e f hk1
    rw [hk1, h1]
    congr 2
    apply Array.ext h2
    intro i hi hi'
    have h3 : w.cell? ⟨k, i, none⟩ = some c[i] := by simp [World.cell?, hk1, hi']
    have h4 := h.same k i _ (.inr (hZ k i hk)) h3
    simp only [World.cell?, h1] at h4
    simpa [hi] using h4
  | _ =>
    rw [ho] at hk1
    rcases h.objs k _ hk1 rfl with h1 | ⟨h1, _⟩
    · rw [hk1, h1]
    · exact absurd h1 (hL k)

/-- **A FUNCTION THAT TURNS NOTHING OF ITS CALLERS'** -/
theorem PCall.ofW {f : Nat} {fn : Func} {c : Code} {args : List AV} {x : AV} (hf : P.funcs[f]? = some fn) (hb : fn.body = some c) (hn : (fn.name == "runtime.NumGoroutine") = false) (hargs : args.map AV.view = args)
    (hW : ∀ (Ev : Env P) (b : Ev.β), W Ev c ⟨startTm fn args, [], b⟩ (FnPost P fn fun y hp _ => sealV hp y = some x)) : PCall P f args x := by
  refine ⟨enter_ok hf hb hn, fun S w vs hl hvs hlt => ?_⟩
  have hrel : Rel S (fun b _ => b < w.heap.size) none w [] (args.zip vs ++ ([] ++ cellPairs [] [])) [] [] := by
    have h0 : Rel S (fun b _ => b < w.heap.size) none w [] [] [] [] := ⟨fun b i h => h.elim (hlt b i) id, by simp, List.Pairwise.nil, by simp, by simp, by simp, rfl, rfl, by simp⟩
    have := h0.pushAll (args.zip vs) (fun p hp => by
      obtain ⟨j, hj⟩ := List.mem_iff_getElem?.1 hp
      rw [List.getElem?_zip_eq_some] at hj
      refine ⟨hvs j p.1 p.2 hj.1 hj.2, ?_⟩
      have hp1 : p.1.view = p.1 := by
        have h1 : (args.map AV.view)[j]? = some p.1.view := by simp [hj.1]
        rw [hargs, hj.1] at h1; exact (Option.some.inj h1).symm
      obtain ⟨p1, p2⟩ := p
      simp only at hp1
      rw [← hp1]; exact ownB_view _ _)
    simpa [cellPairs] using this
  refine calls_of_W (Ev := Env.none P none) (V := fun _ _ => False) (b := (() : Unit)) hf hb hl (hW (Env.none P _) (() : Unit)) hrel (fun _ _ h => h.elim) trivial (Nat.zero_le _) ?_
  intro y S' X' V' w' m' hv' hp' v b' hy htr0 hxs hm hr _ hyv
  have htr : Tr (fun b i => ¬ b < w.heap.size) (fun _ => False) S w S' w' := htr0.mono (fun b i h => h.resolve_right id) (fun _ h => h)
  refine ⟨v, withBlocks S' m', rfl, below_of_tr htr (fun b i hb hz => hz hb) (fun _ h => h), fun b i hs => .inl (htr.up b i hs), fun b i hs => ?_, (seal_sound (B := []) (by simpa using hr) hyv hy).view⟩
  rcases hs with hs | ⟨g, p, hg, rfl, hi⟩
  · rcases htr.new b i hs with h1 | h1 | h1
    · exact .inl h1
    · exact .inr ⟨Nat.le_of_not_lt h1, htr.lt b i hs⟩
    · exact .inr ⟨h1, htr.lt b i hs⟩
  · have hr' : Rel S' X' none w' m' (([] : List (AV × Value)) ++ cellPairs hp' hv') hp' hv' := hr
    obtain ⟨blk, us, cur, e, g1, g2, g3, g4, g5, g6, g7, g8, g9, g10, g11, g12⟩ := hr'.block hg
    have hlt' : p.b < w'.heap.size := (Array.getElem?_eq_some_iff.1 g8).1
    cases hfr : blk.fro with
    | true =>
      have hs := g12 hfr i hi
      rcases htr.new _ _ hs with h1 | h1 | h1
      · exact .inl h1
      · exact .inr ⟨Nat.le_of_not_lt h1, hlt'⟩
      · exact .inr ⟨h1, hlt'⟩
    | false =>
      refine .inr ⟨Nat.le_of_not_lt fun hb => ?_, hlt'⟩
      exact (g11 hfr i).2 (hxs _ _ hb)

/-- **A FUNCTION THAT MAY TURN ITS CALLER'S BLOCKS** -/
theorem SCall.ofW {f : Nat} {fn : Func} {c : Code} {args : List AV} {x : AV} {hp' : List Blk} (hf : P.funcs[f]? = some fn) (hb : fn.body = some c) (hn : (fn.name == "runtime.NumGoroutine") = false)
    (hW : ∀ (Ev : Env P) (b : Ev.β), W Ev c ⟨startTm fn args, hp, b⟩ (FnPost P fn fun y hp1 _ => y = x ∧ hp1 = hp')) : SCall P f args hp x hp' := by
  refine ⟨enter_ok hf hb hn, fun S X yv w m B hv vs hl hrel => ?_⟩
  refine calls_of_W (Ev := Env.none P yv) (V := fun _ _ => False) (b := (() : Unit)) hf hb hl (hW (Env.none P _) (() : Unit)) hrel (fun _ _ h => h.elim) trivial (Nat.zero_le _) ?_
  intro y S' X' V' w' m' hv' hp1 v b' hy htr0 hxs hm hr _ hyv
  have htr : Tr (fun b i => ¬ X b i) (fun _ => False) S w S' w' := htr0.mono (fun b i h => h.resolve_right id) (fun _ h => h)
  obtain ⟨rfl, rfl⟩ := hy
  refine ⟨v, S', m', hv', rfl, ⟨⟨⟨htr.os, htr.tape, htr.output, htr.size, htr.cells, fun b o hb ho _ => (htr.objs b o hb ho).resolve_right (fun h => h.1)⟩, fun b i v hs hv => htr.same b i v (hs.imp id fun h h' => h' h) hv⟩, htr.up, fun b i hs => ?_, hm⟩, (hr.lessX hxs).cons hyv.view (ownB_view _ _)⟩
  rcases htr.new b i hs with h1 | h1 | h1
  · exact .inl h1
  · exact .inr h1
  · exact .inr fun hx => by have := hrel.lt b i (.inr hx); omega

end
end Go.Proofs.Ytgdeoaiakdkhcaa.Am
