/- A logic over abstract states: environments, lists of operations, code. -/
import Derived.Test.YtgdeoaiakdkhcaaAmQ
namespace Go.Proofs.Ytgdeoaiakdkhcaa.Am
set_option linter.unusedVariables false
open Go Go.RowKit

/-- who ranges over us: yl: the loop's record; L: the records that a yield may turn; E: what holds of the world outside (V: the cells that a yield may turn); Y: what a yield comes to -/
structure Env (P : Program) where
  β : Type
  N : Nat
  yl : Option Nat
  L : Nat → Prop
  E : β → Pr → Pr → World → Prop
  Y : β → List AV → (Bool → β → Prop) → Prop
  Llt : ∀ {x}, L x → x < N
  Ymono : ∀ {b args} {Q Q' : Bool → β → Prop}, Y b args Q → (∀ c b', Q c b' → Q' c b') → Y b args Q'
  stable : ∀ {b S V w S' w'}, E b S V w → Tr (fun b i => ¬ V b i) (fun _ => False) S w S' w' → E b S' V w'
  stableO : ∀ {b S V w d o} (o' : Obj), E b S V w → N ≤ d → w.heap[d]? = some o → o.isCells = false → E b S V (w.putObj d o')
  yok : ∀ {b args Qy S V w vs l}, Y b args Qy → E b S V w → yl = some l → args.length = List.length vs → (∀ (i : Nat) (x : AV) (v : Value), args[i]? = some x → vs[i]? = some v → RV S w [] none x v) → (∀ b i, S b i → b < w.heap.size) →
    ∃ f tmps assign body, (Instr.yield l (List.toArray vs)).run P w = .ok (.round l f tmps assign body) w ∧
      RoundIn Fence.wide 0 P l f tmps assign body w (fun e w' => ∃ cont b' S' V', e = .returned (.bool cont) ∧ Qy cont b' ∧ E b' S' V' w' ∧ Tr V L S w S' w' ∧
        (∀ b i, V b i → V' b i) ∧ (∀ b i, V' b i → V b i ∨ (w.heap.size ≤ b ∧ b < w'.heap.size)))

/-- nobody -/
def Env.alone (P : Program) (yl : Option Nat) (N : Nat) (E : Pr → Pr → World → Prop) (h : ∀ {S V w S' w'}, E S V w → Tr (fun b i => ¬ V b i) (fun _ => False) S w S' w' → E S' V w')
    (h' : ∀ {S V w d o} (o' : Obj), E S V w → N ≤ d → w.heap[d]? = some o → o.isCells = false → E S V (w.putObj d o')) : Env P :=
  { β := Unit, N := N, yl := yl, L := fun _ => False, E := fun _ => E, Y := fun _ _ _ => False, Llt := fun h => h.elim, Ymono := fun h _ => h, stable := h, stableO := h', yok := fun h => h.elim }

/-- marks among the deferred calls -/
def Marks (lo : Nat) (w : World) (ds : List Deferred) : Prop := ∃ bs : List Nat, ds = bs.map (fun b => { target := .collected b, args := #[] }) ∧ bs.Nodup ∧ ∀ b ∈ bs, lo ≤ b ∧ w.heap[b]? = some (.deferred (some []))

/-- the record of the round that one is in -/
def RoundOk (r : Option Nat) (w : World) : Prop := ∀ l, r = some l → ∃ rec, w.heap[l]? = some (.loop rec)

section
variable {P : Program} {S S' S'' X X' V V' Z : Pr} {L : Nat → Prop} {r : Option Nat} {lo : Nat} {yv : Option Nat} {w w' w'' : World} {m m' m'' : List MB} {A B : List (AV × Value)} {hp hp' : List Blk} {hv hv' : List (List Value)} {call : CallT} {s s' : RS} {a a' : Act} {o : Oper} {ops : Array Oper} {Ev : Env P}

theorem Marks.tr {lo : Nat} {ds : List Deferred} (h : Marks lo w ds) (ht : Tr Z L S w S' w') : Marks lo w' ds := by
  obtain ⟨bs, h1, h2, h3⟩ := h
  refine ⟨bs, h1, h2, fun b hb => ⟨(h3 b hb).1, ?_⟩⟩
  rcases ht.objs b _ (h3 b hb).2 rfl with h4 | ⟨_, o', h4, _, _, _, h5, _⟩
  · exact h4
  · cases h5

theorem RoundOk.tr (h : RoundOk r w) (ht : Tr Z L S w S' w') : RoundOk r w' := by
  intro l hl
  obtain ⟨rec, h1⟩ := h l hl
  rcases ht.objs l _ h1 rfl with h4 | ⟨_, o', h4, _, _, _, h5, h6⟩
  · exact ⟨rec, h4⟩
  · exact ⟨_, by rw [h4, h6]⟩

/-- an activation's abstract state within its surroundings -/
structure Tie (Ev : Env P) (lo : Nat) (r : Option Nat) (S X V : Pr) (w : World) (m : List MB) (B : List (AV × Value)) (hv : List (List Value)) (s : RS) (b : Ev.β) (a : Act) : Prop where
  rel : RelS S X Ev.yl w m B hv s a
  sub : ∀ b i, V b i → X b i
  env : Ev.E b S V w
  round : RoundOk r w
  marks : Marks lo w a.defers
  base : Ev.N ≤ lo ∧ lo ≤ w.heap.size

theorem RelS.slt {yv : Option Nat} (h : RelS S X yv w m B hv s a) : ∀ b i, S b i → b < w.heap.size := fun b i hs => h.2.1.lt b i (.inl hs)

theorem Tie.step {b : Ev.β} (h : Tie Ev lo r S X V w m B hv s b a) (hg : Gs S X none w m S' w' m') (hr : RelS S' X Ev.yl w' m' B hv' s' a') (hd : a'.defers = a.defers) : Tie Ev lo r S' X V w' m' B hv' s' b a' := by
  have ht := hg.tr hr.slt
  exact ⟨hr, h.sub, Ev.stable h.env (ht.mono (fun b i hx hv => hx (h.sub b i hv)) (fun _ h => h)), h.round.tr ht, hd ▸ h.marks.tr ht, h.base.1, Nat.le_trans h.base.2 ht.size⟩

/-- what goes on behind -/
def Goes (Ev : Env P) (lo : Nat) (r : Option Nat) (S X V : Pr) (w : World) (m : List MB) (B : List (AV × Value)) (s' : RS) (b' : Ev.β) (K : Act → World → Prop) : Prop :=
  ∀ S' X' V' w' m' hv' a', Went Ev.L S X V w S' X' V' w' → MStep m m' → Tie Ev lo r S' X' V' w' m' B hv' s' b' a' → K a' w'

theorem Goes.nx {b : Ev.β} {K : Act → World → Prop} (h : Tie Ev lo r S X V w m B hv s b a) (hK : Goes Ev lo r S X V w m B s' b K) : Nx S X Ev.yl w m B s' a K :=
  fun S' w' m' hv' a' hg hr hd hsz => hK S' X V w' m' hv' a' (hg.went hr.slt) hg.ms (h.step hg hr hd)

theorem Goes.mono {b : Ev.β} {K K' : Act → World → Prop} (hK : Goes Ev lo r S X V w m B s b K) (h : ∀ a w, K a w → K' a w) : Goes Ev lo r S X V w m B s b K' :=
  fun S' X' V' w' m' hv' a' hw hm ht => h _ _ (hK S' X' V' w' m' hv' a' hw hm ht)

/-- the arguments of a yield -/
def yieldArgs (tm : List AV) (o : Oper) : Option (List AV) :=
  match o.op with
  | .call c => match c.callee with
    | .value f => match evalA tm f with
      | .yl => some ((c.args.toList.map (evalA tm)).map AV.view)
      | _ => none
    | _ => none
  | _ => none

/-- the arguments of a call -/
def opCall (tm : List AV) (o : Oper) : Option (Nat × List AV) :=
  match o.op with
  | .call c => match c.callee with
    | .value f => callArgs tm (evalA tm f) c.args
    | _ => none
  | _ => none

def noCall : CallT := ⟨fun _ _ _ => none, fun _ _ _ => none⟩
theorem noCall_ok : CallOk P noCall := ⟨fun _ _ _ _ h => (by cases h), fun _ _ _ _ _ h => (by cases h)⟩

/-- a list of operations: what must be shown -/
def wOps (Ev : Env P) (ops : Array Oper) : List Oper → RS → Ev.β → (RS → Ev.β → Prop) → Prop
  | [], s, b, Q => Q s b
  | o :: l, s, b, Q =>
    (∃ s', xStep P noCall ops s o = some s' ∧ wOps Ev ops l s' b Q) ∨
    (wantedA ops o s.tm = some true ∧ ∃ k args, opCall s.tm o = some (k, args) ∧
      ((closeds args = true ∧ ∃ x, PCall P k args x ∧ wOps Ev ops l { tm := putA s.tm o.dst x.view, hp := s.hp, pv := pvPut s.pv o.dst } b Q) ∨
       (∃ x hp', SCall P k args s.hp x hp' ∧ wOps Ev ops l { tm := putA s.tm o.dst x.view, hp := hp', pv := [] } b Q))) ∨
    (wantedA ops o s.tm = some true ∧ ∃ args, yieldArgs s.tm o = some args ∧ closeds args = true ∧
      Ev.Y b args fun cont b' => wOps Ev ops l { tm := putA s.tm o.dst (.d (.s (.bool cont))), hp := s.hp, pv := [] } b' Q)

theorem opCall_xa {k : Nat} {args : List AV} (h : opCall s.tm o = some (k, args)) : xa P s o = none := by
  unfold opCall at h
  split at h <;> try (cases h; done)
  rename_i c ho
  split at h <;> try (cases h; done)
  rename_i f hc
  simp [xa, ho, hc]

theorem opCall_p {k : Nat} {args : List AV} {x : AV} (hw : wantedA ops o s.tm = some true) (h : opCall s.tm o = some (k, args)) (hcl : closeds args = true) (hr : call.p o.dst k args = some x) :
    xStep P call ops s o = some { tm := putA s.tm o.dst x.view, hp := s.hp, pv := pvPut s.pv o.dst } := by
  have hxa := opCall_xa (P := P) h
  unfold opCall at h
  split at h <;> try (cases h; done)
  rename_i c ho
  split at h <;> try (cases h; done)
  rename_i f hc
  simp only [xStep, hw, hxa]
  simp [xh, ho, hc, h, hcl, hr]

theorem opCall_s {k : Nat} {args : List AV} {x : AV} {hp' : List Blk} (hw : wantedA ops o s.tm = some true) (h : opCall s.tm o = some (k, args)) (hp : call.p o.dst k args = none) (hr : call.s k args s.hp = some (x, hp')) :
    xStep P call ops s o = some { tm := putA s.tm o.dst x.view, hp := hp', pv := [] } := by
  have hxa := opCall_xa (P := P) h
  unfold opCall at h
  split at h <;> try (cases h; done)
  rename_i c ho
  split at h <;> try (cases h; done)
  rename_i f hc
  simp only [xStep, hw, hxa]
  simp [xh, ho, hc, h, hp, hr]

open Classical in
noncomputable def oneP (k : Nat) (args : List AV) (x : AV) : CallT := ⟨fun _ k' args' => if k' = k ∧ args' = args then some x else none, fun _ _ _ => none⟩
open Classical in
noncomputable def oneS (k : Nat) (args : List AV) (hp : List Blk) (x : AV) (hp' : List Blk) : CallT := ⟨fun _ _ _ => none, fun k' args' hp0 => if k' = k ∧ args' = args ∧ hp0 = hp then some (x, hp') else none⟩

theorem oneP_ok {k : Nat} {args : List AV} {x : AV} (h : PCall P k args x) : CallOk P (oneP k args x) := by
  refine ⟨fun d f as r hr => ?_, fun _ _ _ _ _ h => by cases h⟩
  simp only [oneP] at hr
  split at hr
  · rename_i hc; obtain ⟨rfl, rfl⟩ := hc; cases hr; exact h
  · cases hr
theorem oneS_ok {k : Nat} {args : List AV} {x : AV} {hp' : List Blk} (h : SCall P k args hp x hp') : CallOk P (oneS k args hp x hp') := by
  refine ⟨fun _ _ _ _ h => by (cases h), fun f as hp0 r hp1 hr => ?_⟩
  simp only [oneS] at hr
  split at hr
  · rename_i hc; obtain ⟨rfl, rfl, rfl⟩ := hc; cases hr; exact h
  · cases hr

/-- a yield -/
theorem yield_sound {b : Ev.β} {K : Act → World → Prop} {Q : Exit → Act → World → Prop} {args : List AV} {Qy : Bool → Ev.β → Prop} (h : Tie Ev lo r S X V w m B hv s b a) (hw : wantedA ops o s.tm = some true)
    (hy : yieldArgs s.tm o = some args) (hcl : closeds args = true) (hY : Ev.Y b args Qy)
    (hK : ∀ cont b', Qy cont b' → Goes Ev lo r S X V w m B { tm := putA s.tm o.dst (.d (.s (.bool cont))), hp := s.hp, pv := [] } b' K) : o.wpIn (Fn r) 0 P a w K Q := by
  unfold yieldArgs at hy
  split at hy <;> try (cases hy; done)
  rename_i c ho
  split at hy <;> try (cases hy; done)
  rename_i f hc
  split at hy <;> try (cases hy; done)
  rename_i hf
  simp only [Option.some.injEq] at hy
  subst hy
  have hev := evalA_sound h.rel
  have hfv := hev f
  rw [hf] at hfv
  generalize hfe : a.eval f = fv at hfv
  cases hfv with
  | yl hyl =>
    rename_i l
    have hl : ((c.args.toList.map (evalA s.tm)).map AV.view).length = (c.args.map a.eval).toList.length := by simp
    have hargs : ∀ (i : Nat) (x : AV) (v : Value), ((c.args.toList.map (evalA s.tm)).map AV.view)[i]? = some x → ((c.args.map a.eval).toList)[i]? = some v → RV S w [] none x v := by
      intro i x v h1 h2
      have hcx := closeds_get hcl i x h1
      simp only [List.getElem?_map, Option.map_eq_some_iff, Array.getElem?_toList, Array.getElem?_map] at h1 h2
      obtain ⟨y, ⟨z, h3, rfl⟩, rfl⟩ := h1
      obtain ⟨z', h4, rfl⟩ := h2
      rw [h3] at h4; cases h4
      exact (RV.view (hev z)).closed hcx
    obtain ⟨f', tmps, assign, body, hrun, hround⟩ := Ev.yok hY h.env hyl hl hargs h.rel.slt
    refine ⟨fun f _ => trivial, ?_⟩
    have hexec : (execOp a.eval o).run P w = .ok (.round l f' tmps assign body) w := by
      unfold execOp
      rw [ho]
      rw [Array.toArray_toList] at hrun
      simp [resolve, hc, hfe, Deferred.ofValue, invoke, hrun]
    rw [Oper.semAt_eq _ _ _ (by simp [ho]), hexec]
    refine ⟨fun hd => (by cases hd), ?_⟩
    refine (RoundIn.mono hround ?_ : RoundIn Fence.wide 0 P l f' tmps assign body w _)
    rintro e w' ⟨cont, b', S', V', rfl, g1, g2, g3, g4, g5⟩
    have hrel : Rel S' (fun b i => X b i ∨ V' b i) Ev.yl w' m (s.tm.zip a.tmps.toList ++ (B ++ cellPairs s.hp hv)) s.hp hv := by
      refine h.rel.2.1.still g3 (fun g blk p h1 h2 hfr i hv' => ?_) (fun p hp b hb i hv' => ?_) (fun b i hx => hx.elim .inl fun h1 => (g5 b i h1).imp (h.sub b i) id)
      · obtain ⟨vs, hvs⟩ : ∃ vs, hv[g]? = some vs := by
          have : g < hv.length := by rw [h.rel.2.1.hl]; exact (List.getElem?_eq_some_iff.1 h1).1
          exact ⟨hv[g], by simp [this]⟩
        exact ((h.rel.2.1.bl g blk p vs h1 h2 hvs).2.2.2.2.2.2.1 hfr i).2 (h.sub _ _ hv')
      · exact (h.rel.2.1.sp p hp b hb).1 i (h.sub _ _ hv')
    refine hK cont b' g1 S' (fun b i => X b i ∨ V' b i) V' w' m hv _ ⟨g3.mono (fun _ _ h => .inr h) (fun _ h => h), fun _ _ h => .inl h, fun b i h => (g5 b i h).imp id fun h => h.1⟩ (MStep.refl m) ⟨⟨by rw [putA_length, put_size]; exact h.rel.1, ?_, by intro p hp; cases hp⟩, fun b i hv' => .inr hv', g2, h.round.tr g3, ?_, h.base.1, Nat.le_trans h.base.2 g3.size⟩
    · exact (hrel.cons (x := .d (.s (.bool cont))) (v := .bool cont) (.d (.s _)) rfl).putTmp h.rel.1 o.dst
    · rw [put_defers]; exact h.marks.tr g3

/-- one operation of a list -/
theorem wOps_cons {l : List Oper} {b : Ev.β} {K : Act → World → Prop} {Q : Exit → Act → World → Prop} {R : RS → Ev.β → Prop} (h : Tie Ev lo r S X V w m B hv s b a) (hx : wOps Ev ops (o :: l) s b R)
    (hK : ∀ s' b', wOps Ev ops l s' b' R → Goes Ev lo r S X V w m B s' b' K) :
    if Region.wanted o (yielded ops a.tmps) then o.wpIn (Fn r) 0 P a w K Q else (∀ f, o.about P w a.eval = some f → (Fn r).fn f) ∧ K (a.put o.dst undef) w := by
  simp only [wOps] at hx
  rcases hx with ⟨s', h1, h2⟩ | ⟨hw, k, args, h1, h2⟩ | ⟨hw, args, h1, h2, h3⟩
  · exact xStep_sound noCall_ok h.rel h1 ((hK s' b h2).nx h)
  · rcases h2 with ⟨hcl, x, hp, h2⟩ | ⟨x, hp', hs, h2⟩
    · exact xStep_sound (oneP_ok hp) h.rel (opCall_p hw h1 hcl (by simp [oneP])) ((hK _ b h2).nx h)
    · exact xStep_sound (oneS_ok hs) h.rel (opCall_s hw h1 rfl (by simp [oneS])) ((hK _ b h2).nx h)
  · rw [wantedA_spec h.rel hw]
    simp only [if_true]
    exact yield_sound h hw h1 h2 h3 fun cont b' hq => hK _ b' hq

theorem wOps_sound {b : Ev.β} {Q : Exit → Act → World → Prop} {R : RS → Ev.β → Prop} : ∀ {l : List Oper} {s : RS} {b : Ev.β} {S X V : Pr} {w : World} {m : List MB} {hv : List (List Value)} {a : Act}, Tie Ev lo r S X V w m B hv s b a → wOps Ev ops l s b R →
    (∀ s' b', R s' b' → Goes Ev lo r S X V w m B s' b' (Q .normal)) → wpListIn (Fn r) 0 P ops Q l a w
  | [], s, b, S, X, V, w, m, hv, a, h, hx, hK => hK s b hx S X V w m hv a (Went.refl h.rel.slt) (MStep.refl m) h
  | o :: l, s, b, S, X, V, w, m, hv, a, h, hx, hK => by
    exact wOps_cons h hx fun s' b' hx' S' X' V' w' m' hv' a' hw hm ht => wOps_sound (b := b) ht hx' fun s'' b'' hr S'' X'' V'' w'' m'' hv'' a'' hw' hm' ht' => hK s'' b'' hr S'' X'' V'' w'' m'' hv'' a'' (hw.trans hw') (hm.trans hm') ht'

end
end Go.Proofs.Ytgdeoaiakdkhcaa.Am
