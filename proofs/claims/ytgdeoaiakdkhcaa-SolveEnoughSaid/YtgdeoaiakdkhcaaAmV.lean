/- Iterators, and ranging over them. -/
import Derived.Test.YtgdeoaiakdkhcaaAmU
namespace Go.Proofs.Ytgdeoaiakdkhcaa.Am
set_option linter.unusedVariables false
set_option linter.unusedSimpArgs false
open Go Go.RowKit

mutual
/-- it leans on blocks below n alone -/
def AV.low (n : Nat) : AV → Bool
  | .ref g .. | .ptr g _ | .gref g .. | .gptr g .. => g < n
  | .agg cs => lows n cs
  | .tup cs => lows n cs
  | .fn _ a b => lows n a && lows n b
  | _ => true
def lows (n : Nat) : List AV → Bool
  | [] => true
  | x :: r => x.low n && lows n r
end

def lowHp (n : Nat) (hp : List Blk) : Bool := (hp.take n).all fun blk => lows n blk.cells

/-- what a yield comes to: a round -/
abbrev YieldT (β : Type) := β → List AV → (Bool → β → Prop) → Prop

/-- what a contract of an iterator speaks of -/
abbrev SpT := ∀ {β : Type}, YieldT β → β → (β → Prop) → Prop

/-- an iterator's contract -/
def ICall (P : Program) (f : Nat) (args : List AV) (Sp : SpT) : Prop :=
  (∀ (as : Array Value) (w : World), (callFunc f as).run P w = .ok (.enter f as) w) ∧
  ∀ (Ev : Env P) (b : Ev.β) (Q : Ev.β → Prop), Sp Ev.Y b Q → ∀ (S X V : Pr) (w : World) (m : List MB) (hv : List (List Value)) (vs : List Value), args.length = vs.length →
    Rel S X Ev.yl w m (args.zip vs ++ ([] ++ cellPairs [] hv)) [] hv → (∀ b i, V b i → X b i) → Ev.E b S V w → Ev.N ≤ w.heap.size →
    CallsIn Fence.wide 0 P f vs.toArray w fun e w' => ∃ v b' S' V', e = .returned v ∧ Q b' ∧ Ev.E b' S' V' w'

/-- it yields the elements of a list, one after the other, until it is told to stop -/
def YList {β : Type} (Y : YieldT β) : List (List AV) → β → (β → Prop) → Prop
  | [], b, Q => Q b
  | x :: xs, b, Q => Y b x fun cont b' => if cont then YList Y xs b' Q else Q b'

def setParams (tm : List AV) (ps : Array Tmp) (args : List AV) : List AV := (ps.toList.zip args).foldl (fun tm p => tm.set p.1 p.2) tm

/-- by which jump a round was left -/
def codeOf : Exit → Code
  | .exit id => .exit id
  | .goto t => .goto t
  | _ => .ret

/-- a round -/
def YBody {P : Program} (Ev : Env P) (tm : List AV) (ps : Array Tmp) (assign body : Code) (n : Nat) : YieldT (List Blk × Ev.β × Option Exit) := fun b args Qy =>
  b.2.2 = none ∧ args.length = ps.size ∧ W Ev assign ⟨setParams (tm.map AV.view) ps (args.map AV.view), b.1, b.2.1⟩ fun e s1 => e = .normal ∧ W Ev body s1 fun e s2 => lowHp n s2.hp = true ∧ match e with
    | .normal => Qy true (s2.hp.take n, s2.b, none)
    | .ret => Qy false (s2.hp.take n, s2.b, some .ret)
    | .exit id => Qy false (s2.hp.take n, s2.b, some (.exit id))
    | .goto t => Qy false (s2.hp.take n, s2.b, some (.goto t))
    | _ => False

section
variable {P : Program} {S S' S'' X X' X'' V V' V'' Z : Pr} {L : Nat → Prop} {r : Option Nat} {lo : Nat} {yv : Option Nat} {w w' w'' : World} {m m' m'' : List MB} {A B T : List (AV × Value)} {hp hp' : List Blk} {hv hv' : List (List Value)} {call : CallT} {a a' : Act} {o : Oper} {ops : Array Oper} {Ev : Env P}
  {s : St Ev.β} {Q Q' : Exit → St Ev.β → Prop} {c c' : Code}

theorem lows_get {n : Nat} : ∀ {cs : List AV}, lows n cs = true → ∀ (i : Nat) (c : AV), cs[i]? = some c → c.low n = true
  | [], _, i, c, h => by simp at h
  | x :: r, hc, i, c, h => by
    simp only [lows, Bool.and_eq_true] at hc
    cases i with
    | zero => simp at h; subst h; exact hc.1
    | succ i => simp at h; exact lows_get hc.2 i c h

theorem RV.low {n : Nat} {x : AV} {v : Value} (h : RV S w m yv x v) : x.low n = true → RV S w (m.take n) yv x v := by
  induction h with
  | d h => exact fun _ => .d h
  | agg hl h ih => exact fun hc => .agg hl fun i c v h1 h2 => ih i c v h1 h2 (lows_get (by simpa [AV.low] using hc) i c h1)
  | tup hl h ih => exact fun hc => .tup hl fun i c v h1 h2 => ih i c v h1 h2 (lows_get (by simpa [AV.low] using hc) i c h1)
  | own h1 h2 => exact fun _ => .own h1 h2
  | ownNil => exact fun _ => .ownNil
  | full h => exact fun _ => .full h
  | rptr vals hne hsp hs hcc hr h1 => exact fun _ => .rptr vals hne hsp hs hcc hr h1
  | ref h hfit hn => exact fun hc => .ref (by rw [List.getElem?_take, if_pos (by simpa [AV.low] using hc)]; exact h) hfit hn
  | ptr h => exact fun hc => .ptr (by rw [List.getElem?_take, if_pos (by simpa [AV.low] using hc)]; exact h)
  | gref h hv h1 hcc => exact fun hc => .gref (by rw [List.getElem?_take, if_pos (by simpa [AV.low] using hc)]; exact h) hv h1 hcc
  | gptr h hv h1 hcc => exact fun hc => .gptr (by rw [List.getElem?_take, if_pos (by simpa [AV.low] using hc)]; exact h) hv h1 hcc
  | fn hf hl hl' h h' ih ih' =>
    intro hc
    simp only [AV.low, Bool.and_eq_true] at hc
    exact .fn hf hl hl' (fun i c v h1 h2 => ih i c v h1 h2 (lows_get hc.1 i c h1)) (fun i c v h1 h2 => ih' i c v h1 h2 (lows_get hc.2 i c h1))
  | yl h => exact fun _ => .yl h
  | bad => exact fun _ => .bad

theorem MStep.take {n : Nat} (h : MStep m m') (hl : m.length ≤ n) : MStep m (m'.take n) := by
  intro g p hp
  have hg : g < n := Nat.lt_of_lt_of_le (List.getElem?_eq_some_iff.1 hp).1 hl
  simp only [List.getElem?_take, if_pos hg]
  exact h g p hp

theorem MStep.len (h : MStep m m') : m.length ≤ m'.length := by
  rcases Nat.lt_or_ge m'.length m.length with hl | hl
  · have := h m'.length m[m'.length] (by simp [hl])
    simp at this
  · exact hl

/-- the blocks that were laid last are forgotten -/
theorem Rel.trunc {n : Nat} (h : Rel S X yv w m (T ++ cellPairs hp hv) hp hv) (hT : ∀ p ∈ T, RV S w (m.take n) yv p.1 p.2) (hlow : lowHp n hp = true) :
    Rel S X yv w (m.take n) (T ++ cellPairs (hp.take n) (hv.take n)) (hp.take n) (hv.take n) := by
  have hsub : (T ++ cellPairs (hp.take n) (hv.take n)).Sublist (T ++ cellPairs hp hv) := by
    refine List.Sublist.append (List.Sublist.refl _) ?_
    unfold cellPairs
    have : (hp.take n).zip (hv.take n) = (hp.zip hv).take n := by simp [List.zip, List.take_zipWith]
    rw [this]
    conv => rhs; rw [← List.take_append_drop n (hp.zip hv)]
    rw [List.flatMap_append]
    exact List.sublist_append_left _ _
  have hcell : ∀ p ∈ cellPairs (hp.take n) (hv.take n), p.1.low n = true := by
    intro p hp'
    simp only [cellPairs, List.mem_flatMap] at hp'
    obtain ⟨q, hq, hpq⟩ := hp'
    obtain ⟨q1, q2⟩ := q
    have hq1 := (List.of_mem_zip hq).1
    have hlq := List.all_eq_true.1 hlow q1 hq1
    obtain ⟨j, hj⟩ := List.mem_iff_getElem?.1 hpq
    rw [List.getElem?_zip_eq_some] at hj
    exact lows_get hlq j _ hj.1
  refine ⟨h.lt, fun p hp' => ?_, h.pw.sublist hsub, fun p hp' b hb x hx => h.nm p (hsub.subset hp') b hb x (List.mem_of_mem_take hx), fun p hp' => h.sp p (hsub.subset hp'), ?_, by simp [h.ml], by simp [h.hl], fun g blk p vs h1 h2 h3 => ?_⟩
  · rcases List.mem_append.1 hp' with hp1 | hp1
    · exact hT p hp1
    · exact (h.rv p (hsub.subset hp')).low (hcell p hp1)
  · rw [List.map_take]; exact h.mnd.sublist (List.take_sublist _ _)
  · simp only [List.getElem?_take] at h1 h2 h3
    split at h1 <;> try (cases h1; done)
    rename_i hg
    rw [if_pos hg] at h2 h3
    exact h.bl g blk p vs h1 h2 h3

/-- other cells to keep away from -/
theorem Rel.setX (h : Rel S X yv w m A hp hv) (hlt : ∀ b i, X' b i → b < w.heap.size) (hm : ∀ (g : Nat) (blk : Blk) (p : MB), hp[g]? = some blk → m[g]? = some p → blk.fro = false → ∀ i, ¬ X' p.b i)
    (ho : ∀ p ∈ A, ∀ b, ownB p = some b → ∀ i, ¬ X' b i) : Rel S X' yv w m A hp hv :=
  ⟨fun b i hbi => hbi.elim (fun h1 => h.lt b i (.inl h1)) (hlt b i), h.rv, h.pw, h.nm, fun p hp b hb => ⟨ho p hp b hb, (h.sp p hp b hb).2⟩, h.mnd, h.ml, h.hl,
   fun g blk p vs h1 h2 h3 => let ⟨a1, a2, a3, a4, a5, a6, a9, a10⟩ := h.bl g blk p vs h1 h2 h3; ⟨a1, a2, a3, a4, a5, a6, fun hf i => ⟨(a9 hf i).1, hm g blk p h1 h2 hf i⟩, a10⟩⟩

/-- the blocks that an activation may turn -/
def Owned (hp : List Blk) (m : List MB) (A : List (AV × Value)) (b : Nat) : Prop :=
  (∃ (g : Nat) (blk : Blk) (p : MB), hp[g]? = some blk ∧ m[g]? = some p ∧ blk.fro = false ∧ p.b = b) ∨ ∃ p ∈ A, ownB p = some b

theorem Rel.notX (h : Rel S X yv w m A hp hv) {b : Nat} (ho : Owned hp m A b) (i : Nat) : ¬ X b i := by
  rcases ho with ⟨g, blk, p, h1, h2, h3, rfl⟩ | ⟨p, hp, hb⟩
  · have hg : g < hv.length := by rw [h.hl]; exact (List.getElem?_eq_some_iff.1 h1).1
    exact ((h.bl g blk p hv[g] h1 h2 (by simp [hg])).2.2.2.2.2.2.1 h3 i).2
  · exact (h.sp p hp b hb).1 i

theorem Rel.ownedLt (h : Rel S X yv w m A hp hv) {b : Nat} (ho : Owned hp m A b) : b < w.heap.size := by
  rcases ho with ⟨g, blk, p, h1, h2, h3, rfl⟩ | ⟨p, hp, hb⟩
  · have hg : g < hv.length := by rw [h.hl]; exact (List.getElem?_eq_some_iff.1 h1).1
    obtain ⟨_, _, _, _, _, ⟨cur, e, h4, _⟩, _⟩ := h.bl g blk p hv[g] h1 h2 (by simp [hg])
    exact (Array.getElem?_eq_some_iff.1 h4).1
  · exact own_lt (h.rv p hp) (x := p.1) (v := p.2) hb

/-- whoever ranges: what holds of its world between two rounds. T: its temporaries (and its callers' pairs); w0: where the loop began; bs: its marks; l: the record -/
def RangeE (Ev : Env P) (r : Option Nat) (S0 X V0 : Pr) (w0 : World) (m0 : List MB) (T : List (AV × Value)) (n : Nat) (bs : List Nat) (l : Nat) (rec : Loop) (b : List Blk × Ev.β × Option Exit) (S V : Pr) (w : World) : Prop :=
  ∃ (Xc Vc : Pr) (mC : List MB) (hvC : List (List Value)), b.1.length = n ∧ Rel S Xc Ev.yl w mC (T ++ cellPairs b.1 hvC) b.1 hvC ∧ (∀ b i, Vc b i → Xc b i) ∧ Ev.E b.2.1 S Vc w ∧ MStep m0 mC ∧ RoundOk r w ∧
    (∀ b ∈ bs, w.heap[b]? = some (.deferred (some []))) ∧ (∀ c, Owned b.1 mC (T ++ cellPairs b.1 hvC) c → ∀ i, V c i) ∧ (∀ b i, Vc b i → V b i) ∧ (∀ b i, V b i → b < w.heap.size) ∧ (∀ b i, X b i → V b i) ∧
    w.heap[l]? = some (.loop { rec with state := if b.2.2.isNone then .ready else .done, pending := b.2.2.map codeOf }) ∧ Went Ev.L S0 X V0 w0 S Xc Vc w

theorem Rel.zm (h : ∀ c, Owned hp m A c → ∀ i, V c i) : (∀ (g : Nat) (blk : Blk) (p : MB), hp[g]? = some blk → m[g]? = some p → blk.fro = false → ∀ i, ¬ ¬ V p.b i) ∧ (∀ p ∈ A, ∀ b, ownB p = some b → ∀ i, ¬ ¬ V b i) :=
  ⟨fun g blk p h1 h2 h3 i hn => hn (h p.b (.inl ⟨g, blk, p, h1, h2, h3, rfl⟩) i), fun p hp b hb i hn => hn (h b (.inr ⟨p, hp, hb⟩) i)⟩

theorem RangeE.stable {S0 X V0 : Pr} {w0 : World} {m0 : List MB} {n : Nat} {bs : List Nat} {l : Nat} {rec : Loop} {b : List Blk × Ev.β × Option Exit} (h : RangeE Ev r S0 X V0 w0 m0 T n bs l rec b S V w)
    (ht : Tr (fun b i => ¬ V b i) (fun _ => False) S w S' w') : RangeE Ev r S0 X V0 w0 m0 T n bs l rec b S' V w' := by
  obtain ⟨Xc, Vc, mC, hvC, h0, h1, h2, h3, h4, h5, h6, h7, h8, h9, hXV, h10, h11⟩ := h
  obtain ⟨z1, z2⟩ := Rel.zm h7
  refine ⟨Xc, Vc, mC, hvC, h0, h1.still ht z1 z2 (fun _ _ h => .inl h), h2, Ev.stable h3 (ht.mono (fun b i hn hc => hn (h8 b i hc)) (fun _ h => h)), h4, h5.tr ht, fun b hb => ?_, h7, h8, fun b i hv => Nat.lt_of_lt_of_le (h9 b i hv) ht.size, hXV, ?_, ?_⟩
  · rcases ht.objs b _ (h6 b hb) rfl with h12 | ⟨h12, _⟩
    · exact h12
    · exact h12.elim
  · rcases ht.objs l _ h10 rfl with h12 | ⟨h12, _⟩
    · exact h12
    · exact h12.elim
  · exact ⟨h11.tr.trans ht (fun b i hb hz => .inl fun hx => hz (hXV b i hx)) (fun _ _ h => h.elim), h11.xs, h11.vs⟩

theorem putObj_other {d k : Nat} {o' o1 : Obj} (hk : w.heap[k]? = some o1) (hne : k ≠ d) : (w.putObj d o').heap[k]? = some o1 := by rw [World.putObj_heap_other hne]; exact hk

theorem RangeE.putObj {S0 X V0 : Pr} {w0 : World} {m0 : List MB} {n N : Nat} {bs : List Nat} {l : Nat} {rec : Loop} {b : List Blk × Ev.β × Option Exit} (h : RangeE Ev r S0 X V0 w0 m0 T n bs l rec b S V w)
    {d : Nat} {o : Obj} (o' : Obj) (hd : N ≤ d) (hdo : w.heap[d]? = some o) (ho : o.isCells = false) (hN : Ev.N ≤ N) (hw0 : w0.heap.size ≤ N) (hbs : ∀ b ∈ bs, b < N) (hl : l < N) (hr : ∀ l0, r = some l0 → l0 < N) :
    RangeE Ev r S0 X V0 w0 m0 T n bs l rec b S V (w.putObj d o') := by
  obtain ⟨Xc, Vc, mC, hvC, h0, h1, h2, h3, h4, h5, h6, h7, h8, h9, hXV, h10, h11⟩ := h
  refine ⟨Xc, Vc, mC, hvC, h0, h1.putObj hdo ho, h2, Ev.stableO o' h3 (Nat.le_trans hN hd) hdo ho, h4, fun l0 hl0 => ?_, fun b hb => ?_, h7, h8, fun b i hv => by simpa using h9 b i hv, hXV, ?_, ⟨h11.tr.putObj (Nat.le_trans hw0 hd) hdo, h11.xs, h11.vs⟩⟩
  · obtain ⟨rc, h12⟩ := h5 l0 hl0
    exact ⟨rc, putObj_other h12 (by have := hr l0 hl0; omega)⟩
  · exact putObj_other (h6 b hb) (by have := hbs b hb; omega)
  · exact putObj_other h10 (by omega)

theorem Went.lessX {V V' X1 : Pr} (h : Went L S X V w S' X' V' w') (hx : ∀ b i, X1 b i → X b i) : Went L S X1 V w S' X' V' w' :=
  ⟨h.tr.mono (fun b i hz => hz.imp (fun h1 h2 => h1 (hx b i h2)) id) (fun _ h => h), fun b i h1 => h.xs b i (hx b i h1), h.vs⟩

theorem Went.putObj {V V' : Pr} (h : Went L S X V w S' X' V' w') {d : Nat} {o o' : Obj} (hd : w.heap.size ≤ d) (hdo : w'.heap[d]? = some o) : Went L S X V w S' X' V' (w'.putObj d o') := ⟨h.tr.putObj hd hdo, h.xs, h.vs⟩

theorem setParams_pairs {G : AV × Value → Prop} : ∀ (ps : List Tmp) (xs : List AV) (vs : List Value) (tm : List AV) (tmps : Array Value), tm.length = tmps.size → (∀ p ∈ tm.zip tmps.toList, G p) → xs.length = vs.length →
    (∀ (i : Nat) (x : AV) (v : Value), xs[i]? = some x → vs[i]? = some v → G (x, v)) →
    ((ps.zip xs).foldl (fun tm p => tm.set p.1 p.2) tm).length = ((ps.zip vs).foldl (fun tmps p => tmps.setIfInBounds p.1 p.2) tmps).size ∧
      ∀ p ∈ ((ps.zip xs).foldl (fun tm p => tm.set p.1 p.2) tm).zip ((ps.zip vs).foldl (fun tmps p => tmps.setIfInBounds p.1 p.2) tmps).toList, G p
  | [], xs, vs, tm, tmps, hl, hG, hlx, hx => by simpa using ⟨hl, fun a b h => hG (a, b) h⟩
  | p :: ps, [], vs, tm, tmps, hl, hG, hlx, hx => by
    have : vs = [] := by simpa using hlx.symm
    subst this
    simpa using ⟨hl, fun a b h => hG (a, b) h⟩
  | p :: ps, x :: xs, [], tm, tmps, hl, hG, hlx, hx => by simp at hlx
  | p :: ps, x :: xs, v :: vs, tm, tmps, hl, hG, hlx, hx => by
    simp only [List.zip_cons_cons, List.foldl_cons]
    refine setParams_pairs ps xs vs _ _ (by simp [hl]) (fun q hq => ?_) (by simpa using hlx) (fun i y u h1 h2 => hx (i + 1) y u h1 h2)
    rw [Array.toList_setIfInBounds, zip_set] at hq
    rcases List.mem_or_eq_of_mem_set hq with h1 | rfl
    · exact hG q h1
    · exact hx 0 x v rfl rfl

theorem Tie.putLoop {s : RS} {b : Ev.β} (h : Tie Ev lo r S X V w m B hv s b a) {l : Nat} {rc : Loop} (rc' : Loop) (hl : w.heap[l]? = some (.loop rc)) (hN : Ev.N ≤ l) : Tie Ev lo r S X V (w.putObj l (.loop rc')) m B hv s b a := by
  have hll : l < w.heap.size := (Array.getElem?_eq_some_iff.1 hl).1
  refine ⟨⟨h.rel.1, h.rel.2.1.putObj hl rfl, h.rel.2.2⟩, h.sub, Ev.stableO _ h.env hN hl rfl, fun l0 hl0 => ?_, ?_, h.base.1, by simpa using h.base.2⟩
  · obtain ⟨rc0, h1⟩ := h.round l0 hl0
    by_cases he : l0 = l
    · subst he; exact ⟨rc', World.putObj_heap_same hll⟩
    · exact ⟨rc0, putObj_other h1 he⟩
  · obtain ⟨bs, h1, h2, h3⟩ := h.marks
    refine ⟨bs, h1, h2, fun b hb => ⟨(h3 b hb).1, putObj_other (h3 b hb).2 ?_⟩⟩
    rintro rfl
    have := (h3 _ hb).2
    rw [hl] at this; cases this

theorem YBody.mono {tm : List AV} {ps : Array Tmp} {assign body : Code} {n : Nat} {b : List Blk × Ev.β × Option Exit} {args : List AV} {Q Q' : Bool → (List Blk × Ev.β × Option Exit) → Prop} (h : YBody Ev tm ps assign body n b args Q)
    (hq : ∀ c b', Q c b' → Q' c b') : YBody Ev tm ps assign body n b args Q' := by
  refine ⟨h.1, h.2.1, W.mono h.2.2 fun e s1 h1 => ⟨h1.1, W.mono h1.2 fun e s2 h2 => ⟨h2.1, ?_⟩⟩⟩
  have h3 := h2.2
  cases e <;> first | exact hq _ _ h3 | exact h3

/-- **one round** -/
theorem range_round {S0 X V0 : Pr} {w0 : World} {m0 : List MB} {n : Nat} {bs : List Nat} {l : Nat} {rec : Loop} {b : List Blk × Ev.β × Option Exit} {args : List AV} {vs : List Value} {tm : List AV} {a : Act} {B : List (AV × Value)}
    {Qy : Bool → List Blk × Ev.β × Option Exit → Prop} (htm : tm.length = a.tmps.size) (hrec : rec.tmps = a.tmps) (hY : YBody Ev tm rec.params rec.assign rec.body n b args Qy)
    (hE : RangeE Ev r S0 X V0 w0 m0 (tm.zip a.tmps.toList ++ B) n bs l rec b S V w) (hl : args.length = vs.length) (hvs : ∀ (i : Nat) (x : AV) (v : Value), args[i]? = some x → vs[i]? = some v → RV S w [] none x v)
    (hNw : Ev.N ≤ w0.heap.size) (hlw : w0.heap.size ≤ l) (hm0 : m0.length ≤ n) :
    ∃ f tmps assign body, (Instr.yield l vs.toArray).run P w = .ok (.round l f tmps assign body) w ∧
      RoundIn Fence.wide 0 P l f tmps assign body w (fun e w' => ∃ cont b' S' V', e = .returned (.bool cont) ∧ Qy cont b' ∧ RangeE Ev r S0 X V0 w0 m0 (tm.zip a.tmps.toList ++ B) n bs l rec b' S' V' w' ∧ Tr V (fun x => x = l ∨ Ev.L x) S w S' w' ∧
        (∀ b i, V b i → V' b i) ∧ (∀ b i, V' b i → V b i ∨ (w.heap.size ≤ b ∧ b < w'.heap.size))) := by
  obtain ⟨hpC, bC, st⟩ := b
  obtain ⟨Xc, Vc, mC, hvC, h0, h1, h2, h3, h4, h5, h6, h7, h8, h9, hXV, h10, h11⟩ := hE
  obtain ⟨y1, y2, y3⟩ := hY
  simp only at y1 y2 y3 h0 h1 h3 h7 h10
  subst y1
  simp only [Option.isNone_none, if_true, Option.map_none] at h10
  have hw0 : w0.heap.size ≤ w.heap.size := h11.tr.size
  have hLl : ¬ Ev.L l := fun h => by have := Ev.Llt h; omega
  refine ⟨_, _, _, _, run_yield h10 (by simp [← hl, y2]), roundIn_of_wpIn (F := Fence.wide) trivial ?_⟩
  -- the round's first tie
  have hXb : ∀ b i, Xc b i → (b < w.heap.size ∧ ¬ Owned hpC mC ((tm.zip a.tmps.toList ++ B) ++ cellPairs hpC hvC) b) := fun b i hx => ⟨h1.lt b i (.inr hx), fun ho => h1.notX ho i hx⟩
  have hrelb : Rel S (fun b _ => b < w.heap.size ∧ ¬ Owned hpC mC ((tm.zip a.tmps.toList ++ B) ++ cellPairs hpC hvC) b) Ev.yl w mC ((tm.zip a.tmps.toList ++ B) ++ cellPairs hpC hvC) hpC hvC :=
    h1.setX (fun b i h => h.1) (fun g blk p g1 g2 g3 i h => h.2 (.inl ⟨g, blk, p, g1, g2, g3, rfl⟩)) (fun p hp b hb i h => h.2 (.inr ⟨p, hp, hb⟩))
  have hpairs := setParams_pairs (G := fun p => RV S w mC Ev.yl p.1 p.2 ∧ ownB p = none) rec.params.toList (args.map AV.view) vs (tm.map AV.view) a.tmps (by simpa using htm) (fun p hp => by
      obtain ⟨j, hj⟩ := List.mem_iff_getElem?.1 hp
      rw [List.getElem?_zip_eq_some] at hj
      obtain ⟨j1, j2⟩ := hj
      simp only [List.getElem?_map, Option.map_eq_some_iff] at j1
      obtain ⟨x, j1, j3⟩ := j1
      obtain ⟨p1, p2⟩ := p
      simp only at j2 j3
      subst j3
      refine ⟨(h1.rv (x, p2) (List.mem_append_left _ (List.mem_append_left _ (List.mem_iff_getElem?.2 ⟨j, ?_⟩)))).view, ownB_view _ _⟩
      rw [List.getElem?_zip_eq_some]; exact ⟨j1, j2⟩) (by simpa using hl) (fun i x v q1 q2 => by
      simp only [List.getElem?_map, Option.map_eq_some_iff] at q1
      obtain ⟨y, q1, rfl⟩ := q1
      exact ⟨(hvs i y v q1 q2).opened.view, ownB_view _ _⟩)
  have hfold : ((rec.params.zip vs.toArray).foldl (fun tmps (x : Tmp × Value) => tmps.setIfInBounds x.1 x.2) rec.tmps) = (rec.params.toList.zip vs).foldl (fun tmps p => tmps.setIfInBounds p.1 p.2) a.tmps := by
    rw [← Array.foldl_toList, Array.toList_zip, hrec]
  have hrecw : w.heap[l]? = some (.loop { rec with state := .ready, pending := none }) := h10
  have tie0 : Tie Ev w.heap.size (some l) S (fun b _ => b < w.heap.size ∧ ¬ Owned hpC mC ((tm.zip a.tmps.toList ++ B) ++ cellPairs hpC hvC) b) Vc w mC (tm.zip a.tmps.toList ++ B) hvC
      ⟨setParams (tm.map AV.view) rec.params (args.map AV.view), hpC, []⟩ bC { tmps := (rec.params.zip vs.toArray).foldl (fun tmps (x : Tmp × Value) => tmps.setIfInBounds x.1 x.2) rec.tmps, defers := [] } := by
    refine ⟨⟨?_, ?_, by intro p hp; cases hp⟩, fun b i hv => hXb b i (h2 b i hv), h3, fun l0 hl0 => ?_, ⟨[], rfl, List.nodup_nil, by simp⟩, by omega, Nat.le_refl _⟩
    · rw [hfold]; exact hpairs.1
    · rw [hfold]; exact hrelb.pushAll _ hpairs.2
    · cases hl0; exact ⟨_, hrecw⟩
  refine wpIn_mono (y3 w.heap.size (some l) S _ Vc w mC (tm.zip a.tmps.toList ++ B) hvC _ tie0) ?_
  rintro e a1 w1 ⟨s1, S1, X1, V1, m1, hv1, ⟨rfl, hWb⟩, ⟨went1, ms1⟩, tie1⟩
  have hrec1 : w1.heap[l]? = some (.loop { rec with state := .ready, pending := none }) := (went1.tr.objs l _ hrecw rfl).resolve_right fun h => hLl h.1
  refine ⟨_, run_beginRound hrec1 rfl, ?_⟩
  have tie1' := tie1.putLoop { rec with state := .busy, pending := none } hrec1 (Nat.le_trans hNw hlw)
  refine wpIn_mono (hWb w.heap.size (some l) S1 X1 V1 _ m1 (tm.zip a.tmps.toList ++ B) hv1 a1 tie1') ?_
  rintro e a2 w3 ⟨s2, S2, X2, V2, m2, hv2, ⟨hlow, hq⟩, ⟨went2, ms2⟩, tie2⟩
  have hl1 : l < w1.heap.size := (Array.getElem?_eq_some_iff.1 hrec1).1
  have hrec3 : w3.heap[l]? = some (.loop { rec with state := .busy, pending := none }) := (went2.tr.objs l _ (World.putObj_heap_same hl1) rfl).resolve_right fun h => hLl h.1
  have hl3 : l < w3.heap.size := (Array.getElem?_eq_some_iff.1 hrec3).1
  -- all together
  have key : ∀ st' : Option Exit, RangeE Ev r S0 X V0 w0 m0 (tm.zip a.tmps.toList ++ B) n bs l rec (s2.hp.take n, s2.b, st') S2 (fun b i => V b i ∨ (w.heap.size ≤ b ∧ b < w3.heap.size))
        (w3.putObj l (.loop { rec with state := if (st'.map codeOf).isNone then .ready else .done, pending := st'.map codeOf })) ∧
      Tr V (fun x => x = l ∨ Ev.L x) S w S2 (w3.putObj l (.loop { rec with state := if (st'.map codeOf).isNone then .ready else .done, pending := st'.map codeOf })) := by
    intro st'
    have htr2 : Tr (fun b i => ¬ (b < w.heap.size ∧ ¬ Owned hpC mC ((tm.zip a.tmps.toList ++ B) ++ cellPairs hpC hvC) b) ∨ Vc b i) (fun x => x = l ∨ Ev.L x) S w S1 (w1.putObj l (.loop { rec with state := .busy, pending := none })) :=
      went1.tr.putLoop (rc := { rec with state := .ready, pending := none }) .busy none hrec1
    have htr3 : Tr (fun b i => ¬ (b < w.heap.size ∧ ¬ Owned hpC mC ((tm.zip a.tmps.toList ++ B) ++ cellPairs hpC hvC) b) ∨ Vc b i) (fun x => x = l ∨ Ev.L x) S w S2 w3 :=
      htr2.trans went2.tr (fun b i hb hz => hz.elim (fun h => .inl fun hx => h (went1.xs b i hx)) fun h => (went1.vs b i h).elim .inr fun h' => absurd h' (by omega)) (fun x _ h => .inr h)
    have htr4 : Tr V (fun x => x = l ∨ Ev.L x) S w S2 (w3.putObj l (.loop { rec with state := if (st'.map codeOf).isNone then .ready else .done, pending := st'.map codeOf })) :=
      (htr3.putLoop (rc := { rec with state := .busy, pending := none }) (if (st'.map codeOf).isNone then .ready else .done) (st'.map codeOf) hrec3).mono' (fun b i hb hz => hz.elim (fun h => h7 b (Classical.byContradiction fun ho => h ⟨hb, ho⟩) i) (h8 b i)) (fun x hx => hx.elim .inl id)
    have hml : mC.length = n := by rw [h1.ml, h0]
    have hm2 := (ms1.trans ms2).len
    have hhl : s2.hp.length = m2.length := tie2.rel.2.1.ml.symm
    have hrel3 : Rel S2 X2 Ev.yl w3 (m2.take n) ((tm.zip a.tmps.toList ++ B) ++ cellPairs (s2.hp.take n) (hv2.take n)) (s2.hp.take n) (hv2.take n) :=
      (tie2.rel.2.1.sub (List.sublist_append_right _ _)).trunc (fun p hp => ((h1.rv p (List.mem_append_left _ hp)).tr htr3).blocks ((ms1.trans ms2).take (by omega))) hlow
    have hrel4 := hrel3.putObj (o' := .loop { rec with state := if (st'.map codeOf).isNone then .ready else .done, pending := st'.map codeOf }) hrec3 rfl
    have hwent : Went Ev.L S0 X V0 w0 S2 X2 V2 w3 := ((h11.trans (went1.lessX hXb)).putObj hlw hrec1).trans went2
    have hXbX2 : ∀ b i, (b < w.heap.size ∧ ¬ Owned hpC mC ((tm.zip a.tmps.toList ++ B) ++ cellPairs hpC hvC) b) → X2 b i := fun b i h => went2.xs b i (went1.xs b i h)
    refine ⟨⟨X2, V2, m2.take n, hv2.take n, ?_, hrel4, tie2.sub, Ev.stableO _ tie2.env (Nat.le_trans hNw hlw) hrec3 rfl, (h4.trans (ms1.trans ms2)).take hm0, h5.tr htr4, fun b hb => ?_, fun c hc i => ?_, fun b i hv => ?_, fun b i hv => ?_, fun b i hx => .inl (hXV b i hx), ?_, hwent.putObj hlw hrec3⟩, htr4⟩
    · simp; omega
    · rcases htr4.objs b _ (h6 b hb) rfl with h12 | ⟨_, o', _, _, _, _, h13, _⟩
      · exact h12
      · cases h13
    · have hcl := hrel3.ownedLt hc
      by_cases hcw : c < w.heap.size
      · refine .inl (h7 c (Classical.byContradiction fun ho => ?_) i)
        exact hrel3.notX hc i (hXbX2 c i ⟨hcw, ho⟩)
      · exact .inr ⟨by omega, hcl⟩
    · have hb3 : b < w3.heap.size := hrel3.lt b i (.inr (tie2.sub b i hv))
      rcases went2.vs b i hv with h12 | h12
      · rcases went1.vs b i h12 with h13 | h13
        · exact .inl (h8 b i h13)
        · exact .inr ⟨h13, hb3⟩
      · refine .inr ⟨Nat.le_trans went1.tr.size (by simpa using h12), hb3⟩
    · rcases hv with h12 | ⟨_, h12⟩
      · have := h9 b i h12; have := htr3.size; simp; omega
      · simpa using h12
    · rw [World.putObj_heap_same hl3]
      cases st' <;> rfl
  have hV1 : ∀ b i, V b i → (V b i ∨ (w.heap.size ≤ b ∧ b < w3.heap.size)) := fun _ _ h => .inl h
  cases e with
  | normal =>
    obtain ⟨k1, k2⟩ := key none
    exact ⟨_, _, run_endRound none hrec3, true, _, _, _, rfl, hq, k1, k2, hV1, fun b i h => by simpa using h⟩
  | ret =>
    obtain ⟨k1, k2⟩ := key (some .ret)
    exact ⟨_, _, run_endRound (some .ret) hrec3, false, _, _, _, rfl, hq, k1, k2, hV1, fun b i h => by simpa using h⟩
  | exit id =>
    obtain ⟨k1, k2⟩ := key (some (.exit id))
    exact ⟨_, _, run_endRound (some (.exit id)) hrec3, false, _, _, _, rfl, hq, k1, k2, hV1, fun b i h => by simpa using h⟩
  | goto t =>
    obtain ⟨k1, k2⟩ := key (some (.goto t))
    exact ⟨_, _, run_endRound (some (.goto t)) hrec3, false, _, _, _, rfl, hq, k1, k2, hV1, fun b i h => by simpa using h⟩
  | panic ch => exact hq.elim
  | outgrown => exact hq.elim

/-- the surroundings of an iterator that is ranged over -/
def rangeEnv (Ev : Env P) (r : Option Nat) (S0 X V0 : Pr) (w0 : World) (m0 : List MB) (tm : List AV) (a : Act) (B : List (AV × Value)) (n : Nat) (bs : List Nat) (l : Nat) (rec : Loop) (N : Nat) (htm : tm.length = a.tmps.size) (hrec : rec.tmps = a.tmps)
    (hNw : Ev.N ≤ w0.heap.size) (hlw : w0.heap.size ≤ l) (hm0 : m0.length ≤ n) (hlN : l < N) (hbs : ∀ b ∈ bs, b < N) (hr : ∀ l0, r = some l0 → l0 < N) : Env P :=
  { β := List Blk × Ev.β × Option Exit, N := N, yl := some l, L := fun x => x = l ∨ Ev.L x, E := RangeE Ev r S0 X V0 w0 m0 (tm.zip a.tmps.toList ++ B) n bs l rec, Y := YBody Ev tm rec.params rec.assign rec.body n,
    Llt := fun h => h.elim (fun h => h ▸ hlN) (fun h => by have := Ev.Llt h; omega)
    Ymono := fun h hq => YBody.mono h hq
    stable := fun h ht => h.stable ht
    stableO := fun o' h hd hdo ho => h.putObj o' hd hdo ho (by omega) (by omega) hbs hlN hr
    yok := fun hY hE hl hlen hvs _ => by
      cases hl
      exact range_round htm hrec hY hE hlen hvs hNw hlw hm0 }

theorem enter_loop (fn : FuncId) (tmps : Array Value) (ps : Array Tmp) (assign body : Code) (hr : RoundOk r w) :
    ∃ (l : Nat) (bs : List Nat) (w1 : World) (D : Nat), (Instr.enterLoop fn tmps ps assign body r).run P w = .ok (l, bs.map fun b => { target := .collected b, args := #[] }) w1 ∧ w1.heap[l]? = some (.loop { state := .ready, pending := none, fn, tmps, params := ps, assign, body, defers := D }) ∧
      Below w.heap.size w w1 ∧ w.heap.size ≤ l ∧ bs.Nodup ∧ ∀ b ∈ bs, w.heap.size ≤ b ∧ b < w1.heap.size ∧ w1.heap[b]? = some (.deferred (some [])) := by
  cases r with
  | none =>
    refine ⟨w.heap.size + 1, [w.heap.size], _, w.heap.size, run_enterLoop_outer fn tmps ps assign body, ?_, ((Below.refl _ _).alloc (Nat.le_refl _) _).alloc (by simp) _, by omega, by simp, ?_⟩
    · have := World.alloc_heap_new (w.alloc (.deferred (some []))) (.loop { state := .ready, pending := none, fn, tmps, params := ps, assign, body, defers := w.heap.size })
      simpa using this
    · intro b hb
      simp only [List.mem_singleton] at hb
      subst hb
      refine ⟨Nat.le_refl _, by simp; omega, ?_⟩
      rw [Below.heap_alloc _ _ _ (by simp)]
      exact World.alloc_heap_new w _
  | some l0 =>
    obtain ⟨rc, h1⟩ := hr l0 rfl
    refine ⟨w.heap.size, [], _, rc.defers, run_enterLoop_inner h1 fn tmps ps assign body, World.alloc_heap_new w _, (Below.refl _ _).alloc (Nat.le_refl _) _, Nat.le_refl _, List.nodup_nil, by simp⟩

/-- how a range over a function goes on -/
def rangeQ {β : Type} (tm : List AV) (Q : Exit → St β → Prop) (b : List Blk × β × Option Exit) : Prop :=
  match b.2.2 with
  | none => Q .normal ⟨tm, b.1, b.2.1⟩
  | some (.exit id) => Q (.exit id) ⟨tm, b.1, b.2.1⟩
  | some (.goto t) => Q (.goto t) ⟨tm, b.1, b.2.1⟩
  | some _ => Q .ret ⟨tm, b.1, b.2.1⟩

/-- **RANGE OVER A FUNCTION** -/
theorem W.range {g : Operand} {ps : Array Tmp} {assign body : Code} {k : Nat} {first caps : List AV} {Sp : SpT} (hg : evalA s.tm g = .fn (.func k) first caps) (hcl : closeds (first.map AV.view) = true) (hcl' : closeds (caps.map AV.view) = true)
    (hI : ICall P k ((first ++ [AV.yl] ++ caps).map AV.view) Sp) (h : Sp (YBody Ev s.tm ps assign body s.hp.length) (s.hp, s.b, none) (rangeQ s.tm Q)) : W Ev (.rangeFunc g ps assign body) s Q := by
  intro lo r S X V w m B hv a ht
  refine wpIn_rangeFunc fun fn _ => ?_
  obtain ⟨l, bs, w1, D, e1, e2, e3, e4, e5, e6⟩ := enter_loop (P := P) fn a.tmps ps assign body ht.round
  -- the function value
  have hfv := evalA_sound ht.rel g
  rw [hg] at hfv
  generalize hfe : a.eval g = fv at hfv
  cases hfv with
  | fn hne hl1 hl2 h1 h2 =>
    rename_i fs cs
    have hgs := Gs.below ht.rel.2.1 e3 (S' := S) ⟨fun _ _ h => h, fun _ _ h => .inl h⟩
    have hlt1 : ∀ b i, S b i → b < w1.heap.size := fun b i hs => Nat.lt_of_lt_of_le (ht.rel.slt b i hs) e3.size
    have htr := hgs.tr hlt1
    have hrel1 : Rel S X Ev.yl w1 m (s.tm.zip a.tmps.toList ++ (B ++ cellPairs s.hp hv)) s.hp hv := ht.rel.2.1.below e3 (fun _ _ h => h) (fun _ _ h => .inl h)
    have hl1w : l < w1.heap.size := (Array.getElem?_eq_some_iff.1 e2).1
    obtain ⟨bs0, m1, m2, m3⟩ := ht.marks
    have hbs0 : ∀ b ∈ bs0, b < w.heap.size := fun b hb => (Array.getElem?_eq_some_iff.1 (m3 b hb).2).1
    have hr0 : ∀ l0, r = some l0 → l0 < w.heap.size := fun l0 hl0 => by
      obtain ⟨rc, h3⟩ := ht.round l0 hl0
      exact (Array.getElem?_eq_some_iff.1 h3).1
    have hm0 : m.length ≤ s.hp.length := by rw [ht.rel.2.1.ml]; exact Nat.le_refl _
    have hbsN : ∀ b ∈ bs ++ bs0, b < w1.heap.size := fun b hb => (List.mem_append.1 hb).elim (fun h => (e6 b h).2.1) (fun h => Nat.lt_of_lt_of_le (hbs0 b h) e3.size)
    let Er := rangeEnv Ev r S X V w m s.tm a B s.hp.length (bs ++ bs0) l { state := .ready, pending := none, fn, tmps := a.tmps, params := ps, assign, body, defers := D } w1.heap.size ht.rel.1 rfl
      (Nat.le_trans ht.base.1 ht.base.2) e4 hm0 hl1w hbsN (fun l0 hl0 => Nat.lt_of_lt_of_le (hr0 l0 hl0) e3.size)
    have hargs : ((first ++ [AV.yl] ++ caps).map AV.view).length = (fs.toList ++ [Value.func (.yield l) #[] #[]] ++ cs.toList).length := by simp [hl1, hl2]
    have hpairs : ∀ p ∈ ((first ++ [AV.yl] ++ caps).map AV.view).zip (fs.toList ++ [Value.func (.yield l) #[] #[]] ++ cs.toList), RV S w1 [] (some l) p.1 p.2 ∧ ownB p = none := by
      intro p hp
      have hp1 := (List.of_mem_zip hp).1
      refine ⟨?_, ?_⟩
      · obtain ⟨j, hj⟩ := List.mem_iff_getElem?.1 hp
        rw [List.getElem?_zip_eq_some] at hj
        obtain ⟨j1, j2⟩ := hj
        simp only [List.map_append, List.map_cons, List.map_nil] at j1
        by_cases c1 : j < first.length
        · rw [List.append_assoc, List.getElem?_append_left (by simpa using c1)] at j1
          rw [List.append_assoc, List.getElem?_append_left (by simpa [← hl1] using c1)] at j2
          have hc := closeds_get hcl j _ j1
          simp only [List.getElem?_map, Option.map_eq_some_iff] at j1
          obtain ⟨y, j1, j3⟩ := j1
          have hy := ((h1 j y p.2 j1 (by simpa using j2)).view)
          rw [j3] at hy
          exact ((hy.tr htr).closed hc).opened
        · by_cases c2 : j = first.length
          · subst c2
            rw [List.getElem?_append_left (by simp), List.getElem?_append_right (by simp)] at j1
            rw [List.getElem?_append_left (by simp [← hl1]), List.getElem?_append_right (by simp [← hl1])] at j2
            simp [hl1] at j1 j2
            rw [← j1, ← j2]
            exact .yl rfl
          · rw [List.getElem?_append_right (by simp; omega)] at j1
            rw [List.getElem?_append_right (by simp [← hl1]; omega)] at j2
            simp only [List.length_append, List.length_map, List.length_cons, List.length_nil, Array.length_toList, ← hl1] at j1 j2
            have hc := closeds_get hcl' _ _ j1
            simp only [List.getElem?_map, Option.map_eq_some_iff] at j1
            obtain ⟨y, j1, j3⟩ := j1
            have hy := ((h2 _ y p.2 j1 (by simpa using j2)).view)
            rw [j3] at hy
            exact ((hy.tr htr).closed hc).opened
      · obtain ⟨p1, p2⟩ := p
        obtain ⟨y, _, rfl⟩ := List.mem_map.1 hp1
        exact ownB_view _ _
    have hrelI : Rel S (fun b _ => b < w1.heap.size) (some l) w1 [] (((first ++ [AV.yl] ++ caps).map AV.view).zip (fs.toList ++ [Value.func (.yield l) #[] #[]] ++ cs.toList) ++ ([] ++ cellPairs [] [])) [] [] := by
      have h0 : Rel S (fun b _ => b < w1.heap.size) (some l) w1 [] [] [] [] := ⟨fun b i h => h.elim (hlt1 b i) id, by simp, List.Pairwise.nil, by simp, by simp, by simp, rfl, rfl, by simp⟩
      simpa [cellPairs] using h0.pushAll _ hpairs
    have hE : Er.E (s.hp, s.b, none) S (fun b _ => b < w1.heap.size) w1 := by
      refine ⟨X, V, m, hv, rfl, by simpa using hrel1, ht.sub, Ev.stable ht.env (htr.mono (fun b i hx hv => hx (ht.sub b i hv)) (fun _ h => h)), MStep.refl m, ht.round.tr htr, fun b hb => ?_, fun c hc i => ?_, fun b i hv => ?_, fun b i h => h, fun b i hx => hrel1.lt b i (.inr hx), e2, hgs.went hlt1⟩
      · rcases List.mem_append.1 hb with h3 | h3
        · exact (e6 b h3).2.2
        · rw [e3.block b (hbs0 b h3)]; exact (m3 b h3).2
      · refine hrel1.ownedLt (b := c) ?_
        simpa using hc
      · exact hrel1.lt b i (.inr (ht.sub b i hv))
    have hcalls := hI.2 Er (s.hp, s.b, none) (rangeQ s.tm Q) h S _ (fun b _ => b < w1.heap.size) w1 [] [] _ hargs hrelI (fun _ _ h => h) hE (Nat.le_refl _)
    have hae : (fs.toList ++ [Value.func (.yield l) #[] #[]] ++ cs.toList).toArray = fs ++ #[Value.func (.yield l) #[] #[]] ++ cs := by apply Array.ext'; simp
    refine ⟨l, bs.map fun b => { target := .collected b, args := #[] }, w1, { target := .fn (.func k) cs, args := fs ++ #[Value.func (.yield l) #[] #[]] }, w1, k, fs ++ #[Value.func (.yield l) #[] #[]] ++ cs, w1, e1, ?_, fun _ _ => trivial, ?_, fun hd => (by cases hd), ?_⟩
    · have hm : Array.map a.eval #[Operand.const (Value.func (Fn.yield l) #[] #[])] = #[a.eval (Operand.const (Value.func (Fn.yield l) #[] #[]))] := by simp
      simp only [resolve, hfe, Deferred.ofValue, hm]; rfl
    · simp only [invoke]; exact hI.1 _ _
    · rw [hae] at hcalls
      refine (CallsIn.mono hcalls ?_ : CallsIn Fence.wide 0 P k _ w1 _)
      rintro e w3 ⟨v, ⟨hpE, bE, stE⟩, S', V', rfl, hQ, hE'⟩
      obtain ⟨Xc, Vc, mC, hvC, g0, g1, g2, g3, g4, g5, g6, g7, g8, g9, gXV, g10, g11⟩ := hE'
      simp only at g0 g1 g3 g10
      refine ⟨_, _, run_endLoop g10 (by cases stE <;> simp), ?_⟩
      have hlN : Ev.N ≤ l := Nat.le_trans (Nat.le_trans ht.base.1 ht.base.2) e4
      have hbeh : ∀ e, Q e ⟨s.tm, hpE, bE⟩ → Beh Ev lo r S X V w m B Q e { a with defers := (bs.map fun b => { target := .collected b, args := #[] }) ++ a.defers }
          (w3.putObj l (.loop { state := .exhausted, pending := stE.map codeOf, fn, tmps := a.tmps, params := ps, assign, body, defers := D })) := by
        intro e hQe
        refine ⟨⟨s.tm, hpE, bE⟩, S', Xc, Vc, mC, hvC, hQe, ⟨g11.putObj e4 g10, g4⟩, ⟨⟨ht.rel.1, ?_, by intro p hp; cases hp⟩, g2, Ev.stableO _ g3 hlN g10 rfl, fun l0 hl0 => ?_, ?_, ht.base.1, ?_⟩⟩
        · simpa using g1.putObj (o' := .loop { state := .exhausted, pending := stE.map codeOf, fn, tmps := a.tmps, params := ps, assign, body, defers := D }) g10 rfl
        · obtain ⟨rc, h3⟩ := g5 l0 hl0
          exact ⟨rc, putObj_other h3 (by have := hr0 l0 hl0; omega)⟩
        · refine ⟨bs ++ bs0, by simp [m1], ?_, fun b hb => ⟨?_, putObj_other (g6 b hb) ?_⟩⟩
          · rw [List.nodup_append]
            refine ⟨e5, m2, fun x hx y hy hxy => ?_⟩
            have := (e6 x hx).1; have := hbs0 y hy; omega
          · rcases List.mem_append.1 hb with h3 | h3
            · exact Nat.le_trans ht.base.2 (e6 b h3).1
            · exact (m3 b h3).1
          · rintro rfl
            have := g6 _ hb
            rw [g10] at this; cases this
        · simpa using Nat.le_trans ht.base.2 g11.tr.size
      cases stE with
      | none => exact hbeh .normal hQ
      | some e =>
        cases e with
        | exit id => exact wpIn_exit (hbeh (.exit id) hQ)
        | goto t => exact wpIn_goto (hbeh (.goto t) hQ)
        | ret => exact wpIn_ret (hbeh .ret hQ)
        | normal => exact wpIn_ret (hbeh .ret hQ)
        | panic ch => exact wpIn_ret (hbeh .ret hQ)
        | outgrown => exact wpIn_ret (hbeh .ret hQ)

/-- **AN ITERATOR'S CONTRACT OUT OF ITS WALK** -/
theorem ICall.ofW {f : Nat} {fn : Func} {args : List AV} {Sp : SpT} (hf : P.funcs[f]? = some fn) (hb : fn.body = some c) (hn : (fn.name == "runtime.NumGoroutine") = false)
    (hW : ∀ (Ev : Env P) (b : Ev.β) (Q : Ev.β → Prop), Sp Ev.Y b Q → W Ev c ⟨startTm fn args, [], b⟩ (FnPost P fn fun _ _ b' => Q b')) : ICall P f args Sp := by
  refine ⟨enter_ok hf hb hn, fun Ev b Q hSp S X V w m hv vs hl hrel hV hE hN => ?_⟩
  refine calls_of_W (Ev := Ev) (V := V) (B := []) hf hb hl (hW Ev b Q hSp) hrel hV hE hN ?_
  intro y S' X' V' w' m' hv' hp' v b' hq _ _ _ _ hE' _
  exact ⟨v, b', S', V', rfl, hq, hE'⟩

end
end Go.Proofs.Ytgdeoaiakdkhcaa.Am
