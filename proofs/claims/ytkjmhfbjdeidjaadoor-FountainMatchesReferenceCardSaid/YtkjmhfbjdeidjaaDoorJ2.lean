import Derived.Test.YtkjmhfbjdeidjaaDoorJ1
import Derived.Scope
import Derived.ChangeArms
import Derived.OpenShut
import Derived.ChangeShapes
import Derived.Carry
import Derived.ProofKit
import Derived.LaidMore
import Derived.FnData
set_option linter.unusedSimpArgs false
/- Iterators, and ranging over them. -/
namespace Go.Proofs.YtkjmhfbjdeidjaaDoor.Am
set_option linter.unusedVariables false
set_option linter.unusedSimpArgs false
open Go Go.RowKit

mutual
/-- it leans on blocks below n alone -/
def AV.low (n : Nat) : AV → Bool
  | .ref g .. | .ptr g _ | .gref g .. | .gptr g .. => g < n
  | .agg cs => lows n cs
  | .tup cs => lows n cs
  | .fn _ a b => lows n a && lows n b
  | _ => true
def lows (n : Nat) : List AV → Bool
  | [] => true
  | x :: r => x.low n && lows n r
end

def lowHp (n : Nat) (hp : List Blk) : Bool := (hp.take n).all fun blk => lows n blk.cells

/-- what a yield comes to: a round -/
abbrev YieldT (β : Type) := β → List AV → (Bool → β → Prop) → Prop

/-- what a contract of an iterator speaks of -/
abbrev SpT := ∀ {β : Type}, YieldT β → β → (β → Prop) → Prop

/-- an iterator's contract -/
def ICall (P : Program) (f : Nat) (args : List AV) (Sp : SpT) : Prop :=
  (∀ (as : Array Value) (w : World), (callFunc f as).run P w = .ok (.enter f as) w) ∧
  ∀ (Ev : Env P) (b : Ev.β) (Q : Ev.β → Prop), Sp Ev.Y b Q → ∀ (S X V : Pr) (w : World) (m : List MB) (hv : List (List Value)) (vs : List Value), args.length = vs.length →
    Rel S X Ev.yl w m (args.zip vs ++ ([] ++ cellPairs [] hv)) [] hv → (∀ b i, V b i → X b i) → Ev.E b S V w → Ev.N ≤ w.heap.size →
    CallsIn Fence.wide 0 P f vs.toArray w fun e w' => ∃ v b' S' V', e = .returned v ∧ Q b' ∧ Ev.E b' S' V' w'

/-- it yields the elements of a list, one after the other, until it is told to stop -/
def YList {β : Type} (Y : YieldT β) : List (List AV) → β → (β → Prop) → Prop
  | [], b, Q => Q b
  | x :: xs, b, Q => Y b x fun cont b' => if cont then YList Y xs b' Q else Q b'

def setParams (tm : List AV) (ps : Array Tmp) (args : List AV) : List AV := (ps.toList.zip args).foldl (fun tm p => tm.set p.1 p.2) tm

/-- by which jump a round was left -/
def codeOf : Exit → Code
  | .exit id => .exit id
  | .goto t => .goto t
  | _ => .ret

/-- a round -/
def YBody {P : Program} (Ev : Env P) (tm : List AV) (ps : Array Tmp) (assign body : Code) (n : Nat) : YieldT (List Blk × Ev.β × Option Exit) := fun b args Qy =>
  b.2.2 = none ∧ args.length = ps.size ∧ W Ev assign ⟨setParams (tm.map AV.view) ps (args.map AV.view), b.1, b.2.1⟩ fun e s1 => e = .normal ∧ W Ev body s1 fun e s2 => lowHp n s2.hp = true ∧ match e with
    | .normal => Qy true (s2.hp.take n, s2.b, none)
    | .ret => Qy false (s2.hp.take n, s2.b, some .ret)
    | .exit id => Qy false (s2.hp.take n, s2.b, some (.exit id))
    | .goto t => Qy false (s2.hp.take n, s2.b, some (.goto t))
    | _ => False

section
variable {P : Program} {S S' S'' X X' X'' V V' V'' Z : Pr} {L : Nat → Prop} {r : Option Nat} {lo : Nat} {yv : Option Nat} {w w' w'' : World} {m m' m'' : List MB} {A B T : List (AV × Value)} {hp hp' : List Blk} {hv hv' : List (List Value)} {call : CallT} {a a' : Act} {o : Oper} {ops : Array Oper} {Ev : Env P}
  {s : St Ev.β} {Q Q' : Exit → St Ev.β → Prop} {c c' : Code}

theorem lows_get {n : Nat} : ∀ {cs : List AV}, lows n cs = true → ∀ (i : Nat) (c : AV), cs[i]? = some c → c.low n = true
  | [], _, i, c, h => by simp at h
  | x :: r, hc, i, c, h => by
    simp only [lows, Bool.and_eq_true] at hc
    cases i with
    | zero => simp at h; subst h; exact hc.1
    | succ i => simp at h; exact lows_get hc.2 i c h

theorem RV.low {n : Nat} {x : AV} {v : Value} (h : RV S w m yv x v) : x.low n = true → RV S w (m.take n) yv x v := by
  induction h with
  | d h => exact fun _ => .d h
  | agg hl h ih => exact fun hc => .agg hl fun i c v h1 h2 => ih i c v h1 h2 (lows_get (by simpa [AV.low] using hc) i c h1)
  | tup hl h ih => exact fun hc => .tup hl fun i c v h1 h2 => ih i c v h1 h2 (lows_get (by simpa [AV.low] using hc) i c h1)
  | own h1 h2 => exact fun _ => .own h1 h2
  | ownNil => exact fun _ => .ownNil
  | full h => exact fun _ => .full h
  | rptr vals hne hsp hs hcc hr h1 => exact fun _ => .rptr vals hne hsp hs hcc hr h1
  | ref h hfit hn => exact fun hc => .ref (by rw [List.getElem?_take, if_pos (by simpa [AV.low] using hc)]; exact h) hfit hn
  | ptr h => exact fun hc => .ptr (by rw [List.getElem?_take, if_pos (by simpa [AV.low] using hc)]; exact h)
  | gref h hv h1 hcc => exact fun hc => .gref (by rw [List.getElem?_take, if_pos (by simpa [AV.low] using hc)]; exact h) hv h1 hcc
  | gptr h hv h1 hcc => exact fun hc => .gptr (by rw [List.getElem?_take, if_pos (by simpa [AV.low] using hc)]; exact h) hv h1 hcc
  | fn hf hl hl' h h' ih ih' =>
    intro hc
    simp only [AV.low, Bool.and_eq_true] at hc
    exact .fn hf hl hl' (fun i c v h1 h2 => ih i c v h1 h2 (lows_get hc.1 i c h1)) (fun i c v h1 h2 => ih' i c v h1 h2 (lows_get hc.2 i c h1))
  | yl h => exact fun _ => .yl h
  | bad => exact fun _ => .bad

theorem MStep.take {n : Nat} (h : MStep m m') (hl : m.length ≤ n) : MStep m (m'.take n) := by
  intro g p hp
  have hg : g < n := Nat.lt_of_lt_of_le (List.getElem?_eq_some_iff.1 hp).1 hl
  simp only [List.getElem?_take, if_pos hg]
  exact h g p hp

theorem MStep.len (h : MStep m m') : m.length ≤ m'.length := by
  rcases Nat.lt_or_ge m'.length m.length with hl | hl
  · have := h m'.length m[m'.length] (by simp [hl])
    simp at this
  · exact hl

/-- the blocks that were laid last are forgotten -/
theorem Rel.trunc {n : Nat} (h : Rel S X yv w m (T ++ cellPairs hp hv) hp hv) (hT : ∀ p ∈ T, RV S w (m.take n) yv p.1 p.2) (hlow : lowHp n hp = true) :
    Rel S X yv w (m.take n) (T ++ cellPairs (hp.take n) (hv.take n)) (hp.take n) (hv.take n) := by
  have hsub : (T ++ cellPairs (hp.take n) (hv.take n)).Sublist (T ++ cellPairs hp hv) := by
    refine List.Sublist.append (List.Sublist.refl _) ?_
    unfold cellPairs
    have : (hp.take n).zip (hv.take n) = (hp.zip hv).take n := by simp [List.zip, List.take_zipWith]
    rw [this]
    conv => rhs; rw [← List.take_append_drop n (hp.zip hv)]
    rw [List.flatMap_append]
    exact List.sublist_append_left _ _
  have hcell : ∀ p ∈ cellPairs (hp.take n) (hv.take n), p.1.low n = true := by
    intro p hp'
    simp only [cellPairs, List.mem_flatMap] at hp'
    obtain ⟨q, hq, hpq⟩ := hp'
    obtain ⟨q1, q2⟩ := q
    have hq1 := (List.of_mem_zip hq).1
    have hlq := List.all_eq_true.1 hlow q1 hq1
    obtain ⟨j, hj⟩ := List.mem_iff_getElem?.1 hpq
    rw [List.getElem?_zip_eq_some] at hj
    exact lows_get hlq j _ hj.1
  refine ⟨h.lt, fun p hp' => ?_, h.pw.sublist hsub, fun p hp' b hb x hx => h.nm p (hsub.subset hp') b hb x (List.mem_of_mem_take hx), fun p hp' => h.sp p (hsub.subset hp'), ?_, by simp [h.ml], by simp [h.hl], fun g blk p vs h1 h2 h3 => ?_, h.gl⟩
  · rcases List.mem_append.1 hp' with hp1 | hp1
    · exact hT p hp1
    · exact (h.rv p (hsub.subset hp')).low (hcell p hp1)
  · rw [List.map_take]; exact h.mnd.sublist (List.take_sublist _ _)
  · simp only [List.getElem?_take] at h1 h2 h3
    split at h1 <;> try (cases h1; done)
    rename_i hg
    rw [if_pos hg] at h2 h3
    exact h.bl g blk p vs h1 h2 h3

/-- other cells to keep away from -/
theorem Rel.setX (h : Rel S X yv w m A hp hv) (hlt : ∀ b i, X' b i → b < w.heap.size) (hm : ∀ (g : Nat) (blk : Blk) (p : MB), hp[g]? = some blk → m[g]? = some p → blk.fro = false → ∀ i, ¬ X' p.b i)
    (ho : ∀ p ∈ A, ∀ b, ownB p = some b → ∀ i, ¬ X' b i) : Rel S X' yv w m A hp hv :=
  ⟨fun b i hbi => hbi.elim (fun h1 => h.lt b i (.inl h1)) (hlt b i), h.rv, h.pw, h.nm, fun p hp b hb => ⟨ho p hp b hb, (h.sp p hp b hb).2⟩, h.mnd, h.ml, h.hl,
   fun g blk p vs h1 h2 h3 => let ⟨a1, a2, a3, a4, a5, a6, a9, a10⟩ := h.bl g blk p vs h1 h2 h3; ⟨a1, a2, a3, a4, a5, a6, fun hf i => ⟨(a9 hf i).1, hm g blk p h1 h2 hf i⟩, a10⟩, h.gl⟩

/-- the blocks that an activation may turn -/
def Owned (hp : List Blk) (m : List MB) (A : List (AV × Value)) (b : Nat) : Prop :=
  (∃ (g : Nat) (blk : Blk) (p : MB), hp[g]? = some blk ∧ m[g]? = some p ∧ blk.fro = false ∧ p.b = b) ∨ ∃ p ∈ A, ownB p = some b

theorem Rel.notX (h : Rel S X yv w m A hp hv) {b : Nat} (ho : Owned hp m A b) (i : Nat) : ¬ X b i := by
  rcases ho with ⟨g, blk, p, h1, h2, h3, rfl⟩ | ⟨p, hp, hb⟩
  · have hg : g < hv.length := by rw [h.hl]; exact (List.getElem?_eq_some_iff.1 h1).1
    exact ((h.bl g blk p hv[g] h1 h2 (by simp [hg])).2.2.2.2.2.2.1 h3 i).2
  · exact (h.sp p hp b hb).1 i

theorem Rel.ownedLt (h : Rel S X yv w m A hp hv) {b : Nat} (ho : Owned hp m A b) : b < w.heap.size := by
  rcases ho with ⟨g, blk, p, h1, h2, h3, rfl⟩ | ⟨p, hp, hb⟩
  · have hg : g < hv.length := by rw [h.hl]; exact (List.getElem?_eq_some_iff.1 h1).1
    obtain ⟨_, _, _, _, _, ⟨cur, e, h4, _⟩, _⟩ := h.bl g blk p hv[g] h1 h2 (by simp [hg])
    exact (Array.getElem?_eq_some_iff.1 h4).1
  · exact own_lt (h.rv p hp) (x := p.1) (v := p.2) hb

/-- whoever ranges: what holds of its world between two rounds. T: its temporaries (and its callers' pairs); w0: where the loop began; bs: its marks; l: the record -/
def RangeE (Ev : Env P) (r : Option Nat) (S0 X V0 : Pr) (w0 : World) (m0 : List MB) (T : List (AV × Value)) (n : Nat) (bs : List Nat) (l : Nat) (rec : Loop) (b : List Blk × Ev.β × Option Exit) (S V : Pr) (w : World) : Prop :=
  ∃ (Xc Vc : Pr) (mC : List MB) (hvC : List (List Value)), b.1.length = n ∧ Rel S Xc Ev.yl w mC (T ++ cellPairs b.1 hvC) b.1 hvC ∧ (∀ b i, Vc b i → Xc b i) ∧ Ev.E b.2.1 S Vc w ∧ MStep m0 mC ∧ RoundOk r w ∧
    (∀ b ∈ bs, w.heap[b]? = some (.deferred (some []))) ∧ (∀ c, Owned b.1 mC (T ++ cellPairs b.1 hvC) c → ∀ i, V c i) ∧ (∀ b i, Vc b i → V b i) ∧ (∀ b i, V b i → b < w.heap.size) ∧ (∀ b i, X b i → V b i) ∧
    w.heap[l]? = some (.loop { rec with state := if b.2.2.isNone then .ready else .done, pending := b.2.2.map codeOf }) ∧ Went Ev.L S0 X V0 w0 S Xc Vc w

theorem Rel.zm (h : ∀ c, Owned hp m A c → ∀ i, V c i) : (∀ (g : Nat) (blk : Blk) (p : MB), hp[g]? = some blk → m[g]? = some p → blk.fro = false → ∀ i, ¬ ¬ V p.b i) ∧ (∀ p ∈ A, ∀ b, ownB p = some b → ∀ i, ¬ ¬ V b i) :=
  ⟨fun g blk p h1 h2 h3 i hn => hn (h p.b (.inl ⟨g, blk, p, h1, h2, h3, rfl⟩) i), fun p hp b hb i hn => hn (h b (.inr ⟨p, hp, hb⟩) i)⟩

theorem RangeE.stable {S0 X V0 : Pr} {w0 : World} {m0 : List MB} {n : Nat} {bs : List Nat} {l : Nat} {rec : Loop} {b : List Blk × Ev.β × Option Exit} (h : RangeE Ev r S0 X V0 w0 m0 T n bs l rec b S V w)
    (ht : Tr (fun b i => ¬ V b i) (fun _ => False) S w S' w') : RangeE Ev r S0 X V0 w0 m0 T n bs l rec b S' V w' := by
  obtain ⟨Xc, Vc, mC, hvC, h0, h1, h2, h3, h4, h5, h6, h7, h8, h9, hXV, h10, h11⟩ := h
  obtain ⟨z1, z2⟩ := Rel.zm h7
  refine ⟨Xc, Vc, mC, hvC, h0, h1.still ht z1 z2 (fun _ _ h => .inl h), h2, Ev.stable h3 (ht.mono (fun b i hn hc => hn (h8 b i hc)) (fun _ h => h)), h4, h5.tr ht, fun b hb => ?_, h7, h8, fun b i hv => Nat.lt_of_lt_of_le (h9 b i hv) ht.size, hXV, ?_, ?_⟩
  · rcases ht.objs b _ (h6 b hb) rfl with h12 | ⟨h12, _⟩
    · exact h12
    · exact h12.elim
  · rcases ht.objs l _ h10 rfl with h12 | ⟨h12, _⟩
    · exact h12
    · exact h12.elim
  · exact ⟨h11.tr.trans ht (fun b i hb hz => .inl fun hx => hz (hXV b i hx)) (fun _ _ h => h.elim), h11.xs, h11.vs⟩

theorem putObj_other {d k : Nat} {o' o1 : Obj} (hk : w.heap[k]? = some o1) (hne : k ≠ d) : (w.putObj d o').heap[k]? = some o1 := by rw [World.putObj_heap_other hne]; exact hk

theorem RangeE.putObj {S0 X V0 : Pr} {w0 : World} {m0 : List MB} {n N : Nat} {bs : List Nat} {l : Nat} {rec : Loop} {b : List Blk × Ev.β × Option Exit} (h : RangeE Ev r S0 X V0 w0 m0 T n bs l rec b S V w)
    {d : Nat} {o : Obj} (o' : Obj) (hd : N ≤ d) (hdo : w.heap[d]? = some o) (ho : o.isCells = false) (hN : Ev.N ≤ N) (hw0 : w0.heap.size ≤ N) (hbs : ∀ b ∈ bs, b < N) (hl : l < N) (hr : ∀ l0, r = some l0 → l0 < N) :
    RangeE Ev r S0 X V0 w0 m0 T n bs l rec b S V (w.putObj d o') := by
  obtain ⟨Xc, Vc, mC, hvC, h0, h1, h2, h3, h4, h5, h6, h7, h8, h9, hXV, h10, h11⟩ := h
  refine ⟨Xc, Vc, mC, hvC, h0, h1.putObj hdo ho, h2, Ev.stableO o' h3 (Nat.le_trans hN hd) hdo ho, h4, fun l0 hl0 => ?_, fun b hb => ?_, h7, h8, fun b i hv => by simpa using h9 b i hv, hXV, ?_, ⟨h11.tr.putObj (Nat.le_trans hw0 hd) hdo, h11.xs, h11.vs⟩⟩
  · obtain ⟨rc, h12⟩ := h5 l0 hl0
    exact ⟨rc, putObj_other h12 (by have := hr l0 hl0; omega)⟩
  · exact putObj_other (h6 b hb) (by have := hbs b hb; omega)
  · exact putObj_other h10 (by omega)

theorem Went.lessX {V V' X1 : Pr} (h : Went L S X V w S' X' V' w') (hx : ∀ b i, X1 b i → X b i) : Went L S X1 V w S' X' V' w' :=
  ⟨h.tr.mono (fun b i hz => hz.imp (fun h1 h2 => h1 (hx b i h2)) id) (fun _ h => h), fun b i h1 => h.xs b i (hx b i h1), h.vs⟩

theorem Went.putObj {V V' : Pr} (h : Went L S X V w S' X' V' w') {d : Nat} {o o' : Obj} (hd : w.heap.size ≤ d) (hdo : w'.heap[d]? = some o) : Went L S X V w S' X' V' (w'.putObj d o') := ⟨h.tr.putObj hd hdo, h.xs, h.vs⟩

theorem setParams_pairs {G : AV × Value → Prop} : ∀ (ps : List Tmp) (xs : List AV) (vs : List Value) (tm : List AV) (tmps : Array Value), tm.length = tmps.size → (∀ p ∈ tm.zip tmps.toList, G p) → xs.length = vs.length →
    (∀ (i : Nat) (x : AV) (v : Value), xs[i]? = some x → vs[i]? = some v → G (x, v)) →
    ((ps.zip xs).foldl (fun tm p => tm.set p.1 p.2) tm).length = ((ps.zip vs).foldl (fun tmps p => tmps.setIfInBounds p.1 p.2) tmps).size ∧
      ∀ p ∈ ((ps.zip xs).foldl (fun tm p => tm.set p.1 p.2) tm).zip ((ps.zip vs).foldl (fun tmps p => tmps.setIfInBounds p.1 p.2) tmps).toList, G p
  | [], xs, vs, tm, tmps, hl, hG, hlx, hx => by simpa using ⟨hl, fun a b h => hG (a, b) h⟩
  | p :: ps, [], vs, tm, tmps, hl, hG, hlx, hx => by
    have : vs = [] := by simpa using hlx.symm
    subst this
    simpa using ⟨hl, fun a b h => hG (a, b) h⟩
  | p :: ps, x :: xs, [], tm, tmps, hl, hG, hlx, hx => by simp at hlx
  | p :: ps, x :: xs, v :: vs, tm, tmps, hl, hG, hlx, hx => by
    simp only [List.zip_cons_cons, List.foldl_cons]
    refine setParams_pairs ps xs vs _ _ (by simp [hl]) (fun q hq => ?_) (by simpa using hlx) (fun i y u h1 h2 => hx (i + 1) y u h1 h2)
    rw [Array.toList_setIfInBounds, zip_set] at hq
    rcases List.mem_or_eq_of_mem_set hq with h1 | rfl
    · exact hG q h1
    · exact hx 0 x v rfl rfl

theorem Tie.putLoop {s : RS} {b : Ev.β} (h : Tie Ev lo r S X V w m B hv s b a) {l : Nat} {rc : Loop} (rc' : Loop) (hl : w.heap[l]? = some (.loop rc)) (hN : Ev.N ≤ l) : Tie Ev lo r S X V (w.putObj l (.loop rc')) m B hv s b a := by
  have hll : l < w.heap.size := (Array.getElem?_eq_some_iff.1 hl).1
  refine ⟨⟨h.rel.1, h.rel.2.1.putObj hl rfl, h.rel.2.2⟩, h.sub, Ev.stableO _ h.env hN hl rfl, fun l0 hl0 => ?_, ?_, h.base.1, by simpa using h.base.2⟩
  · obtain ⟨rc0, h1⟩ := h.round l0 hl0
    by_cases he : l0 = l
    · subst he; exact ⟨rc', World.putObj_heap_same hll⟩
    · exact ⟨rc0, putObj_other h1 he⟩
  · obtain ⟨bs, h1, h2, h3⟩ := h.marks
    refine ⟨bs, h1, h2, fun b hb => ⟨(h3 b hb).1, putObj_other (h3 b hb).2 ?_⟩⟩
    rintro rfl
    have := (h3 _ hb).2
    rw [hl] at this; cases this

theorem YBody.mono {tm : List AV} {ps : Array Tmp} {assign body : Code} {n : Nat} {b : List Blk × Ev.β × Option Exit} {args : List AV} {Q Q' : Bool → (List Blk × Ev.β × Option Exit) → Prop} (h : YBody Ev tm ps assign body n b args Q)
    (hq : ∀ c b', Q c b' → Q' c b') : YBody Ev tm ps assign body n b args Q' := by
  refine ⟨h.1, h.2.1, W.mono h.2.2 fun e s1 h1 => ⟨h1.1, W.mono h1.2 fun e s2 h2 => ⟨h2.1, ?_⟩⟩⟩
  have h3 := h2.2
  cases e <;> first | exact hq _ _ h3 | exact h3

/-- **one round** -/
theorem range_round {S0 X V0 : Pr} {w0 : World} {m0 : List MB} {n : Nat} {bs : List Nat} {l : Nat} {rec : Loop} {b : List Blk × Ev.β × Option Exit} {args : List AV} {vs : List Value} {tm : List AV} {a : Act} {B : List (AV × Value)}
    {Qy : Bool → List Blk × Ev.β × Option Exit → Prop} (htm : tm.length = a.tmps.size) (hrec : rec.tmps = a.tmps) (hY : YBody Ev tm rec.params rec.assign rec.body n b args Qy)
    (hE : RangeE Ev r S0 X V0 w0 m0 (tm.zip a.tmps.toList ++ B) n bs l rec b S V w) (hl : args.length = vs.length) (hvs : ∀ (i : Nat) (x : AV) (v : Value), args[i]? = some x → vs[i]? = some v → RV S w [] none x v)
    (hNw : Ev.N ≤ w0.heap.size) (hlw : w0.heap.size ≤ l) (hm0 : m0.length ≤ n) :
    ∃ f tmps assign body, (Instr.yield l vs.toArray).run P w = .ok (.round l f tmps assign body) w ∧
      RoundIn Fence.wide 0 P l f tmps assign body w (fun e w' => ∃ cont b' S' V', e = .returned (.bool cont) ∧ Qy cont b' ∧ RangeE Ev r S0 X V0 w0 m0 (tm.zip a.tmps.toList ++ B) n bs l rec b' S' V' w' ∧ Tr V (fun x => x = l ∨ Ev.L x) S w S' w' ∧
        (∀ b i, V b i → V' b i) ∧ (∀ b i, V' b i → V b i ∨ (w.heap.size ≤ b ∧ b < w'.heap.size))) := by
  obtain ⟨hpC, bC, st⟩ := b
  obtain ⟨Xc, Vc, mC, hvC, h0, h1, h2, h3, h4, h5, h6, h7, h8, h9, hXV, h10, h11⟩ := hE
  obtain ⟨y1, y2, y3⟩ := hY
  simp only at y1 y2 y3 h0 h1 h3 h7 h10
  subst y1
  simp only [Option.isNone_none, if_true, Option.map_none] at h10
  have hw0 : w0.heap.size ≤ w.heap.size := h11.tr.size
  have hLl : ¬ Ev.L l := fun h => by have := Ev.Llt h; omega
  refine ⟨_, _, _, _, run_yield h10 (by simp [← hl, y2]), roundIn_of_wpIn (F := Fence.wide) trivial ?_⟩
  -- the round's first tie
  have hXb : ∀ b i, Xc b i → (b < w.heap.size ∧ ¬ Owned hpC mC ((tm.zip a.tmps.toList ++ B) ++ cellPairs hpC hvC) b) := fun b i hx => ⟨h1.lt b i (.inr hx), fun ho => h1.notX ho i hx⟩
  have hrelb : Rel S (fun b _ => b < w.heap.size ∧ ¬ Owned hpC mC ((tm.zip a.tmps.toList ++ B) ++ cellPairs hpC hvC) b) Ev.yl w mC ((tm.zip a.tmps.toList ++ B) ++ cellPairs hpC hvC) hpC hvC :=
    h1.setX (fun b i h => h.1) (fun g blk p g1 g2 g3 i h => h.2 (.inl ⟨g, blk, p, g1, g2, g3, rfl⟩)) (fun p hp b hb i h => h.2 (.inr ⟨p, hp, hb⟩))
  have hpairs := setParams_pairs (G := fun p => RV S w mC Ev.yl p.1 p.2 ∧ ownB p = none) rec.params.toList (args.map AV.view) vs (tm.map AV.view) a.tmps (by simpa using htm) (fun p hp => by
      obtain ⟨j, hj⟩ := List.mem_iff_getElem?.1 hp
      rw [List.getElem?_zip_eq_some] at hj
      obtain ⟨j1, j2⟩ := hj
      simp only [List.getElem?_map, Option.map_eq_some_iff] at j1
      obtain ⟨x, j1, j3⟩ := j1
      obtain ⟨p1, p2⟩ := p
      simp only at j2 j3
      subst j3
      refine ⟨(h1.rv (x, p2) (List.mem_append_left _ (List.mem_append_left _ (List.mem_iff_getElem?.2 ⟨j, ?_⟩)))).view, ownB_view _ _⟩
      rw [List.getElem?_zip_eq_some]; exact ⟨j1, j2⟩) (by simpa using hl) (fun i x v q1 q2 => by
      simp only [List.getElem?_map, Option.map_eq_some_iff] at q1
      obtain ⟨y, q1, rfl⟩ := q1
      exact ⟨(hvs i y v q1 q2).opened.view, ownB_view _ _⟩)
  have hfold : ((rec.params.zip vs.toArray).foldl (fun tmps (x : Tmp × Value) => tmps.setIfInBounds x.1 x.2) rec.tmps) = (rec.params.toList.zip vs).foldl (fun tmps p => tmps.setIfInBounds p.1 p.2) a.tmps := by
    rw [← Array.foldl_toList, Array.toList_zip, hrec]
  have hrecw : w.heap[l]? = some (.loop { rec with state := .ready, pending := none }) := h10
  have tie0 : Tie Ev w.heap.size (some l) S (fun b _ => b < w.heap.size ∧ ¬ Owned hpC mC ((tm.zip a.tmps.toList ++ B) ++ cellPairs hpC hvC) b) Vc w mC (tm.zip a.tmps.toList ++ B) hvC
      ⟨setParams (tm.map AV.view) rec.params (args.map AV.view), hpC, []⟩ bC { tmps := (rec.params.zip vs.toArray).foldl (fun tmps (x : Tmp × Value) => tmps.setIfInBounds x.1 x.2) rec.tmps, defers := [] } := by
    refine ⟨⟨?_, ?_, by intro p hp; cases hp⟩, fun b i hv => hXb b i (h2 b i hv), h3, fun l0 hl0 => ?_, ⟨[], rfl, List.nodup_nil, by simp⟩, by omega, Nat.le_refl _⟩
    · rw [hfold]; exact hpairs.1
    · rw [hfold]; exact hrelb.pushAll _ hpairs.2
    · cases hl0; exact ⟨_, hrecw⟩
  refine wpIn_mono (y3 w.heap.size (some l) S _ Vc w mC (tm.zip a.tmps.toList ++ B) hvC _ tie0) ?_
  rintro e a1 w1 ⟨s1, S1, X1, V1, m1, hv1, ⟨rfl, hWb⟩, ⟨went1, ms1⟩, tie1⟩
  have hrec1 : w1.heap[l]? = some (.loop { rec with state := .ready, pending := none }) := (went1.tr.objs l _ hrecw rfl).resolve_right fun h => hLl h.1
  refine ⟨_, run_beginRound hrec1 rfl, ?_⟩
  have tie1' := tie1.putLoop { rec with state := .busy, pending := none } hrec1 (Nat.le_trans hNw hlw)
  refine wpIn_mono (hWb w.heap.size (some l) S1 X1 V1 _ m1 (tm.zip a.tmps.toList ++ B) hv1 a1 tie1') ?_
  rintro e a2 w3 ⟨s2, S2, X2, V2, m2, hv2, ⟨hlow, hq⟩, ⟨went2, ms2⟩, tie2⟩
  have hl1 : l < w1.heap.size := (Array.getElem?_eq_some_iff.1 hrec1).1
  have hrec3 : w3.heap[l]? = some (.loop { rec with state := .busy, pending := none }) := (went2.tr.objs l _ (World.putObj_heap_same hl1) rfl).resolve_right fun h => hLl h.1
  have hl3 : l < w3.heap.size := (Array.getElem?_eq_some_iff.1 hrec3).1
  -- all together
  have key : ∀ st' : Option Exit, RangeE Ev r S0 X V0 w0 m0 (tm.zip a.tmps.toList ++ B) n bs l rec (s2.hp.take n, s2.b, st') S2 (fun b i => V b i ∨ (w.heap.size ≤ b ∧ b < w3.heap.size))
        (w3.putObj l (.loop { rec with state := if (st'.map codeOf).isNone then .ready else .done, pending := st'.map codeOf })) ∧
      Tr V (fun x => x = l ∨ Ev.L x) S w S2 (w3.putObj l (.loop { rec with state := if (st'.map codeOf).isNone then .ready else .done, pending := st'.map codeOf })) := by
    intro st'
    have htr2 : Tr (fun b i => ¬ (b < w.heap.size ∧ ¬ Owned hpC mC ((tm.zip a.tmps.toList ++ B) ++ cellPairs hpC hvC) b) ∨ Vc b i) (fun x => x = l ∨ Ev.L x) S w S1 (w1.putObj l (.loop { rec with state := .busy, pending := none })) :=
      went1.tr.putLoop (rc := { rec with state := .ready, pending := none }) .busy none hrec1
    have htr3 : Tr (fun b i => ¬ (b < w.heap.size ∧ ¬ Owned hpC mC ((tm.zip a.tmps.toList ++ B) ++ cellPairs hpC hvC) b) ∨ Vc b i) (fun x => x = l ∨ Ev.L x) S w S2 w3 :=
      htr2.trans went2.tr (fun b i hb hz => hz.elim (fun h => .inl fun hx => h (went1.xs b i hx)) fun h => (went1.vs b i h).elim .inr fun h' => absurd h' (by omega)) (fun x _ h => .inr h)
    have htr4 : Tr V (fun x => x = l ∨ Ev.L x) S w S2 (w3.putObj l (.loop { rec with state := if (st'.map codeOf).isNone then .ready else .done, pending := st'.map codeOf })) :=
      (htr3.putLoop (rc := { rec with state := .busy, pending := none }) (if (st'.map codeOf).isNone then .ready else .done) (st'.map codeOf) hrec3).mono' (fun b i hb hz => hz.elim (fun h => h7 b (Classical.byContradiction fun ho => h ⟨hb, ho⟩) i) (h8 b i)) (fun x hx => hx.elim .inl id)
    have hml : mC.length = n := by rw [h1.ml, h0]
    have hm2 := (ms1.trans ms2).len
    have hhl : s2.hp.length = m2.length := tie2.rel.2.1.ml.symm
    have hrel3 : Rel S2 X2 Ev.yl w3 (m2.take n) ((tm.zip a.tmps.toList ++ B) ++ cellPairs (s2.hp.take n) (hv2.take n)) (s2.hp.take n) (hv2.take n) :=
      (tie2.rel.2.1.sub (List.sublist_append_right _ _)).trunc (fun p hp => ((h1.rv p (List.mem_append_left _ hp)).tr htr3).blocks ((ms1.trans ms2).take (by omega))) hlow
    have hrel4 := hrel3.putObj (o' := .loop { rec with state := if (st'.map codeOf).isNone then .ready else .done, pending := st'.map codeOf }) hrec3 rfl
    have hwent : Went Ev.L S0 X V0 w0 S2 X2 V2 w3 := ((h11.trans (went1.lessX hXb)).putObj hlw hrec1).trans went2
    have hXbX2 : ∀ b i, (b < w.heap.size ∧ ¬ Owned hpC mC ((tm.zip a.tmps.toList ++ B) ++ cellPairs hpC hvC) b) → X2 b i := fun b i h => went2.xs b i (went1.xs b i h)
    refine ⟨⟨X2, V2, m2.take n, hv2.take n, ?_, hrel4, tie2.sub, Ev.stableO _ tie2.env (Nat.le_trans hNw hlw) hrec3 rfl, (h4.trans (ms1.trans ms2)).take hm0, h5.tr htr4, fun b hb => ?_, fun c hc i => ?_, fun b i hv => ?_, fun b i hv => ?_, fun b i hx => .inl (hXV b i hx), ?_, hwent.putObj hlw hrec3⟩, htr4⟩
    · simp; omega
    · rcases htr4.objs b _ (h6 b hb) rfl with h12 | ⟨_, o', _, _, _, _, h13, _⟩
      · exact h12
      · cases h13
    · have hcl := hrel3.ownedLt hc
      by_cases hcw : c < w.heap.size
      · refine .inl (h7 c (Classical.byContradiction fun ho => ?_) i)
        exact hrel3.notX hc i (hXbX2 c i ⟨hcw, ho⟩)
      · exact .inr ⟨by omega, hcl⟩
    · have hb3 : b < w3.heap.size := hrel3.lt b i (.inr (tie2.sub b i hv))
      rcases went2.vs b i hv with h12 | h12
      · rcases went1.vs b i h12 with h13 | h13
        · exact .inl (h8 b i h13)
        · exact .inr ⟨h13, hb3⟩
      · refine .inr ⟨Nat.le_trans went1.tr.size (by simpa using h12), hb3⟩
    · rcases hv with h12 | ⟨_, h12⟩
      · have := h9 b i h12; have := htr3.size; simp; omega
      · simpa using h12
    · rw [World.putObj_heap_same hl3]
      cases st' <;> rfl
  have hV1 : ∀ b i, V b i → (V b i ∨ (w.heap.size ≤ b ∧ b < w3.heap.size)) := fun _ _ h => .inl h
  cases e with
  | normal =>
    obtain ⟨k1, k2⟩ := key none
    exact ⟨_, _, run_endRound none hrec3, true, _, _, _, rfl, hq, k1, k2, hV1, fun b i h => by simpa using h⟩
  | ret =>
    obtain ⟨k1, k2⟩ := key (some .ret)
    exact ⟨_, _, run_endRound (some .ret) hrec3, false, _, _, _, rfl, hq, k1, k2, hV1, fun b i h => by simpa using h⟩
  | exit id =>
    obtain ⟨k1, k2⟩ := key (some (.exit id))
    exact ⟨_, _, run_endRound (some (.exit id)) hrec3, false, _, _, _, rfl, hq, k1, k2, hV1, fun b i h => by simpa using h⟩
  | goto t =>
    obtain ⟨k1, k2⟩ := key (some (.goto t))
    exact ⟨_, _, run_endRound (some (.goto t)) hrec3, false, _, _, _, rfl, hq, k1, k2, hV1, fun b i h => by simpa using h⟩
  | panic ch => exact hq.elim
  | outgrown => exact hq.elim

/-- the surroundings of an iterator that is ranged over -/
def rangeEnv (Ev : Env P) (r : Option Nat) (S0 X V0 : Pr) (w0 : World) (m0 : List MB) (tm : List AV) (a : Act) (B : List (AV × Value)) (n : Nat) (bs : List Nat) (l : Nat) (rec : Loop) (N : Nat) (htm : tm.length = a.tmps.size) (hrec : rec.tmps = a.tmps)
    (hNw : Ev.N ≤ w0.heap.size) (hlw : w0.heap.size ≤ l) (hm0 : m0.length ≤ n) (hlN : l < N) (hbs : ∀ b ∈ bs, b < N) (hr : ∀ l0, r = some l0 → l0 < N) : Env P :=
  { β := List Blk × Ev.β × Option Exit, N := N, yl := some l, L := fun x => x = l ∨ Ev.L x, E := RangeE Ev r S0 X V0 w0 m0 (tm.zip a.tmps.toList ++ B) n bs l rec, Y := YBody Ev tm rec.params rec.assign rec.body n,
    Llt := fun h => h.elim (fun h => h ▸ hlN) (fun h => by have := Ev.Llt h; omega)
    Ymono := fun h hq => YBody.mono h hq
    stable := fun h ht => h.stable ht
    stableO := fun o' h hd hdo ho => h.putObj o' hd hdo ho (by omega) (by omega) hbs hlN hr
    yok := fun hY hE hl hlen hvs _ => by
      cases hl
      exact range_round htm hrec hY hE hlen hvs hNw hlw hm0 }

theorem enter_loop (fn : FuncId) (tmps : Array Value) (ps : Array Tmp) (assign body : Code) (hr : RoundOk r w) :
    ∃ (l : Nat) (bs : List Nat) (w1 : World) (D : Nat), (Instr.enterLoop fn tmps ps assign body r).run P w = .ok (l, bs.map fun b => { target := .collected b, args := #[] }) w1 ∧ w1.heap[l]? = some (.loop { state := .ready, pending := none, fn, tmps, params := ps, assign, body, defers := D }) ∧
      Below w.heap.size w w1 ∧ w.heap.size ≤ l ∧ bs.Nodup ∧ ∀ b ∈ bs, w.heap.size ≤ b ∧ b < w1.heap.size ∧ w1.heap[b]? = some (.deferred (some [])) := by
  cases r with
  | none =>
    refine ⟨w.heap.size + 1, [w.heap.size], _, w.heap.size, run_enterLoop_outer fn tmps ps assign body, ?_, ((Below.refl _ _).alloc (Nat.le_refl _) _).alloc (by simp) _, by omega, by simp, ?_⟩
    · have := World.alloc_heap_new (w.alloc (.deferred (some []))) (.loop { state := .ready, pending := none, fn, tmps, params := ps, assign, body, defers := w.heap.size })
      simpa using this
    · intro b hb
      simp only [List.mem_singleton] at hb
      subst hb
      refine ⟨Nat.le_refl _, by simp; omega, ?_⟩
      rw [Below.heap_alloc _ _ _ (by simp)]
      exact World.alloc_heap_new w _
  | some l0 =>
    obtain ⟨rc, h1⟩ := hr l0 rfl
    refine ⟨w.heap.size, [], _, rc.defers, run_enterLoop_inner h1 fn tmps ps assign body, World.alloc_heap_new w _, (Below.refl _ _).alloc (Nat.le_refl _) _, Nat.le_refl _, List.nodup_nil, by simp⟩

/-- how a range over a function goes on -/
def rangeQ {β : Type} (tm : List AV) (Q : Exit → St β → Prop) (b : List Blk × β × Option Exit) : Prop :=
  match b.2.2 with
  | none => Q .normal ⟨tm, b.1, b.2.1⟩
  | some (.exit id) => Q (.exit id) ⟨tm, b.1, b.2.1⟩
  | some (.goto t) => Q (.goto t) ⟨tm, b.1, b.2.1⟩
  | some _ => Q .ret ⟨tm, b.1, b.2.1⟩

/-- **RANGE OVER A FUNCTION** -/
theorem W.range {g : Operand} {ps : Array Tmp} {assign body : Code} {k : Nat} {first caps : List AV} {Sp : SpT} (hg : evalA s.tm g = .fn (.func k) first caps) (hcl : closeds (first.map AV.view) = true) (hcl' : closeds (caps.map AV.view) = true)
    (hI : ICall P k ((first ++ [AV.yl] ++ caps).map AV.view) Sp) (h : Sp (YBody Ev s.tm ps assign body s.hp.length) (s.hp, s.b, none) (rangeQ s.tm Q)) : W Ev (.rangeFunc g ps assign body) s Q := by
  intro lo r S X V w m B hv a ht
  refine wpIn_rangeFunc fun fn _ => ?_
  obtain ⟨l, bs, w1, D, e1, e2, e3, e4, e5, e6⟩ := enter_loop (P := P) fn a.tmps ps assign body ht.round
  -- the function value
  have hfv := evalA_sound ht.rel g
  rw [hg] at hfv
  generalize hfe : a.eval g = fv at hfv
  cases hfv with
  | fn hne hl1 hl2 h1 h2 =>
    rename_i fs cs
    have hgs := Gs.below ht.rel.2.1 e3 (S' := S) ⟨fun _ _ h => h, fun _ _ h => .inl h⟩
    have hlt1 : ∀ b i, S b i → b < w1.heap.size := fun b i hs => Nat.lt_of_lt_of_le (ht.rel.slt b i hs) e3.size
    have htr := hgs.tr hlt1
    have hrel1 : Rel S X Ev.yl w1 m (s.tm.zip a.tmps.toList ++ (B ++ cellPairs s.hp hv)) s.hp hv := ht.rel.2.1.below e3 (fun _ _ h => h) (fun _ _ h => .inl h)
    have hl1w : l < w1.heap.size := (Array.getElem?_eq_some_iff.1 e2).1
    obtain ⟨bs0, m1, m2, m3⟩ := ht.marks
    have hbs0 : ∀ b ∈ bs0, b < w.heap.size := fun b hb => (Array.getElem?_eq_some_iff.1 (m3 b hb).2).1
    have hr0 : ∀ l0, r = some l0 → l0 < w.heap.size := fun l0 hl0 => by
      obtain ⟨rc, h3⟩ := ht.round l0 hl0
      exact (Array.getElem?_eq_some_iff.1 h3).1
    have hm0 : m.length ≤ s.hp.length := by rw [ht.rel.2.1.ml]; exact Nat.le_refl _
    have hbsN : ∀ b ∈ bs ++ bs0, b < w1.heap.size := fun b hb => (List.mem_append.1 hb).elim (fun h => (e6 b h).2.1) (fun h => Nat.lt_of_lt_of_le (hbs0 b h) e3.size)
    let Er := rangeEnv Ev r S X V w m s.tm a B s.hp.length (bs ++ bs0) l { state := .ready, pending := none, fn, tmps := a.tmps, params := ps, assign, body, defers := D } w1.heap.size ht.rel.1 rfl
      (Nat.le_trans ht.base.1 ht.base.2) e4 hm0 hl1w hbsN (fun l0 hl0 => Nat.lt_of_lt_of_le (hr0 l0 hl0) e3.size)
    have hargs : ((first ++ [AV.yl] ++ caps).map AV.view).length = (fs.toList ++ [Value.func (.yield l) #[] #[]] ++ cs.toList).length := by simp [hl1, hl2]
    have hpairs : ∀ p ∈ ((first ++ [AV.yl] ++ caps).map AV.view).zip (fs.toList ++ [Value.func (.yield l) #[] #[]] ++ cs.toList), RV S w1 [] (some l) p.1 p.2 ∧ ownB p = none := by
      intro p hp
      have hp1 := (List.of_mem_zip hp).1
      refine ⟨?_, ?_⟩
      · obtain ⟨j, hj⟩ := List.mem_iff_getElem?.1 hp
        rw [List.getElem?_zip_eq_some] at hj
        obtain ⟨j1, j2⟩ := hj
        simp only [List.map_append, List.map_cons, List.map_nil] at j1
        by_cases c1 : j < first.length
        · rw [List.append_assoc, List.getElem?_append_left (by simpa using c1)] at j1
          rw [List.append_assoc, List.getElem?_append_left (by simpa [← hl1] using c1)] at j2
          have hc := closeds_get hcl j _ j1
          simp only [List.getElem?_map, Option.map_eq_some_iff] at j1
          obtain ⟨y, j1, j3⟩ := j1
          have hy := ((h1 j y p.2 j1 (by simpa using j2)).view)
          rw [j3] at hy
          exact ((hy.tr htr).closed hc).opened
        · by_cases c2 : j = first.length
          · subst c2
            rw [List.getElem?_append_left (by simp), List.getElem?_append_right (by simp)] at j1
            rw [List.getElem?_append_left (by simp [← hl1]), List.getElem?_append_right (by simp [← hl1])] at j2
            simp [hl1] at j1 j2
            rw [← j1, ← j2]
            exact .yl rfl
          · rw [List.getElem?_append_right (by simp; omega)] at j1
            rw [List.getElem?_append_right (by simp [← hl1]; omega)] at j2
            simp only [List.length_append, List.length_map, List.length_cons, List.length_nil, Array.length_toList, ← hl1] at j1 j2
            have hc := closeds_get hcl' _ _ j1
            simp only [List.getElem?_map, Option.map_eq_some_iff] at j1
            obtain ⟨y, j1, j3⟩ := j1
            have hy := ((h2 _ y p.2 j1 (by simpa using j2)).view)
            rw [j3] at hy
            exact ((hy.tr htr).closed hc).opened
      · obtain ⟨p1, p2⟩ := p
        obtain ⟨y, _, rfl⟩ := List.mem_map.1 hp1
        exact ownB_view _ _
    have hrelI : Rel S (fun b _ => b < w1.heap.size) (some l) w1 [] (((first ++ [AV.yl] ++ caps).map AV.view).zip (fs.toList ++ [Value.func (.yield l) #[] #[]] ++ cs.toList) ++ ([] ++ cellPairs [] [])) [] [] := by
      have h0 : Rel S (fun b _ => b < w1.heap.size) (some l) w1 [] [] [] [] := ⟨fun b i h => h.elim (hlt1 b i) id, by simp, List.Pairwise.nil, by simp, by simp, by simp, rfl, rfl, by simp, hrel1.gl⟩
      simpa [cellPairs] using h0.pushAll _ hpairs
    have hE : Er.E (s.hp, s.b, none) S (fun b _ => b < w1.heap.size) w1 := by
      refine ⟨X, V, m, hv, rfl, by simpa using hrel1, ht.sub, Ev.stable ht.env (htr.mono (fun b i hx hv => hx (ht.sub b i hv)) (fun _ h => h)), MStep.refl m, ht.round.tr htr, fun b hb => ?_, fun c hc i => ?_, fun b i hv => ?_, fun b i h => h, fun b i hx => hrel1.lt b i (.inr hx), e2, hgs.went hlt1⟩
      · rcases List.mem_append.1 hb with h3 | h3
        · exact (e6 b h3).2.2
        · rw [e3.block b (hbs0 b h3)]; exact (m3 b h3).2
      · refine hrel1.ownedLt (b := c) ?_
        simpa using hc
      · exact hrel1.lt b i (.inr (ht.sub b i hv))
    have hcalls := hI.2 Er (s.hp, s.b, none) (rangeQ s.tm Q) h S _ (fun b _ => b < w1.heap.size) w1 [] [] _ hargs hrelI (fun _ _ h => h) hE (Nat.le_refl _)
    have hae : (fs.toList ++ [Value.func (.yield l) #[] #[]] ++ cs.toList).toArray = fs ++ #[Value.func (.yield l) #[] #[]] ++ cs := by apply Array.ext'; simp
    refine ⟨l, bs.map fun b => { target := .collected b, args := #[] }, w1, { target := .fn (.func k) cs, args := fs ++ #[Value.func (.yield l) #[] #[]] }, w1, k, fs ++ #[Value.func (.yield l) #[] #[]] ++ cs, w1, e1, ?_, fun _ _ => trivial, ?_, fun hd => (by cases hd), ?_⟩
    · have hm : Array.map a.eval #[Operand.const (Value.func (Fn.yield l) #[] #[])] = #[a.eval (Operand.const (Value.func (Fn.yield l) #[] #[]))] := by simp
      simp only [resolve, hfe, Deferred.ofValue, hm]; rfl
    · simp only [invoke]; exact hI.1 _ _
    · rw [hae] at hcalls
      refine (CallsIn.mono hcalls ?_ : CallsIn Fence.wide 0 P k _ w1 _)
      rintro e w3 ⟨v, ⟨hpE, bE, stE⟩, S', V', rfl, hQ, hE'⟩
      obtain ⟨Xc, Vc, mC, hvC, g0, g1, g2, g3, g4, g5, g6, g7, g8, g9, gXV, g10, g11⟩ := hE'
      simp only at g0 g1 g3 g10
      refine ⟨_, _, run_endLoop g10 (by cases stE <;> simp), ?_⟩
      have hlN : Ev.N ≤ l := Nat.le_trans (Nat.le_trans ht.base.1 ht.base.2) e4
      have hbeh : ∀ e, Q e ⟨s.tm, hpE, bE⟩ → Beh Ev lo r S X V w m B Q e { a with defers := (bs.map fun b => { target := .collected b, args := #[] }) ++ a.defers }
          (w3.putObj l (.loop { state := .exhausted, pending := stE.map codeOf, fn, tmps := a.tmps, params := ps, assign, body, defers := D })) := by
        intro e hQe
        refine ⟨⟨s.tm, hpE, bE⟩, S', Xc, Vc, mC, hvC, hQe, ⟨g11.putObj e4 g10, g4⟩, ⟨⟨ht.rel.1, ?_, by intro p hp; cases hp⟩, g2, Ev.stableO _ g3 hlN g10 rfl, fun l0 hl0 => ?_, ?_, ht.base.1, ?_⟩⟩
        · simpa using g1.putObj (o' := .loop { state := .exhausted, pending := stE.map codeOf, fn, tmps := a.tmps, params := ps, assign, body, defers := D }) g10 rfl
        · obtain ⟨rc, h3⟩ := g5 l0 hl0
          exact ⟨rc, putObj_other h3 (by have := hr0 l0 hl0; omega)⟩
        · refine ⟨bs ++ bs0, by simp [m1], ?_, fun b hb => ⟨?_, putObj_other (g6 b hb) ?_⟩⟩
          · rw [List.nodup_append]
            refine ⟨e5, m2, fun x hx y hy hxy => ?_⟩
            have := (e6 x hx).1; have := hbs0 y hy; omega
          · rcases List.mem_append.1 hb with h3 | h3
            · exact Nat.le_trans ht.base.2 (e6 b h3).1
            · exact (m3 b h3).1
          · rintro rfl
            have := g6 _ hb
            rw [g10] at this; cases this
        · simpa using Nat.le_trans ht.base.2 g11.tr.size
      cases stE with
      | none => exact hbeh .normal hQ
      | some e =>
        cases e with
        | exit id => exact wpIn_exit (hbeh (.exit id) hQ)
        | goto t => exact wpIn_goto (hbeh (.goto t) hQ)
        | ret => exact wpIn_ret (hbeh .ret hQ)
        | normal => exact wpIn_ret (hbeh .ret hQ)
        | panic ch => exact wpIn_ret (hbeh .ret hQ)
        | outgrown => exact wpIn_ret (hbeh .ret hQ)

/-- **AN ITERATOR'S CONTRACT OUT OF ITS WALK** -/
theorem ICall.ofW {f : Nat} {fn : Func} {args : List AV} {Sp : SpT} (hf : P.funcs[f]? = some fn) (hb : fn.body = some c) (hn : (fn.name == "runtime.NumGoroutine") = false)
    (hW : ∀ (Ev : Env P) (b : Ev.β) (Q : Ev.β → Prop), Sp Ev.Y b Q → W Ev c ⟨startTm fn args, [], b⟩ (FnPost P fn fun _ _ b' => Q b')) : ICall P f args Sp := by
  refine ⟨enter_ok hf hb hn, fun Ev b Q hSp S X V w m hv vs hl hrel hV hE hN => ?_⟩
  refine calls_of_W (Ev := Ev) (V := V) (B := []) hf hb hl (hW Ev b Q hSp) hrel hV hE hN ?_
  intro y S' X' V' w' m' hv' hp' v b' hq _ _ _ _ hE' _
  exact ⟨v, b', S', V', rfl, hq, hE'⟩

end
end Go.Proofs.YtkjmhfbjdeidjaaDoor.Am

/- Runs: code that is walked by computation. -/
namespace Go.Proofs.YtkjmhfbjdeidjaaDoor.Am
set_option linter.unusedVariables false
open Go Go.RowKit

/-- how many of a drawn region's operations are taken as pure -/
def findK (ops : Array Oper) : Nat → Option Nat
  | 0 => if drawOk ops 0 then some 0 else none
  | k + 1 => if drawOk ops (k + 1) then some (k + 1) else findK ops k

def leadPure : List Oper → Nat
  | [] => 0
  | o :: l => if pureKind o then leadPure l + 1 else 0

def runRegion (P : Program) (call : CallT) (ops : Array Oper) (draw : Bool) (tm : List AV) (hp : List Blk) : Option (List AV × List Blk) :=
  if draw then match findK ops (leadPure ops.toList) with
    | some k => if k ≤ ops.size then match xPre P call ops hp (ops.toList.take k) tm with
      | some tmK => (xOps P call ops (ops.toList.drop k) ⟨tmK, hp, pvAll P hp tmK (ops.toList.take k)⟩).map fun s => (s.tm, s.hp)
      | none => none
      else none
    | none => none
  else (xOps P call ops ops.toList ⟨tm, hp, []⟩).map fun s => (s.tm, s.hp)

def run (P : Program) (call : CallT) : Nat → Code → List AV → List Blk → Option (Exit × List AV × List Blk)
  | 0, _, _, _ => none
  | n + 1, .skip, tm, hp => some (.normal, tm, hp)
  | n + 1, .label _, tm, hp => some (.normal, tm, hp)
  | n + 1, .exit id, tm, hp => some (.exit id, tm, hp)
  | n + 1, .goto l, tm, hp => some (.goto l, tm, hp)
  | n + 1, .ret, tm, hp => some (.ret, tm, hp)
  | n + 1, .region _ ops d, tm, hp => match runRegion P call ops d tm hp with
    | some (tm', hp') => some (.normal, tm', hp')
    | none => none
  | n + 1, .seq x y, tm, hp => match run P call n x tm hp with
    | some (.normal, tm', hp') => run P call n y tm' hp'
    | r => r
  | n + 1, .cond x c c', tm, hp => match evalA tm x with
    | .d (.s (.bool true)) => run P call n c tm hp
    | .d (.s (.bool false)) => run P call n c' tm hp
    | _ => none
  | n + 1, .block id c, tm, hp => match run P call n c tm hp with
    | some (.exit id', tm', hp') => if id' = id then some (.normal, tm', hp') else some (.exit id', tm', hp')
    | r => r
  | n + 1, .loop c, tm, hp => match run P call n c tm hp with
    | some (.normal, tm', hp') => run P call n (.loop c) tm' hp'
    | r => r
  | _, _, _, _ => none

/-- a function, run -/
def runFn (P : Program) (call : CallT) (n : Nat) (fn : Func) (args : List AV) : Option AV :=
  match fn.body with
  | some c => match run P call n c (startTm fn args) [] with
    | some (.ret, tm, hp) | some (.normal, tm, hp) => match resAs P hp tm fn.results.toList with
      | some ys => sealV hp (resV ys)
      | none => none
    | _ => none
  | none => none

section
variable {P : Program} {S S' S'' X X' V V' Z : Pr} {L : Nat → Prop} {r : Option Nat} {lo : Nat} {yv : Option Nat} {w w' w'' : World} {m m' m'' : List MB} {A B : List (AV × Value)} {hp hp' : List Blk} {tm tm' : List AV} {hv hv' : List (List Value)} {call : CallT} {a a' : Act} {o : Oper} {ops : Array Oper} {Ev : Env P}
  {s : St Ev.β} {b : Ev.β} {Q Q' : Exit → St Ev.β → Prop} {c c' : Code}

theorem findK_spec : ∀ {n k : Nat}, findK ops n = some k → drawOk ops k = true
  | 0, k, h => by
    simp only [findK] at h
    split at h <;> try (cases h; done)
    rename_i h1; cases h; exact h1
  | n + 1, k, h => by
    simp only [findK] at h
    split at h
    · rename_i h1; cases h; exact h1
    · exact findK_spec h

theorem xh_noCall {t : RS} (hno : opCall t.tm o = none) : xh P call t o = xh P noCall t o := by
  unfold xh
  split <;> first | rfl | skip
  rename_i c ho
  cases hc : c.callee with
  | value f => simp [opCall, ho, hc] at hno; simp [hno]
  | builtin bb => cases bb <;> rfl
  | invoke => rfl

/-- a table of calls serves the logic -/
theorem wOps_of_xOps (hcall : CallOk P call) {R : RS → Ev.β → Prop} {s' : RS} : ∀ {l : List Oper} {t : RS}, xOps P call ops l t = some s' → R s' b → wOps Ev ops l t b R
  | [], t, hx, hR => by simp only [xOps, Option.some.injEq] at hx; subst hx; exact hR
  | o :: l, t, hx, hR => by
    simp only [xOps] at hx
    split at hx <;> try (cases hx; done)
    rename_i t1 h1
    have ih := wOps_of_xOps (t := t1) hcall hx hR
    simp only [wOps]
    refine ⟨t, .rfl, ?_⟩
    cases hoc : opCall t.tm o with
    | none =>
      refine .inl ⟨t1, ?_, ih⟩
      rw [← h1]
      unfold xStep
      rw [xh_noCall (call := call) hoc]
    | some ka =>
      obtain ⟨k, args⟩ := ka
      have hxa := opCall_xa (P := P) hoc
      cases hw : wantedA ops o t.tm with
      | none => simp [xStep, hw] at h1
      | some bw =>
        cases bw with
        | false =>
          refine .inl ⟨t1, ?_, ih⟩
          rw [← h1]
          simp [xStep, hw]
        | true =>
          refine .inr (.inl ⟨rfl, k, args, rfl, ?_⟩)
          have hoc' := hoc
          unfold opCall at hoc'
          split at hoc' <;> try (cases hoc'; done)
          rename_i c ho
          split at hoc' <;> try (cases hoc'; done)
          rename_i f hc
          have hxq : xq P t.hp (evalA t.tm) o = none := by simp [xq, ho, hc]
          simp only [xStep, hw, hxa, hxq] at h1
          have hxh : xh P call t o = some t1 := by
            cases hh : xh P call t o with
            | none => simp [hh] at h1
            | some t2 => simp [hh] at h1; rw [h1]
          unfold xh at hxh
          simp only [ho, hc, hoc'] at hxh
          split at hxh
          · rename_i x hx'
            cases hxh
            split at hx' <;> try (cases hx'; done)
            rename_i hcl
            exact .inl ⟨hcl, x, hcall.p _ _ _ _ hx', ih⟩
          · split at hxh <;> try (cases hxh; done)
            rename_i x hp' hs
            cases hxh
            exact .inr ⟨x, hp', hcall.s _ _ _ _ _ hs, ih⟩

theorem runRegion_sound {id : Nat} {d : Bool} (hm : P.follows .mixedOrders = true) (hcall : CallOk P call) (h : runRegion P call ops d tm hp = some (tm', hp')) (hq : Q .normal ⟨tm', hp', b⟩) : W Ev (.region id ops d) ⟨tm, hp, b⟩ Q := by
  unfold runRegion at h
  cases d with
  | true =>
    simp only [if_true] at h
    split at h <;> try (cases h; done)
    rename_i k hk
    split at h <;> try (cases h; done)
    rename_i hks
    split at h <;> try (cases h; done)
    rename_i tmK hpre
    simp only [Option.map_eq_some_iff, Prod.mk.injEq] at h
    obtain ⟨s', hx, rfl, rfl⟩ := h
    exact W.draw (s := ⟨tm, hp, b⟩) k call hm hcall (findK_spec hk) hks hpre (wOps_of_xOps hcall hx hq)
  | false =>
    simp only [Bool.false_eq_true, if_false, Option.map_eq_some_iff, Prod.mk.injEq] at h
    obtain ⟨s', hx, rfl, rfl⟩ := h
    exact W.region (s := ⟨tm, hp, b⟩) (wOps_of_xOps hcall hx hq)

theorem run_both (hm : P.follows .mixedOrders = true) (hcall : CallOk P call) : ∀ n : Nat,
    (∀ (c : Code) (tm : List AV) (hp : List Blk) (e : Exit) (tm' : List AV) (hp' : List Blk) (Q : Exit → St Ev.β → Prop), run P call n c tm hp = some (e, tm', hp') → Q e ⟨tm', hp', b⟩ → W Ev c ⟨tm, hp, b⟩ Q) ∧
    (∀ (c : Code) (tm : List AV) (hp : List Blk) (e : Exit) (tm' : List AV) (hp' : List Blk) (Q : Exit → St Ev.β → Prop), run P call n (.loop c) tm hp = some (e, tm', hp') → Q e ⟨tm', hp', b⟩ →
      ∀ (lo : Nat) (r : Option Nat) (S X V : Pr) (w : World) (m : List MB) (B : List (AV × Value)) (S0 X0 V0 : Pr) (w0 : World) (m0 : List MB) (hv : List (List Value)) (a : Act), (Went Ev.L S X V w S0 X0 V0 w0 ∧ MStep m m0) → Tie Ev lo r S0 X0 V0 w0 m0 B hv ⟨tm, hp, []⟩ b a →
        Code.roundsIn (Fn r) 0 P c (Beh Ev lo r S X V w m B Q) n a w0) := by
  intro n
  induction n with
  | zero => exact ⟨fun c tm hp e tm' hp' Q h => by simp [run] at h, fun c tm hp e tm' hp' Q h => by simp [run] at h⟩
  | succ n ih =>
    obtain ⟨ih1, ih2⟩ := ih
    have hloop : ∀ (c : Code) (tm : List AV) (hp : List Blk) (e : Exit) (tm' : List AV) (hp' : List Blk) (Q : Exit → St Ev.β → Prop), run P call (n + 1) (.loop c) tm hp = some (e, tm', hp') → Q e ⟨tm', hp', b⟩ →
      ∀ (lo : Nat) (r : Option Nat) (S X V : Pr) (w : World) (m : List MB) (B : List (AV × Value)) (S0 X0 V0 : Pr) (w0 : World) (m0 : List MB) (hv : List (List Value)) (a : Act), (Went Ev.L S X V w S0 X0 V0 w0 ∧ MStep m m0) → Tie Ev lo r S0 X0 V0 w0 m0 B hv ⟨tm, hp, []⟩ b a →
        Code.roundsIn (Fn r) 0 P c (Beh Ev lo r S X V w m B Q) (n + 1) a w0 := by
      intro c tm hp e tm' hp' Q h hq lo r S X V w m B S0 X0 V0 w0 m0 hv a hgo ht
      rw [roundsIn_succ]
      simp only [run] at h
      split at h
      · rename_i tm1 hp1 h1
        refine wpIn_mono (ih1 c tm hp .normal tm1 hp1 (fun e s => e = .normal ∧ s = ⟨tm1, hp1, b⟩) h1 ⟨rfl, rfl⟩ lo r S0 X0 V0 w0 m0 B hv a ht) ?_
        rintro e1 a1 w1 ⟨s1, S1, X1, V1, m1, hv1, ⟨rfl, rfl⟩, h2, h3⟩
        exact ih2 c tm1 hp1 e tm' hp' Q h hq lo r S X V w m B S1 X1 V1 w1 m1 hv1 a1 ⟨hgo.1.trans h2.1, hgo.2.trans h2.2⟩ h3
      · rename_i rr hne
        refine wpIn_mono (ih1 c tm hp e tm' hp' (fun e1 s => e1 = e ∧ s = ⟨tm', hp', b⟩) h ⟨rfl, rfl⟩ lo r S0 X0 V0 w0 m0 B hv a ht) ?_
        rintro e1 a1 w1 ⟨s1, S1, X1, V1, m1, hv1, ⟨rfl, rfl⟩, h2, h3⟩
        have hb : Beh Ev lo r S X V w m B Q e1 a1 w1 := Beh.from hgo ⟨_, S1, X1, V1, m1, hv1, hq, h2, h3⟩
        cases e1 with
        | normal => exact absurd h (hne tm' hp')
        | exit id => exact hb
        | goto l => exact hb
        | ret => exact hb
        | panic ch => exact hb
        | outgrown => exact hb
    refine ⟨fun c tm hp e tm' hp' Q h hq => ?_, hloop⟩
    cases c with
    | skip => simp only [run, Option.some.injEq, Prod.mk.injEq] at h; obtain ⟨rfl, rfl, rfl⟩ := h; exact W.skip hq
    | label l => simp only [run, Option.some.injEq, Prod.mk.injEq] at h; obtain ⟨rfl, rfl, rfl⟩ := h; exact W.label hq
    | exit id => simp only [run, Option.some.injEq, Prod.mk.injEq] at h; obtain ⟨rfl, rfl, rfl⟩ := h; exact W.exit hq
    | goto l => simp only [run, Option.some.injEq, Prod.mk.injEq] at h; obtain ⟨rfl, rfl, rfl⟩ := h; exact W.goto hq
    | ret => simp only [run, Option.some.injEq, Prod.mk.injEq] at h; obtain ⟨rfl, rfl, rfl⟩ := h; exact W.ret hq
    | region id ops d =>
      simp only [run] at h
      split at h <;> try (cases h; done)
      rename_i tm1 hp1 h1
      simp only [Option.some.injEq, Prod.mk.injEq] at h
      obtain ⟨rfl, rfl, rfl⟩ := h
      exact runRegion_sound hm hcall h1 hq
    | seq x y =>
      simp only [run] at h
      refine W.seq ?_
      split at h
      · rename_i tm1 hp1 h1
        exact ih1 x tm hp .normal tm1 hp1 _ h1 (ih1 y tm1 hp1 e tm' hp' Q h hq)
      · rename_i rr hne
        refine ih1 x tm hp e tm' hp' _ h ?_
        cases e with
        | normal => exact absurd h (hne tm' hp')
        | exit id => exact hq
        | goto l => exact hq
        | ret => exact hq
        | panic ch => exact hq
        | outgrown => exact hq
    | cond x c c' =>
      simp only [run] at h
      split at h <;> try (cases h; done)
      · rename_i hx; exact W.cond (t := true) hx (ih1 c tm hp e tm' hp' Q h hq)
      · rename_i hx; exact W.cond (t := false) hx (ih1 c' tm hp e tm' hp' Q h hq)
    | block id c =>
      simp only [run] at h
      refine W.block ?_
      split at h
      · rename_i id' tm1 hp1 h1
        refine ih1 c tm hp (.exit id') tm1 hp1 _ h1 ?_
        simp only [catchExit]
        split at h
        · rename_i he
          simp only [Option.some.injEq, Prod.mk.injEq] at h
          obtain ⟨rfl, rfl, rfl⟩ := h
          rw [if_pos he]; exact hq
        · rename_i he
          simp only [Option.some.injEq, Prod.mk.injEq] at h
          obtain ⟨rfl, rfl, rfl⟩ := h
          rw [if_neg he]; exact hq
      · rename_i rr hne
        refine ih1 c tm hp e tm' hp' _ h ?_
        cases e with
        | exit id' => exact absurd h (hne id' tm' hp')
        | normal => exact hq
        | goto l => exact hq
        | ret => exact hq
        | panic ch => exact hq
        | outgrown => exact hq
    | loop c =>
      intro lo r S X V w m B hv a ht
      exact wpIn_loop_rounds (n + 1) (hloop c tm hp e tm' hp' Q h hq lo r S X V w m B S X V w m hv a ⟨Went.refl ht.rel.slt, MStep.refl m⟩ ht)
    | rangeFunc f ps assign body => simp [run] at h
    | scope body => simp [run] at h
    | refuse why => simp [run] at h

/-- **code, run** -/
theorem W.ofRun {n : Nat} {e : Exit} (hm : P.follows .mixedOrders = true) (hcall : CallOk P call) (h : run P call n c tm hp = some (e, tm', hp')) (hq : Q e ⟨tm', hp', b⟩) : W Ev c ⟨tm, hp, b⟩ Q := (run_both hm hcall n).1 c tm hp e tm' hp' Q h hq

/-- **a function, run** -/
theorem PCall.ofRun {n f : Nat} {fn : Func} {args : List AV} {x : AV} (hm : P.follows .mixedOrders = true) (hcall : CallOk P call) (hf : P.funcs[f]? = some fn) (hn : (fn.name == "runtime.NumGoroutine") = false) (hargs : args.map AV.view = args)
    (h : runFn P call n fn args = some x) : PCall P f args x := by
  unfold runFn at h
  split at h <;> try (cases h; done)
  rename_i c hb
  refine PCall.ofW hf hb hn hargs fun Ev b => ?_
  split at h <;> try (cases h; done)
  · rename_i tm hp hr
    split at h <;> try (cases h; done)
    rename_i ys hys
    exact W.ofRun hm hcall hr ⟨.inl rfl, ys, hys, h⟩
  · rename_i tm hp hr
    split at h <;> try (cases h; done)
    rename_i ys hys
    exact W.ofRun hm hcall hr ⟨.inr rfl, ys, hys, h⟩

end
end Go.Proofs.YtkjmhfbjdeidjaaDoor.Am

/- Contracts of other make: of calls on plain values. -/
namespace Go.Proofs.YtkjmhfbjdeidjaaDoor.Am
set_option linter.unusedVariables false
open Go Go.RowKit

theorem PCall.ofCalls {P : Program} {f : Nat} (vals : List Value) {v : Value} (hent : ∀ (as : Array Value) (w : World), (callFunc f as).run P w = .ok (.enter f as) w)
    (h : ∀ w, Calls P f vals.toArray w fun e w' => e = .returned v ∧ w' = w) : PCall P f (vals.map fun v => .d (.s v)) (ofVal v) := by
  refine ⟨hent, fun S w vs hl hvs hlt _ => ?_⟩
  have he : vs = vals := by
    apply List.ext_getElem?
    intro i
    by_cases hi : i < vals.length
    · have h1 := hvs i (.d (.s vals[i])) (vs[i]'(by simpa [← hl] using hi)) (by simp [hi]) (by simp)
      cases h1 with
      | d h1 =>
        generalize hv : vs[i]'(by simpa [← hl] using hi) = u at h1
        cases h1
        rw [List.getElem?_eq_some_iff.2 ⟨by simpa [← hl] using hi, hv⟩]
        simp [hi]
    · rw [List.getElem?_eq_none (by simpa [← hl] using hi), List.getElem?_eq_none (by omega)]
  subst he
  refine CallsIn.mono (callsIn_wide.2 (h w)) ?_
  rintro e w' ⟨rfl, rfl⟩
  exact ⟨v, S, rfl, Below.refl _ _, fun _ _ h => h, fun _ _ h => .inl h, (RV.ofVal v).view⟩

end Go.Proofs.YtkjmhfbjdeidjaaDoor.Am

/- Blocks that are forgotten. -/
namespace Go.Proofs.YtkjmhfbjdeidjaaDoor.Am
set_option linter.unusedVariables false
open Go Go.RowKit

/-- the temporaries, without those that lean on forgotten blocks -/
def lowTm (n : Nat) (tm : List AV) : List AV := tm.map fun x => if x.low n then x else .bad

section
variable {P : Program} {S S' S'' X X' V V' Z : Pr} {L : Nat → Prop} {r : Option Nat} {lo : Nat} {yv : Option Nat} {w w' w'' : World} {m m' m'' : List MB} {A B : List (AV × Value)} {hp hp' : List Blk} {tm tm' : List AV} {hv hv' : List (List Value)} {a a' : Act} {Ev : Env P}
  {s : St Ev.β} {b : Ev.β} {Q Q' : Exit → St Ev.β → Prop} {c c' : Code}

theorem ownB_low {n : Nat} {x : AV} {v : Value} {b : Nat} (h : ownB (if x.low n then x else .bad, v) = some b) : ownB (x, v) = some b := by
  split at h
  · exact h
  · cases h

/-- readings that say less -/
theorem Rel.lowered (n : Nat) : ∀ {tm : List AV} {vs : List Value} {C : List (AV × Value)}, Rel S X yv w m (tm.zip vs ++ C) hp hv → Rel S X yv w m ((lowTm n tm).zip vs ++ C) hp hv
  | [], vs, C, h => h
  | x :: tm, [], C, h => by simpa [lowTm] using h
  | x :: tm, v :: vs, C, h => by
    have h1 : Rel S X yv w m (tm.zip vs ++ ((x, v) :: C)) hp hv := h.perm (by simpa using (List.perm_middle (a := (x, v)) (l₁ := tm.zip vs) (l₂ := C)).symm)
    have h2 := Rel.lowered n h1
    have h3 : Rel S X yv w m ((x, v) :: ((lowTm n tm).zip vs ++ C)) hp hv := h2.perm List.perm_middle
    simp only [lowTm, List.map_cons, List.zip_cons_cons, List.cons_append]
    split
    · exact h3
    · exact (h3.sub (List.sublist_cons_self _ _)).cons .bad rfl

/-- blocks that were laid within a piece of code are forgotten at its end -/
theorem W.scratch (h : W Ev c s fun e s' => lowHp s.hp.length s'.hp = true ∧ Q e ⟨lowTm s.hp.length s'.tm, s'.hp.take s.hp.length, s'.b⟩) : W Ev c s Q := by
  intro lo r S X V w m B hv a ht
  refine wpIn_mono (h lo r S X V w m B hv a ht) ?_
  rintro e a' w' ⟨s', S', X', V', m', hv', ⟨hlow, hq⟩, ⟨hw, hm⟩, ht'⟩
  refine ⟨_, S', X', V', m'.take s.hp.length, hv'.take s.hp.length, hq, ⟨hw, hm.take (by rw [ht.rel.2.1.ml]; exact Nat.le_refl _)⟩, ⟨⟨by simpa [lowTm] using ht'.rel.1, ?_, by intro p hp; cases hp⟩, ht'.sub, ht'.env, ht'.round, ht'.marks, ht'.base⟩⟩
  have hn : m.length ≤ s.hp.length := by rw [ht.rel.2.1.ml]; exact Nat.le_refl _
  have h1 := ht'.rel.2.1.lowered (n := s.hp.length)
  rw [← List.append_assoc] at h1 ⊢
  refine h1.trunc (fun p hp => ?_) hlow
  rcases List.mem_append.1 hp with hp | hp
  · have hp1 := (List.of_mem_zip hp).1
    have hrv := h1.rv p (List.mem_append_left _ (List.mem_append_left _ hp))
    refine hrv.low ?_
    obtain ⟨x, _, hx⟩ := List.mem_map.1 hp1
    rw [← hx]
    split
    · assumption
    · rfl
  · have hB := ht.rel.2.1.rv p (List.mem_append_right _ (List.mem_append_left _ hp))
    exact (hB.tr hw.tr).blocks (hm.take hn)

end
end Go.Proofs.YtkjmhfbjdeidjaaDoor.Am

/- Equality of structs and arrays of plain values, as one Bool. -/
namespace Go.Proofs.YtkjmhfbjdeidjaaDoor.Am
set_option linter.unusedVariables false
open Go Go.RowKit

theorem runPure_bind {P : Program} {α γ : Type} {a : α} : ∀ {s : Sem α} (h : runPure P s = some a) (f : α → Sem γ), runPure P (s >>= f) = runPure P (f a)
  | .pure b, h, f => by simp only [runPure, Option.some.injEq] at h; subst h; rfl
  | .program k, h, f => runPure_bind (s := k P) h f
  | .mark _ k, h, f => runPure_bind (s := k) h f
  | .load .., h, _ => by simp [runPure] at h
  | .store .., h, _ => by simp [runPure] at h
  | .new .., h, _ => by simp [runPure] at h
  | .shape .., h, _ => by simp [runPure] at h
  | .freeze .., h, _ => by simp [runPure] at h
  | .frozen .., h, _ => by simp [runPure] at h
  | .getObj .., h, _ => by simp [runPure] at h
  | .setObj .., h, _ => by simp [runPure] at h
  | .choose .., h, _ => by simp [runPure] at h
  | .sys .., h, _ => by simp [runPure] at h
  | .halt .., h, _ => by simp [runPure] at h


/-- fields -/
def eqFs (P : Program) (eq : TypeId → Value → Value → Option Bool) (xs ys : Array Value) : List Field → Option Bool
  | [] => some true
  | f :: l => if f.name ≠ "_" then match runPure P (part f.type xs f.offset), runPure P (part f.type ys f.offset) with
      | some a, some b => match eq f.type a b, eqFs P eq xs ys l with
        | some r, some r' => some (r && r')
        | _, _ => none
      | _, _ => none
    else eqFs P eq xs ys l

/-- elements -/
def eqAs (P : Program) (eq : TypeId → Value → Value → Option Bool) (e : TypeId) (n : Nat) (xs ys : Array Value) : List Nat → Option Bool
  | [] => some true
  | i :: l => match runPure P (part e xs (i * n)), runPure P (part e ys (i * n)) with
      | some a, some b => match eq e a b, eqAs P eq e n xs ys l with
        | some r, some r' => some (r && r')
        | _, _ => none
      | _, _ => none

/-- equality of plain values, structs and arrays of such -/
def eqT (P : Program) : Nat → TypeId → Value → Value → Option Bool
  | 0, _, _, _ => none
  | d + 1, t, x, y => match P.underlying t, x, y with
    | some .bool, .bool a, .bool b => some (a == b)
    | some (.int _), .int k a, .int k' b => if k = k' then some (a == b) else none
    | some .string, .string a, .string b => some (a == b)
    | some (.struct fs), .agg xs, .agg ys => if P.stoodInHeld t then none else eqFs P (eqT P d) xs ys fs.toList
    | some (.array n e), .agg xs, .agg ys => match P.info? e with
      | some i => eqAs P (eqT P d) e i.size xs ys (List.range' 0 n)
      | none => none
    | _, _, _ => none

section
variable {P : Program} {E : TypeId → Value → Value → Sem Bool} {eq : TypeId → Value → Value → Option Bool} {xs ys : Array Value}

theorem eqFs_sound {k : Option Bool × Unit → Sem Bool} (k1 : ∀ r, k (some r, ()) = pure r) (k0 : k (none, ()) = pure true) (he : ∀ t a b r, eq t a b = some r → runPure P (E t a b) = some r) : ∀ {l : List Field} {r : Bool}, eqFs P eq xs ys l = some r →
    runPure P ((forIn l ((none, ()) : Option Bool × Unit) fun f _ => if f.name ≠ "_" then do
          let a ← part f.type xs f.offset
          let b ← part f.type ys f.offset
          let c ← E f.type a b
          if (!c) = true then pure (ForInStep.done (some false, ())) else pure (ForInStep.yield (none, ()))
        else pure (ForInStep.yield (none, ()))) >>= k) = some r
  | [], r, h => by
    simp only [eqFs, Option.some.injEq] at h
    subst h
    simp only [List.forIn_nil, pure_bind, k0]
    rfl
  | f :: l, r, h => by
    simp only [eqFs] at h
    simp only [List.forIn_cons]
    split at h
    · rename_i hf
      rw [if_pos hf]
      split at h <;> try (cases h; done)
      rename_i a b ha hb
      split at h <;> try (cases h; done)
      rename_i r1 r2 h1 h2
      cases h
      have h3 := he _ _ _ _ h1
      cases r1 with
      | true =>
        have ih := eqFs_sound k1 k0 he h2
        simp only [bind_assoc]
        refine (runPure_bind ha _).trans ((runPure_bind hb _).trans ((runPure_bind h3 _).trans ?_))
        simpa using ih
      | false =>
        simp only [bind_assoc]
        refine (runPure_bind ha _).trans ((runPure_bind hb _).trans ((runPure_bind h3 _).trans ?_))
        simp [k1]
        rfl
    · rename_i hf
      rw [if_neg hf]
      simpa using eqFs_sound k1 k0 he h

theorem eqAs_sound {e : TypeId} {n : Nat} {k : Option Bool × Unit → Sem Bool} (k1 : ∀ r, k (some r, ()) = pure r) (k0 : k (none, ()) = pure true) (he : ∀ t a b r, eq t a b = some r → runPure P (E t a b) = some r) : ∀ {l : List Nat} {r : Bool}, eqAs P eq e n xs ys l = some r →
    runPure P ((forIn l ((none, ()) : Option Bool × Unit) fun i _ => do
          let a ← part e xs (i * n)
          let b ← part e ys (i * n)
          let c ← E e a b
          if (!c) = true then pure (ForInStep.done (some false, ())) else pure (ForInStep.yield (none, ()))) >>= k) = some r
  | [], r, h => by
    simp only [eqAs, Option.some.injEq] at h
    subst h
    simp only [List.forIn_nil, pure_bind, k0]
    rfl
  | i :: l, r, h => by
    simp only [eqAs] at h
    simp only [List.forIn_cons]
    split at h <;> try (cases h; done)
    rename_i a b ha hb
    split at h <;> try (cases h; done)
    rename_i r1 r2 h1 h2
    cases h
    have h3 := he _ _ _ _ h1
    cases r1 with
    | true =>
      have ih := eqAs_sound k1 k0 he h2
      simp only [bind_assoc]
      refine (runPure_bind ha _).trans ((runPure_bind hb _).trans ((runPure_bind h3 _).trans ?_))
      simpa using ih
    | false =>
      simp only [bind_assoc]
      refine (runPure_bind ha _).trans ((runPure_bind hb _).trans ((runPure_bind h3 _).trans ?_))
      simp [k1]
      rfl

theorem run_und {t : TypeId} {d : TypeDesc} (hu : P.underlying t = some d) : runPure P (underlying t) = some d := by
  unfold underlying
  refine (runPure_bind (a := P) rfl _).trans ?_
  simp only [hu]; rfl

theorem eqT_sound : ∀ {d : Nat} {t : TypeId} {x y : Value} {r : Bool}, eqT P d t x y = some r → runPure P (Op.equalIn d t x y) = some r
  | 0, _, _, _, _, h => by cases h
  | d + 1, t, x, y, r, h => by
    unfold eqT at h
    split at h <;> try (cases h; done)
    · rename_i hu; cases h
      rw [Op.equalIn]
      exact (runPure_bind (run_und hu) _).trans rfl
    · rename_i hu
      split at h <;> try (cases h; done)
      rename_i hk; cases h; subst hk
      rw [Op.equalIn]
      refine (runPure_bind (run_und hu) _).trans ?_
      simp only [if_true]; rfl
    · rename_i hu; cases h
      rw [Op.equalIn]
      exact (runPure_bind (run_und hu) _).trans rfl
    · rename_i fs xs ys hu
      split at h <;> try (cases h; done)
      rename_i hs
      rw [Op.equalIn]
      refine (runPure_bind (run_und hu) _).trans ?_
      simp only
      refine (runPure_bind (a := P) rfl _).trans ?_
      rw [if_neg hs]
      rw [← Array.forIn_toList]
      exact eqFs_sound (fun _ => rfl) rfl (fun _ _ _ _ h => eqT_sound h) h
    · rename_i n e xs ys hu
      split at h <;> try (cases h; done)
      rename_i i hi
      rw [Op.equalIn]
      refine (runPure_bind (run_und hu) _).trans ?_
      simp only
      refine (runPure_bind (a := i.size) ?_ _).trans ?_
      · unfold sizeOf typeInfo
        refine (runPure_bind (a := i) ?_ _).trans rfl
        refine (runPure_bind (a := P) rfl _).trans ?_
        simp only [hi]; rfl
      · rw [Std.Legacy.Range.forIn_eq_forIn_range']
        refine eqAs_sound ?_ ?_ (fun _ _ _ _ h => eqT_sound h) (?_ : eqAs P (eqT P d) e i.size xs ys _ = some r)
        · exact fun _ => rfl
        · rfl
        · simpa [Std.Legacy.Range.size] using h

/-- the test that Go's own equality asks first -/
theorem guard_agg {op : BinOp} {t : TypeId} {x y : Operand} {a b : Array Value} (hg : P.eqGuardType P.depth t = false) : runPure P (eqGuard op t x y (.agg a) (.agg b)) = some () := by
  have key : runPure P (do
      let __do_lift ← program
      let __do_lift_1 ← program
      if (!__do_lift.eqGuardType __do_lift_1.depth t) = true then pure ()
      else do
        let __do_lift ← Op.eqGuardIn Op.maxDepth t (Value.agg a) (Value.agg b)
        if __do_lift = true then unsupported (.noEntry "binop/eql: two nil values of an interface type with methods, in a part of a struct or an array")
        else pure ()) = some () := by
    refine (runPure_bind (a := P) rfl _).trans ?_
    refine (runPure_bind (a := P) rfl _).trans ?_
    rw [hg]; rfl
  unfold eqGuard
  cases op <;> first | rfl | (simp; simpa using key)

end
end Go.Proofs.YtkjmhfbjdeidjaaDoor.Am

/- What must be shown of code, as a proposition that the kernel can spell out: operations. -/
namespace Go.Proofs.YtkjmhfbjdeidjaaDoor.Am
set_option linter.unusedVariables false
open Go Go.RowKit

/-- by the outcome of a test -/
def BIf (t : Bool) (A B : Prop) : Prop := @Bool.rec (fun _ => Prop) B A t

theorem BIf.of {t : Bool} {A B : Prop} (h1 : t = true → A) (h2 : t = false → B) : BIf t A B := by
  cases t
  · exact h2 rfl
  · exact h1 rfl

theorem BIf.elim {t : Bool} {A B : Prop} (h : BIf t A B) : (t = true ∧ A) ∨ (t = false ∧ B) := by
  cases t
  · exact .inr ⟨rfl, h⟩
  · exact .inl ⟨rfl, h⟩

theorem BIf.elim' {t : Bool} {A : Prop} (h : BIf t A False) : t = true ∧ A := by
  cases t
  · exact False.elim h
  · exact ⟨rfl, h⟩

theorem BIf.t {t : Bool} {A B : Prop} (h : t = true) (a : A) : BIf t A B := by subst h; exact a
theorem BIf.f {t : Bool} {A B : Prop} (h : t = false) (b : B) : BIf t A B := by subst h; exact b
theorem BIf_true (A B : Prop) : BIf true A B = A := rfl
theorem BIf_false (A B : Prop) : BIf false A B = B := rfl

mutual
/-- cells of a type, whatever they hold -/
def shapeC (P : Program) : Nat → TypeId → (List Dv → Prop) → Prop
  | 0, _, _ => False
  | n + 1, t, K => match P.underlying t with
    | some .bool => ∃ b : Bool, K [.s (.bool b)]
    | some (.int k) => ∃ x : Int, K [.s (.int k x)]
    | some .string => ∃ x : ByteArray, K [.s (.string x)]
    | some (.slice e) => match P.info? e with
      | some i => ∃ xs : List (List Dv), K [.sl i.size xs]
      | none => False
    | some (.struct fs) => shapesC P n (fs.toList.map (·.type)) K
    | some (.array len e) => shapesC P n (List.replicate len e) K
    | _ => ∃ d : Dv, K [d]
def shapesC (P : Program) : Nat → List TypeId → (List Dv → Prop) → Prop
  | 0, _, _ => False
  | n + 1, ts, K => match ts with
    | [] => K []
    | t :: ts => shapeC P n t fun x => shapesC P n ts fun y => K (x ++ y)
end

theorem shape_sound (P : Program) : ∀ (n : Nat), (∀ (t : TypeId) (K : List Dv → Prop), shapeC P n t K → ∃ row, K row) ∧ ∀ (ts : List TypeId) (K : List Dv → Prop), shapesC P n ts K → ∃ row, K row
  | 0 => ⟨fun _ _ h => h.elim, fun _ _ h => h.elim⟩
  | n + 1 => by
    obtain ⟨ih1, ih2⟩ := shape_sound P n
    refine ⟨fun t K h => ?_, fun ts K h => ?_⟩
    · unfold shapeC at h
      split at h
      · obtain ⟨b, h⟩ := h; exact ⟨_, h⟩
      · obtain ⟨b, h⟩ := h; exact ⟨_, h⟩
      · obtain ⟨b, h⟩ := h; exact ⟨_, h⟩
      · split at h
        · obtain ⟨b, h⟩ := h; exact ⟨_, h⟩
        · exact h.elim
      · exact ih2 _ _ h
      · exact ih2 _ _ h
      · obtain ⟨b, h⟩ := h; exact ⟨_, h⟩
    · unfold shapesC at h
      split at h
      · exact ⟨_, h⟩
      · obtain ⟨x, h⟩ := ih1 _ _ h
        obtain ⟨y, h⟩ := ih2 _ _ h
        exact ⟨_, h⟩

/-! ### quiet operations -/

/-- the number in a value -/
def numA (x : AV) (d : Int) : Int :=
  match x with
  | .d (.s (.int _ n)) => n
  | _ => d

def optNum (tm : List AV) (x : Option Operand) (d : Int) : Int :=
  match x with
  | some y => numA (evalA tm y) d
  | none => d

def optIsInt (tm : List AV) (x : Option Operand) : Bool :=
  match x with
  | some y => (evalA tm y).int?.isSome
  | none => true

def isFull : AV → Bool
  | .full .. => true
  | _ => false

def isRef : AV → Bool
  | .ref .. => true
  | .ptr .. => true
  | .gref .. => true
  | _ => false

/-- shifts and divisions: they can panic -/
def shyOp : BinOp → Bool
  | .shl => true
  | .shr => true
  | .quo => true
  | .rem => true
  | _ => false

def shyBad (op : BinOp) (k k' : IntKind) (y : Int) : Bool :=
  match op with
  | .shl => decide (y < 0)
  | .shr => decide (y < 0)
  | _ => decide (y = 0) || !decide (k = k')

def shyVal (op : BinOp) (k : IntKind) (x y : Int) : Value :=
  match op with
  | .shl => .int k (k.wrap (x * 2 ^ (min y.toNat k.bits)))
  | .shr => .int k (x.fdiv (2 ^ (min y.toNat k.bits)))
  | .quo => .int k (k.wrap (x.tdiv y))
  | _ => .int k (x.tmod y)

/-- equality of structs and arrays -/
def aggEq (P : Program) (op : BinOp) (t : TypeId) (x y : AV) : Option Bool :=
  match x, y with
  | .agg cs, .agg ds => match toVals cs, toVals ds with
    | some vs, some ws => match eqT P Op.maxDepth t (.agg vs.toArray) (.agg ws.toArray) with
      | some r => if P.eqGuardType P.depth t then none else match op with
        | .eql => some r
        | .neq => some (!r)
        | _ => none
      | none => none
    | _, _ => none
  | _, _ => none

/-- operations over blocks that grow, which look alone -/
def valG (P : Program) (hp : List Blk) (tm : List AV) (o : Oper) (K : AV → Prop) : Option Prop :=
  match o.op with
  | .indexAddr t x ix => match evalA tm x with
    | .gref g ver n k => match (evalA tm ix).int?, P.underlying t, hp[g]? with
      | some (_, j), some (.slice e), some blk => match P.info? e with
        | some i => some (BIf (blk.grow && decide (k = i.size)) (blk.ver = ver ∧ BIf (decide (0 ≤ j) && decide (j < n)) (K (.gptr g ver (j.toNat * i.size))) False) False)
        | none => none
      | _, _, _ => none
    | .d (.s (.pointer (some a))) => match (evalA tm ix).int?, P.underlying t with
      | some (_, j), some (.array len e) => match P.info? e with
        | some i => some (BIf (a.spot.isNone && decide (0 ≤ j) && decide (j < len)) (K (.d (.s (.pointer (some ⟨a.block, a.off + j.toNat * i.size, none⟩))))) False)
        | none => none
      | _, _ => none
    | _ => none
  | .fieldAddr t x f => match evalA tm x with
    | .gptr g ver off => match P.underlying t, hp[g]? with
      | some (.struct fields), some blk => match fields[f]? with
        | some fd => match P.info? fd.type with
          | some i => some (BIf (blk.grow && decide (i.size ≠ 0)) (blk.ver = ver ∧ K (.gptr g ver (off + fd.offset))) False)
          | none => none
        | none => none
      | _, _ => none
    | _ => none
  | .load t x => match evalA tm x with
    | .gptr g ver off => match hp[g]?, P.info? t, P.underlying t with
      | some blk, some i, some _ => some (BIf blk.grow (blk.ver = ver ∧ shapeC P 400 t fun row => BIf (decide (row.length = i.size) && decide (0 < row.length)) ((blk.cells.drop off).take i.size = row.map .d ∧ K (if isAggT P t then .agg (row.map .d) else .d (row.headD (.s undef)))) False) False)
      | _, _, _ => none
    | .d (.s (.pointer (some a))) => if isAggT P t then none else match P.info? t, P.underlying t with
      | some i, some _ => some (BIf a.spot.isNone (shapeC P 400 t fun row => BIf (decide (row.length = i.size) && decide (0 < row.length)) (((laidTable a.block).drop a.off).take i.size = row.map (fun d => match d with | .s v => v | _ => undef) ∧ (∀ d ∈ row, ∃ v, d = .s v) ∧ K (.d (row.headD (.s undef)))) False) False)
      | _, _ => none
    | _ => none
  | .call c => match c.callee, c.args[0]? with
    | .builtin .len, some x => match evalA tm x with
      | .gref g ver n k => match hp[g]?, c.argTypes[0]? with
        | some blk, some t => match P.underlying t with
          | some (.slice _) => some (BIf (blk.grow && decide (c.args.size = 1) && decide (c.argTypes.size = 1)) (blk.ver = ver ∧ K (.d (.s (goInt (n : Int))))) False)
          | _ => none
        | _, _ => none
      | _ => none
    | _, _ => none
  | _ => none

theorem valG_sound {P : Program} {hp : List Blk} {tm : List AV} {o : Oper} {K : AV → Prop} {p : Prop} (h : valG P hp tm o K = some p) (hp0 : p) : ∃ x, xq P hp (evalA tm) o = some x ∧ K x := by
  unfold valG at h
  split at h
  · rename_i t x ix ho
    split at h <;> try (cases h; done)
    · rename_i g ver n k hx
      split at h <;> try (cases h; done)
      rename_i kk j e blk h1 h2 h3
      split at h <;> try (cases h; done)
      rename_i i hi
      cases h
      obtain ⟨hc, hv, h4⟩ := hp0.elim'
      obtain ⟨hb, hK⟩ := h4.elim'
      simp only [Bool.and_eq_true, decide_eq_true_eq] at hc hb
      refine ⟨_, ?_, hK⟩
      simp only [xq, ho, xIndexAddr, h1, h2, hi, hx, h3, hc.1, hv, beq_self_eq_true, Bool.and_self, if_true, hb, hc.2, and_self]
    · rename_i a hx
      split at h <;> try (cases h; done)
      rename_i kk j len e h1 h2
      split at h <;> try (cases h; done)
      rename_i i hi
      cases h
      obtain ⟨hc, hK⟩ := hp0.elim'
      simp only [Bool.and_eq_true, decide_eq_true_eq] at hc
      refine ⟨_, ?_, hK⟩
      simp only [xq, ho, xIndexAddr, h1, h2, hi, hx, hc.1.2, hc.2, and_self, if_true, shiftPtr, hc.1.1]
  · rename_i t x f ho
    split at h <;> try (cases h; done)
    rename_i g ver off hx
    split at h <;> try (cases h; done)
    rename_i fields blk h1 h2
    split at h <;> try (cases h; done)
    rename_i fd hfd
    split at h <;> try (cases h; done)
    rename_i i hi
    cases h
    obtain ⟨hc, hv, hK⟩ := hp0.elim'
    simp only [Bool.and_eq_true, decide_eq_true_eq] at hc
    refine ⟨_, ?_, hK⟩
    simp only [xq, ho, xFieldAddr, h1, hfd, hi, hx, if_neg hc.2, shiftPtr, h2, hc.1, hv, beq_self_eq_true, Bool.and_self, if_true]
  · rename_i t x ho
    split at h <;> try (cases h; done)
    rotate_left
    · rename_i a hx
      split at h <;> try (cases h; done)
      rename_i hag
      split at h <;> try (cases h; done)
      rename_i i d h2 h3
      cases h
      obtain ⟨hsp, hs⟩ := hp0.elim'
      obtain ⟨row, hrow⟩ := (shape_sound P 400).1 _ _ hs
      obtain ⟨hlen, heq, hall, hK⟩ := hrow.elim'
      simp only [Bool.and_eq_true, decide_eq_true_eq] at hlen
      refine ⟨_, ?_, hK⟩
      have hag : isAggT P t = false := by simpa using hag
      simp only [xq, ho, xLoad, hx, cellsAt, hsp, if_true, takeCs, h2, h3, hag, Bool.false_eq_true, if_false]
      cases row with
      | nil => simp at hlen
      | cons r0 rows =>
        obtain ⟨v, rfl⟩ := hall r0 (List.mem_cons_self ..)
        have h0 : (((laidTable a.block).drop a.off).take i.size)[0]? = some v := by rw [heq]; rfl
        rw [List.getElem?_take] at h0
        split at h0
        · rw [List.getElem?_map, h0]; rfl
        · cases h0
    rename_i g ver off hx
    split at h <;> try (cases h; done)
    rename_i blk i d h1 h2 h3
    cases h
    obtain ⟨hg, hv, hs⟩ := hp0.elim'
    obtain ⟨row, hrow⟩ := (shape_sound P 400).1 _ _ hs
    obtain ⟨hlen, heq, hK⟩ := hrow.elim'
    simp only [Bool.and_eq_true, decide_eq_true_eq] at hlen
    obtain ⟨hlen, hpos⟩ := hlen
    refine ⟨_, ?_, hK⟩
    have hle : i.size ≤ (blk.cells.drop off).length := by
      have := congrArg List.length heq
      simp only [List.length_take, List.length_map] at this
      omega
    simp only [xq, ho, xLoad, hx, cellsAt, h1, hg, hv, beq_self_eq_true, Bool.and_self, if_true, takeCs, h2, h3]
    by_cases ha : isAggT P t = true
    · simp only [ha, if_true, hle, heq, List.map_map]
      congr 2
    · have ha : isAggT P t = false := by simpa using ha
      simp only [ha, Bool.false_eq_true, if_false]
      cases row with
      | nil => simp at hpos
      | cons r0 rows =>
        have h0 : ((blk.cells.drop off).take i.size)[0]? = some (.d r0) := by rw [heq]; rfl
        rw [List.getElem?_take] at h0
        split at h0
        · rw [h0]; rfl
        · cases h0
  · rename_i c ho
    split at h <;> try (cases h; done)
    rename_i x hc hx0
    split at h <;> try (cases h; done)
    rename_i g ver n k hx
    split at h <;> try (cases h; done)
    rename_i blk t h1 ht
    split at h <;> try (cases h; done)
    rename_i e hu
    cases h
    obtain ⟨hcc, hv, hK⟩ := hp0.elim'
    simp only [Bool.and_eq_true, decide_eq_true_eq] at hcc
    refine ⟨_, ?_, hK⟩
    simp only [xq, ho, hc, hx0, hcc.1.2, if_true, xLen, ht, hcc.2, hu, hx, AV.len?, h1, hcc.1.1, hv, beq_self_eq_true, Bool.and_self, Option.map_some]
  · cases h

/-- what must be shown of a quiet operation: its result is handed on -/
def valC (P : Program) (hp : List Blk) (tm : List AV) (o : Oper) (K : AV → Prop) : Prop :=
  match valG P hp tm o K with
  | some p => p
  | none =>
  let rest : Prop := match xq P hp (evalA tm) o with
    | some x => K x
    | none => False
  match o.op with
  | .indexAddr t x ix => match (evalA tm x).rows?, (evalA tm ix).int?, P.underlying t with
    | some (k, xs), some (_, n), some (.slice e) => match P.info? e with
      | some i => BIf (decide (k = i.size) && decide (0 < k) && decide (0 ≤ n)) (shapeC P 400 e fun row => xs[n.toNat]? = some row ∧ K (.rptr row)) False
      | none => False
    | _, _, _ => rest
  | .sliceToArrayPointer t x => match (evalA tm x).rows?, P.underlying t with
    | some (k, xs), some (.array n e) => match P.info? e with
      | some i => BIf (decide (k = i.size) && decide (0 < n * k)) (BIf (decide (n ≤ xs.length)) (shapesC P 400 (List.replicate n e) fun row => (xs.take n).flatten = row ∧ K (.rptr row)) False) False
      | none => False
    | _, _ => rest
  | .slice t x lo hi mx => match (evalA tm x).rows?, P.underlying t with
    | some (k, xs), some (.slice e) => match P.info? e with
      | some i => BIf (decide (k = i.size) && (optIsInt tm lo && optIsInt tm hi && optIsInt tm mx) && (!mx.isSome || hi.isSome) &&
          decide (0 ≤ optNum tm lo 0 ∧ optNum tm lo 0 ≤ optNum tm hi xs.length ∧ optNum tm hi xs.length ≤ optNum tm mx xs.length ∧ optNum tm mx xs.length ≤ xs.length))
            (BIf ((isFull (evalA tm x) || mx.isSome) && ((optNum tm hi xs.length).toNat == (optNum tm mx xs.length).toNat))
              (K (.full k ((xs.drop (optNum tm lo 0).toNat).take ((optNum tm hi xs.length).toNat - (optNum tm lo 0).toNat))))
              (K (.d (.sl k ((xs.drop (optNum tm lo 0).toNat).take ((optNum tm hi xs.length).toNat - (optNum tm lo 0).toNat)))))) False
      | none => False
    | _, _ => rest
  | .binOp op t x y yt => if shyOp op then match evalA tm x, evalA tm y with
      | .d (.s (.int k a)), .d (.s (.int k' b)) => BIf (shyBad op k k' b) False (K (.d (.s (shyVal op k a b))))
      | _, _ => False
    else match aggEq P op t (evalA tm x) (evalA tm y) with
      | some r => K (.d (.s (.bool r)))
      | none => rest
  | .index t x ix => match evalA tm x, (evalA tm ix).int?, P.underlying t with
    | .d (.s (.string s)), some (_, n), some .string => BIf (decide (0 ≤ n)) (∃ c : UInt8, s[n.toNat]? = some c ∧ K (.d (.s (.int .u8 c.toNat)))) False
    | _, _, _ => rest
  | _ => rest

theorem rest_sound {P : Program} {hp : List Blk} {tm : List AV} {o : Oper} {K : AV → Prop} (h : match xq P hp (evalA tm) o with
    | some x => K x
    | none => False) : ∃ x, xq P hp (evalA tm) o = some x ∧ K x := by
  split at h
  · rename_i x hx; exact ⟨x, hx, h⟩
  · exact h.elim

theorem shy_exec {P : Program} {op : BinOp} {t yt : TypeId} {x y : Operand} {k k' : IntKind} {a b : Int} (hs : shyOp op = true) (hb : shyBad op k k' b = false) :
    runPure P (do eqGuard op t x y (.int k a) (.int k' b); let r ← binOp op t (.int k a) (.int k' b); pure (Next.value r)) = some (.value (shyVal op k a b)) := by
  cases op <;> simp only [shyOp, Bool.false_eq_true] at hs
  all_goals simp only [shyBad, Bool.or_eq_false_iff, decide_eq_false_iff_not, Bool.not_eq_false', decide_eq_true_eq] at hb
  · obtain ⟨h1, rfl⟩ := hb
    simp [binOp, eqGuard, Op.intDiv, h1, shyVal]
    rfl
  · obtain ⟨h1, rfl⟩ := hb
    simp [binOp, eqGuard, Op.intDiv, h1, shyVal]
    rfl
  · simp [binOp, eqGuard, Op.shift, hb, shyVal]
    rfl
  · simp [binOp, eqGuard, Op.shift, hb, shyVal]
    rfl

theorem strIndex_exec {P : Program} {t : TypeId} {s : ByteArray} {k : IntKind} {n : Int} {c : UInt8} (hu : P.underlying t = some .string) (hn : 0 ≤ n) (hc : s[n.toNat]? = some c) :
    runPure P (do let r ← Instr.index t (.string s) (.int k n); pure (Next.value r)) = some (.value (.int .u8 c.toNat)) := by
  refine (runPure_bind (a := Value.int .u8 c.toNat) ?_ _).trans rfl
  unfold Instr.index
  refine (runPure_bind (a := (k, n)) rfl _).trans ?_
  refine (runPure_bind (a := TypeDesc.string) ?_ _).trans ?_
  · unfold underlying
    refine (runPure_bind (a := P) rfl _).trans ?_
    simp only [hu]; rfl
  · simp only [hn, if_true, hc]; rfl

theorem int?_eq {x : AV} {q : IntKind × Int} (h : x.int? = some q) : x = .d (.s (.int q.1 q.2)) := by
  unfold AV.int? at h
  split at h
  · cases h; rfl
  · cases h

theorem aggEq_exec {P : Program} {op : BinOp} {t yt : TypeId} {x y : Operand} {a b : AV} {r : Bool} (h : aggEq P op t a b = some r) :
    ∃ u v, a.toVal? = some u ∧ b.toVal? = some v ∧ isNilSlice a = false ∧ isNilSlice b = false ∧ runPure P (do eqGuard op t x y u v; let r ← binOp op t u v; pure (Next.value r)) = some (.value (.bool r)) := by
  unfold aggEq at h
  split at h <;> try (cases h; done)
  rename_i cs ds
  split at h <;> try (cases h; done)
  rename_i vs ws h1 h2
  split at h <;> try (cases h; done)
  rename_i r0 h3
  split at h <;> try (cases h; done)
  rename_i hg
  have hg : P.eqGuardType P.depth t = false := by simpa using hg
  refine ⟨.agg vs.toArray, .agg ws.toArray, by simp [AV.toVal?, h1], by simp [AV.toVal?, h2], rfl, rfl, ?_⟩
  refine (runPure_bind (guard_agg hg) _).trans ?_
  split at h <;> try (cases h; done)
  · cases h
    refine (runPure_bind (a := Value.bool _) ?_ _).trans rfl
    exact (runPure_bind (eqT_sound h3) _).trans rfl
  · cases h
    refine (runPure_bind (a := Value.bool _) ?_ _).trans rfl
    exact (runPure_bind (eqT_sound h3) _).trans rfl

theorem valC_sound {P : Program} {hp : List Blk} {tm : List AV} {o : Oper} {K : AV → Prop} (h : valC P hp tm o K) : ∃ x, xq P hp (evalA tm) o = some x ∧ K x := by
  unfold valC at h
  split at h
  · rename_i p hp0; exact valG_sound hp0 h
  simp only at h
  split at h
  · rename_i t x ix ho
    split at h
    · rename_i k xs kk n e h1 h2 h3
      split at h
      · rename_i i hi
        obtain ⟨hc, h⟩ := h.elim'
        simp only [Bool.and_eq_true, decide_eq_true_eq] at hc
        obtain ⟨⟨hk, hk0⟩, hn⟩ := hc
        obtain ⟨row, hrow, hK⟩ := (shape_sound P 400).1 _ _ h
        refine ⟨_, ?_, hK⟩
        have hl : n < xs.length := by
          have := (List.getElem?_eq_some_iff.1 hrow).1
          omega
        simp only [xq, ho, xIndexAddr, h2, h3, hi]
        have hr := h1
        cases ha : evalA tm x <;> rw [ha] at hr h1 <;> simp only [AV.rows?] at hr <;> try (cases hr; done)
        all_goals
          simp only [h1]
          rw [if_pos ⟨hn, hl, hk, hk0⟩, hrow]; rfl
      · exact h.elim
    · exact rest_sound h
  · rename_i t x ho
    split at h
    · rename_i k xs n e h1 h3
      split at h
      · rename_i i hi
        obtain ⟨hc, h⟩ := h.elim'
        obtain ⟨hn, h⟩ := h.elim'
        simp only [Bool.and_eq_true, decide_eq_true_eq] at hc hn
        obtain ⟨row, hrow, hK⟩ := (shape_sound P 400).2 _ _ h
        refine ⟨_, ?_, hK⟩
        simp only [xq, ho, xArrPtr, h1, h3, hi]
        rw [if_pos ⟨hc.1, hc.2, hn⟩, hrow]
      · exact h.elim
    · exact rest_sound h
  · rename_i t x lo hi mx ho
    split at h
    · rename_i k xs e h1 h3
      split at h
      · rename_i i hi'
        obtain ⟨hc, h⟩ := h.elim'
        simp only [Bool.and_eq_true, decide_eq_true_eq] at hc
        obtain ⟨⟨⟨hk, hint⟩, hm⟩, hb⟩ := hc
        have hopt : ∀ (y : Option Operand) (d : Int), optIsInt tm y = true → ∃ q, optInt (y.map (evalA tm)) = some q ∧ (∀ d : Int, numOr q d = optNum tm y d) ∧ q.isSome = y.isSome := by
          intro y d hy
          cases y with
          | none => exact ⟨none, rfl, fun _ => rfl, rfl⟩
          | some z =>
            simp only [optIsInt, Option.isSome_iff_exists] at hy
            obtain ⟨q, hq⟩ := hy
            refine ⟨some q, by simp [optInt, hq], fun d => ?_, rfl⟩
            simp only [optNum]
            have : evalA tm z = .d (.s (.int q.1 q.2)) := by
              exact int?_eq hq
            rw [this]; rfl
        obtain ⟨ql, el, nl, sl⟩ := hopt lo 0 hint.1.1
        obtain ⟨qh, eh, nh, sh⟩ := hopt hi 0 hint.1.2
        obtain ⟨qm, em, nm, sm⟩ := hopt mx 0 hint.2
        have hbn : bnds xs.length xs.length ql qh qm = some ((optNum tm lo 0).toNat, (optNum tm hi xs.length).toNat, (optNum tm mx xs.length).toNat) := by
          unfold bnds
          rw [nl, nh, nm, if_pos]
          refine ⟨hb.1, hb.2.1, hb.2.2.1, hb.2.2.2, fun hmx => ?_⟩
          rw [sh]; rw [sm] at hmx
          simpa [hmx] using hm
        have key : ∀ known : Bool, xSliceRows k xs known ql qh qm = (if (known || mx.isSome) && ((optNum tm hi xs.length).toNat == (optNum tm mx xs.length).toNat) then some (.full k ((xs.drop (optNum tm lo 0).toNat).take ((optNum tm hi xs.length).toNat - (optNum tm lo 0).toNat))) else some (.d (.sl k ((xs.drop (optNum tm lo 0).toNat).take ((optNum tm hi xs.length).toNat - (optNum tm lo 0).toNat))))) := by
          intro known
          simp only [xSliceRows, hbn, sm]
        have hxq : xq P hp (evalA tm) o = xSliceRows k xs (isFull (evalA tm x)) ql qh qm := by
          have hr := h1
          have hs : xSlice P hp t (evalA tm x) (lo.map (evalA tm)) (hi.map (evalA tm)) (mx.map (evalA tm)) = xSliceRows k xs (isFull (evalA tm x)) ql qh qm := by
            unfold xSlice
            rw [el, eh, em, h3]
            simp only [hi']
            cases ha : evalA tm x <;> rw [ha] at hr <;> simp only [AV.rows?] at hr <;> try (cases hr; done)
            · rename_i dv
              cases dv <;> simp only [AV.rows?] at hr <;> try (cases hr; done)
              cases hr
              simp [hk, isFull]
            · cases hr; simp [hk, isFull]
            · cases hr; simp [hk, isFull]
          simp only [xq, ho, hs, key]
          split <;> rename_i hh <;> split at hh <;> simp_all
        rw [hxq, key]
        rcases h.elim with ⟨hc, hK⟩ | ⟨hc, hK⟩
        · rw [hc]; exact ⟨_, rfl, hK⟩
        · rw [hc]; exact ⟨_, rfl, hK⟩
      · exact h.elim
    · exact rest_sound h
  · rename_i op t x y yt ho
    split at h
    · rename_i hs
      split at h
      · rename_i k a k' b hx hy
        rcases h.elim with ⟨hc, hK⟩ | ⟨hc, hK⟩
        · exact hK.elim
        · refine ⟨_, ?_, hK⟩
          have hnil : xNil P op t (evalA tm x) (evalA tm y) = none := by
            unfold xNil
            cases op <;> simp only [shyOp, Bool.false_eq_true] at hs <;> rfl
          simp only [xq, ho, hnil]
          unfold xVal
          have he : execOp (fun x => ((evalA tm x).toVal?).getD undef) o = (do eqGuard op t x y (.int k a) (.int k' b); let r ← binOp op t (.int k a) (.int k' b); pure (Next.value r)) := by
            unfold execOp
            rw [ho]
            simp [hx, hy, AV.toVal?]
          rw [he, shy_exec (t := t) (yt := yt) hs hc]
          simp only [ho, Op.operands]
          simp [hx, hy, AV.toVal?]
          cases op <;> simp only [shyOp, Bool.false_eq_true] at hs <;> rfl
      · exact h.elim
    · split at h
      · rename_i r hr
        refine ⟨_, ?_, h⟩
        obtain ⟨u, v, h1, h2, h3, h4, h5⟩ := aggEq_exec (x := x) (y := y) (yt := yt) hr
        have hnil : xNil P op t (evalA tm x) (evalA tm y) = none := by
          unfold xNil
          split <;> simp [h3, h4]
        simp only [xq, ho, hnil]
        unfold xVal
        have he : execOp (fun x => ((evalA tm x).toVal?).getD undef) o = (do eqGuard op t x y u v; let r ← binOp op t u v; pure (Next.value r)) := by
          unfold execOp
          rw [ho]
          simp [h1, h2]
        rw [he, h5]
        simp only [ho, Op.operands]
        simp [h1, h2]
        rfl
      · exact rest_sound h
  · rename_i t x ix ho
    split at h
    · rename_i s kk n h1 h2 h3
      obtain ⟨hc, h⟩ := h.elim'
      obtain ⟨c, hc1, hK⟩ := h
      refine ⟨_, ?_, hK⟩
      have h2' := int?_eq h2
      simp only [xq, ho, h1]
      unfold xVal
      have he : execOp (fun x => ((evalA tm x).toVal?).getD undef) o = (do let r ← Instr.index t (.string s) (.int kk n); pure (Next.value r)) := by
        unfold execOp
        rw [ho]
        simp [h1, h2', AV.toVal?]
      rw [he, strIndex_exec h3 (of_decide_eq_true hc) hc1]
      simp only [ho, Op.operands]
      simp [h1, h2', AV.toVal?]
      rfl
    · exact rest_sound h
  · exact rest_sound h

end Go.Proofs.YtkjmhfbjdeidjaaDoor.Am

/- What must be shown of code, as a proposition that the kernel can spell out: regions and code. -/
namespace Go.Proofs.YtkjmhfbjdeidjaaDoor.Am
set_option linter.unusedVariables false
set_option linter.unusedSimpArgs false
open Go Go.RowKit

/-- what a walk leans on: contracts of calls (those that turn none of our blocks; the others), what loops come to, what a yield comes to; unroll: loops are run round by round -/
structure CX (β : Type) where
  call : List (Nat × (List AV → (AV → Prop) → Prop))
  scall : List (Nat × (List AV → List Blk → (AV → List Blk → Prop) → Prop))
  wl : Code → List AV → List Blk → β → (Exit → List AV → List Blk → β → Prop) → Prop
  y : YieldT β
  unroll : Bool

/-- a test's outcome is laid down in its place -/
def setB (tm : List AV) (x : Operand) (v : Bool) : List AV :=
  match x with
  | .tmp t => tm.set t (.d (.s (.bool v)))
  | _ => tm

def guardC (ops : Array Oper) (o : Oper) (tm : List AV) (A B : List AV → Prop) : Prop :=
  match o.guard with
  | none => A tm
  | some (j, want) => match (ops[j]?).bind (·.dst) with
    | some t => match tm.getD t .bad with
      | .d (.s (.bool b)) => BIf b ((if want then A else B) (setB tm (.tmp t) true)) ((if want then B else A) (setB tm (.tmp t) false))
      | .d (.s (.tuple _)) => B tm
      | _ => False
    | none => False

def condOf (o : Oper) : Operand :=
  match o.op with
  | .pick c _ _ => c
  | _ => .const undef

/-- the choice of a pick -/
def pickO (tm : List AV) (o : Oper) : Option (Bool × AV × AV) :=
  match o.op with
  | .pick c a b => match evalA tm c with
    | .d (.s (.bool t)) => some (t, (evalA tm a).view, (evalA tm b).view)
    | _ => none
  | _ => none

/-- an operation that is wanted and no call of a function -/
def bodyX (P : Program) (s : RS) (o : Oper) : Option RS :=
  match xa P s o with
  | some s' => some s'
  | none => match xh P noCall s o with
  | some s' => some s'
  | none => match xq P s.hp (evalA s.tm) o with
    | some x => some { s with tm := putA s.tm o.dst x, pv := (pvRead P s o).toList ++ pvPut s.pv o.dst }
    | none => none

def restC (P : Program) (s : RS) (o : Oper) (K : RS → Prop) : Prop :=
  match bodyX P s o with
  | some s' => K s'
  | none => False

def accOf (s : RS) (x : Operand) : Option (Loc × TypeId × Nat × List (List Dv)) :=
  match x with
  | .tmp t => match s.pv.lookup t with
    | some loc => match ownAt s loc with
      | some (e, k, xs) => some (loc, e, k, xs)
      | none => none
    | none => none
  | _ => none

def appendC (P : Program) (s : RS) (o : Oper) (c : Call) (K : RS → Prop) : Prop :=
  match c.callee, c.args[0]?, c.args[1]? with
  | .builtin .append, some x, some y => match appInfo P c.argTypes with
    | some (e', i) => match srcRows i.size (evalA s.tm y) with
      | some ys => match accOf s x with
        | some (loc, e, k, xs) => BIf (decide (e = e') && decide (k = i.size) && decide (c.args.size = 2) && decide ((xs.length + ys.length) * i.bytes ≤ 140737488355328))
            (K { tm := putA (demote s loc).tm o.dst (.own e k (xs ++ ys)), hp := (demote s loc).hp, pv := [] }) False
        | none => BIf (isNilSlice (evalA s.tm x) && decide (c.args.size = 2)) (BIf (decide (ys.length * i.bytes ≤ 140737488355328))
            (K { s with tm := putA s.tm o.dst (.own e' i.size ys), pv := (pvRead P s o).toList ++ pvPut s.pv o.dst }) False) (match evalA s.tm x with
          | .full k xs => BIf (decide (k = i.size) && decide (c.args.size = 2)) (BIf (decide ((xs.length + ys.length) * i.bytes ≤ 140737488355328)) (BIf ys.isEmpty
            (K { s with tm := putA s.tm o.dst (.full k xs), pv := (pvRead P s o).toList ++ pvPut s.pv o.dst })
            (K { s with tm := putA s.tm o.dst (.own e' k (xs ++ ys)), pv := (pvRead P s o).toList ++ pvPut s.pv o.dst })) False) (restC P s o K)
          | _ => restC P s o K)
      | none => restC P s o K
    | none => restC P s o K
  | _, _, _ => restC P s o K

/-- copy out of data of unknown length -/
def copyC (P : Program) (s : RS) (o : Oper) (c : Call) (K : RS → Prop) : Prop :=
  match c.args[0]?, c.args[1]? with
  | some x, some y => match evalA s.tm x, (evalA s.tm y).rows? with
    | .ref g off n cap k, some (k', xs) => match c.argTypes[0]? with
      | some t => match P.underlying t with
        | some (.slice e) => match P.info? e, s.hp[g]? with
          | some i, some blk => BIf (decide (c.args.size = 2) && decide (c.argTypes.size = 2) && decide (i.size = 1) && decide (k = 1) && decide (k' = 1) && !blk.fro && !blk.grow && decide (off + n ≤ blk.cells.length))
              (shapesC P 400 (List.replicate n e) fun row => ((xs.take n).map fun r => AV.d (r.headD (.s undef))) ++ ((blk.cells.drop off).take n).drop (min n xs.length) = row.map AV.d ∧ BIf ((row.map AV.d).all AV.one)
                (K { tm := putA s.tm o.dst (.d (.s (goInt (min n xs.length : Nat)))), hp := s.hp.set g { blk with cells := blk.cells.take off ++ row.map AV.d ++ blk.cells.drop (off + n) }, pv := [] }) False) False
          | _, _ => False
        | _ => False
      | none => False
    | _, _ => restC P s o K
  | _, _ => restC P s o K

def quietKind : Op → Bool
  | .indexAddr .. => true
  | .sliceToArrayPointer .. => true
  | .slice .. => true
  | .binOp .. => true
  | .index .. => true
  | _ => false

def bodyC (P : Program) (s : RS) (o : Oper) (K : RS → Prop) : Prop :=
  match valG P s.hp s.tm o (fun x => K { s with tm := putA s.tm o.dst x, pv := (pvRead P s o).toList ++ pvPut s.pv o.dst }) with
  | some p => p
  | none => match pickO s.tm o with
  | some (t, x, y) => BIf t (K { s with tm := putA (setB s.tm (condOf o) true) o.dst x, pv := pvPut s.pv o.dst }) (K { s with tm := putA (setB s.tm (condOf o) false) o.dst y, pv := pvPut s.pv o.dst })
  | none => if quietKind o.op then valC P s.hp s.tm o fun x => K { s with tm := putA s.tm o.dst x, pv := (pvRead P s o).toList ++ pvPut s.pv o.dst }
    else match o.op with
      | .call c => match c.callee with
        | .builtin .copy => copyC P s o c K
        | _ => appendC P s o c K
      | _ => restC P s o K

mutual
/-- as data -/
def sealC (hp : List Blk) : AV → (AV → Prop) → Prop
  | .gref g ver n k, K => match hp[g]? with
    | some blk => BIf blk.grow (blk.ver = ver ∧ ∃ xs : List (List Dv), blk.cells = flatA xs ∧ xs.length = n ∧ (∀ r ∈ xs, r.length = k) ∧ K (.d (.sl k xs))) False
    | none => False
  | .agg cs, K => sealCs hp cs fun ys => K (.agg ys)
  | .tup cs, K => sealCs hp cs fun ys => K (.tup ys)
  | .fn f a b, K => sealCs hp a fun a => sealCs hp b fun b => K (.fn f a b)
  | .own _ k xs, K => K (.d (.sl k xs))
  | .ref g off n cap k, K => match sealV hp (.ref g off n cap k) with
    | some y => K y
    | none => False
  | .ptr g off, K => match sealV hp (.ptr g off) with
    | some y => K y
    | none => False
  | .gptr .., _ => False
  | .yl, _ => False
  | .d x, K => K (.d x)
  | .full k xs, K => K (.full k xs)
  | .rptr cs, K => K (.rptr cs)
  | .bad, K => K .bad
def sealCs (hp : List Blk) : List AV → (List AV → Prop) → Prop
  | [], K => K []
  | x :: l, K => sealC hp x fun y => sealCs hp l fun ys => K (y :: ys)
end

/-- temporaries are sealed -/
def sealTs (hp : List Blk) : List Nat → List AV → (List AV → Prop) → Prop
  | [], tm, K => K tm
  | t :: ts, tm, K => sealC hp (tm.getD t .bad) fun y => BIf y.isOwn False (sealTs hp ts (tm.set t y) K)

/-- a temporary that leans on blocks -/
def leans (tm : List AV) (x : Operand) : List Nat :=
  match x with
  | .tmp t => if (occ (tm.getD t .bad)).isEmpty then [] else [t]
  | _ => []

def isCallB : Op → Bool
  | .call c => match c.callee with
    | .builtin .append => true
    | _ => false
  | _ => false

/-- which temporaries an operation wants as data -/
def needFrz (pc : Nat → Bool) (s : RS) (o : Oper) : List Nat :=
  match o.op with
  | .call c => match c.callee with
    | .value _ => match opCall s.tm o with
      | some (k, args) => if pc k && !closeds args then (c.args.toList.flatMap (leans s.tm)).eraseDups else []
      | none => []
    | .builtin .append => match c.args[1]? with
      | some y => leans s.tm y
      | none => []
    | _ => []
  | .buildSlice _ _ parts => (parts.toList.flatMap fun p => leans s.tm p.2).eraseDups
  | _ => []

def frzC (pc : Nat → Bool) (s : RS) (o : Oper) (K : RS → Prop) : Prop :=
  match needFrz pc s o with
  | [] => K s
  | t :: ts => sealTs s.hp (t :: ts) s.tm fun tm1 => K ⟨tm1, frz s.hp (occs ((t :: ts).map fun t => s.tm.getD t .bad)), []⟩

/-- both are constants -/
def constB (x y : Operand) : Bool :=
  match x, y with
  | .const _, .const _ => true
  | _, _ => false

/-- a slice without elements and without room -/
def isFull0 (ax : AV) (n : Nat) : Bool :=
  match ax with
  | .full k [] => decide (k = n)
  | _ => false

/-- operations that write blocks that grow; gt: of which elements such blocks are laid -/
def extC (P : Program) (gt : Nat → Bool) (s : RS) (o : Oper) (K : RS → Prop) : Option Prop :=
  match o.op with
  | .call c => match c.callee, c.args[0]?, c.args[1]? with
    | .builtin .append, some x, some y => match appInfo P c.argTypes with
      | some (e, i) => match evalA s.tm x with
        | .gref g ver n k => match s.hp[g]?, srcRows i.size (evalA s.tm y) with
          | some blk, some ys => some (BIf (decide (c.args.size = 2) && decide (k = i.size) && blk.grow && !blk.fro) (blk.ver = ver ∧ BIf (decide ((n + ys.length) * i.bytes ≤ 140737488355328))
              (K { tm := putA s.tm o.dst (.gref g (ver + 1) (n + ys.length) i.size), hp := s.hp.set g ⟨blk.cells ++ flatA ys, false, true, ver + 1⟩, pv := [] }) False) False)
          | _, _ => none
        | ax => if gt e && (isNilSlice ax || isFull0 ax i.size) then match srcRows i.size (evalA s.tm y) with
          | some ys => some (BIf (decide (c.args.size = 2) && decide (ys.length * i.bytes ≤ 140737488355328)) (BIf (decide (0 < ys.length))
              (K { tm := putA s.tm o.dst (.gref s.hp.length 0 ys.length i.size), hp := s.hp ++ [⟨flatA ys, false, true, 0⟩], pv := [] })
              (K { tm := putA s.tm o.dst ax, hp := s.hp, pv := [] })) False)
          | none => none
          else none
      | none => none
    | _, _, _ => none
  | .makeSlice t lo co => match P.underlying t with
    | some (.slice e) => if gt e || !constB lo co then match evalA s.tm lo, evalA s.tm co, P.info? e with
      | .d (.s (.int _ l)), .d (.s (.int _ c)), some i => match zrow i with
        | some zr => some (BIf (decide (0 ≤ l) && decide (l ≤ c) && decide ((i.bytes : Int) * c ≤ 281474976710656) && decide (c ≤ 9223372036854775807) && decide (zr.length = i.size) && decide (0 < i.size) && (zr.map AV.d).all AV.one)
            (K { tm := putA s.tm o.dst (.gref s.hp.length 0 l.toNat i.size), hp := s.hp ++ [⟨flatA (List.replicate l.toNat zr), false, true, 0⟩], pv := [] }) False)
        | none => none
      | _, _, _ => none
      else none
    | _ => none
  | .store t ax x => match evalA s.tm ax with
    | .gptr g ver off => match P.info? t, s.hp[g]?, xCells (evalA s.tm x) with
      | some i, some blk, some xs => some (BIf (decide (xs.length = i.size) && blk.grow && !blk.fro) (blk.ver = ver ∧ BIf (decide (off + xs.length ≤ blk.cells.length))
          (K { tm := putA s.tm o.dst .bad, hp := s.hp.set g { blk with cells := blk.cells.take off ++ xs ++ blk.cells.drop (off + xs.length) }, pv := [] }) False) False)
      | _, _, _ => none
    | _ => none
  | _ => none

section
variable {β : Type}

def opC (P : Program) (X : CX β) (ops : Array Oper) (o : Oper) (s : RS) (b : β) (K : RS → β → Prop) : Prop :=
  guardC ops o s.tm
    (fun tm => frzC (fun k => (X.call.lookup k).isSome) { s with tm := tm } o fun s => match opCall s.tm o with
      | some (k, args) => match X.call.lookup k with
        | some f => BIf (closeds args) (f args fun x => K { tm := putA s.tm o.dst x.view, hp := s.hp, pv := pvPut s.pv o.dst } b) False
        | none => match X.scall.lookup k with
          | some f => f args s.hp fun x hp' => K { tm := putA s.tm o.dst x.view, hp := hp', pv := [] } b
          | none => False
      | none => match yieldArgs s.tm o with
        | some args => BIf (closeds args) (X.y b args fun cont b' => K { tm := putA s.tm o.dst (.d (.s (.bool cont))), hp := s.hp, pv := [] } b') False
        | none => match extC P (fun e => (X.scall.lookup (1000000 + e)).isSome) s o fun s' => K s' b with
          | some p => p
          | none => bodyC P s o fun s' => K s' b)
    (fun tm => K { s with tm := putA tm o.dst (.d (.s undef)), pv := pvPut s.pv o.dst } b)

def opsC (P : Program) (X : CX β) (ops : Array Oper) : List Oper → RS → β → (RS → β → Prop) → Prop
  | [], s, b, K => K s b
  | o :: l, s, b, K => opC P X ops o s b fun s b => opsC P X ops l s b K

/-- calls' answers, by the temporaries that take them -/
abbrev Tbl := List (Option Nat × Nat × List AV × AV)

def preC (P : Program) (X : CX β) (ops : Array Oper) (hp : List Blk) : List Oper → List AV → Tbl → (List AV → Tbl → Prop) → Prop
  | [], tm, tb, K => K tm tb
  | o :: l, tm, tb, K => guardC ops o tm
      (fun tm => match opCall tm o with
        | some (k, args) => match X.call.lookup k with
          | some f => BIf (closeds args) (f args fun x => preC P X ops hp l (putA tm o.dst x.view) ((o.dst, k, args, x) :: tb) K) False
          | none => False
        | none => match pickO tm o with
          | some (t, x, y) => BIf t (preC P X ops hp l (putA (setB tm (condOf o) true) o.dst x) tb K) (preC P X ops hp l (putA (setB tm (condOf o) false) o.dst y) tb K)
          | none => valC P hp tm o fun x => preC P X ops hp l (putA tm o.dst x) tb K)
      (fun tm => preC P X ops hp l (putA tm o.dst (.d (.s undef))) tb K)

/-- how many plain stores stand at the head -/
def leadStores : List Oper → Nat
  | o :: l => match o.op, o.guard, o.dst with
    | .store .., none, none => leadStores l + 1
    | _, _, _ => 0
  | [] => 0

def findN (ops : Array Oper) (k : Nat) : Nat → Option Nat
  | 0 => none
  | n + 1 => if drawLateOk ops k (n + 1) then some (n + 1) else findN ops k n

/-- where stores lay down how many cells -/
def storeFps (tm : List AV) : List Oper → List (Nat × Nat × Nat)
  | [] => []
  | o :: l => match o.op with
    | .store t a x => match evalA tm a, xCells (evalA tm x) with
      | .ptr g off, some xs => (g, off, xs.length) :: storeFps tm l
      | _, _ => storeFps tm l
    | _ => storeFps tm l

def apartB (fp : List (Nat × Nat × Nat)) (g off n : Nat) : Bool := fp.all fun q => q.1 != g || decide (q.2.1 + q.2.2 ≤ off) || decide (off + n ≤ q.2.1)

/-- it reads none of the cells that are written -/
def frameB (P : Program) (tm : List AV) (fp : List (Nat × Nat × Nat)) (o : Oper) : Bool :=
  match o.op with
  | .load t a => match evalA tm a with
    | .ptr g off => match P.info? t with
      | some i => apartB fp g off (max i.size 1)
      | none => true
    | .gptr .. => false
    | _ => true
  | .call c => match c.callee with
    | .value _ => true
    | .builtin .len => true
    | _ => false
  | _ => true

def regionC (P : Program) (X : CX β) (ops : Array Oper) (draw : Bool) (tm : List AV) (hp : List Blk) (b : β) (K : List AV → List Blk → β → Prop) : Prop :=
  if draw then match findK ops (leadPure ops.toList) with
    | some k => if k ≤ ops.size then preC P X ops hp (ops.toList.take k) tm [] fun tmK tb =>
        if (tb.map (·.1)).Nodup then opsC P X ops (ops.toList.drop k) ⟨tmK, hp, pvAll P hp tmK (ops.toList.take k)⟩ b fun s b => K s.tm s.hp b else False
      else False
    | none => match findN ops (leadPure ops.toList) (leadStores (ops.toList.drop (leadPure ops.toList))) with
      | some n => if leadPure ops.toList + n ≤ ops.size then preC P X ops hp (ops.toList.take (leadPure ops.toList)) tm [] fun tmK tb =>
          if (tb.map (·.1)).Nodup then match xLates P tmK ((ops.toList.drop (leadPure ops.toList)).take n) hp with
            | some hps => match hps[n]? with
              | some hpn => BIf ((ops.toList.take (leadPure ops.toList)).all (frameB P tmK (storeFps tmK ((ops.toList.drop (leadPure ops.toList)).take n))))
                  (opsC P X ops (ops.toList.drop (leadPure ops.toList + n)) ⟨tmK, hpn, []⟩ b fun s b => K s.tm s.hp b) False
              | none => False
            | none => False
          else False
        else False
      | none => False
  else opsC P X ops ops.toList ⟨tm, hp, []⟩ b fun s b => K s.tm s.hp b

def blockK (id : Nat) (K : Exit → List AV → List Blk → β → Prop) : Exit → List AV → List Blk → β → Prop
  | .exit id', tm, hp, b => if id' = id then K .normal tm hp b else K (.exit id') tm hp b
  | e, tm, hp, b => K e tm hp b

def thenK (K' : List AV → List Blk → β → Prop) (K : Exit → List AV → List Blk → β → Prop) : Exit → List AV → List Blk → β → Prop
  | .normal, tm, hp, b => K' tm hp b
  | e, tm, hp, b => K e tm hp b

/-- no jump to a label within -/
def scopeK (K : Exit → List AV → List Blk → β → Prop) : Exit → List AV → List Blk → β → Prop
  | .goto _, _, _, _ => False
  | e, tm, hp, b => K e tm hp b

def rounds (body : List AV → List Blk → β → (Exit → List AV → List Blk → β → Prop) → Prop) : Nat → List AV → List Blk → β → (Exit → List AV → List Blk → β → Prop) → Prop
  | 0, _, _, _, _ => False
  | m + 1, tm, hp, b, K => body tm hp b (thenK (fun tm hp b => rounds body m tm hp b K) K)

def wpc (P : Program) (X : CX β) : Nat → Code → List AV → List Blk → β → (Exit → List AV → List Blk → β → Prop) → Prop
  | 0, _, _, _, _, _ => False
  | n + 1, c, tm, hp, b, K => match c with
    | .skip => K .normal tm hp b
    | .label _ => K .normal tm hp b
    | .exit id => K (.exit id) tm hp b
    | .goto l => K (.goto l) tm hp b
    | .ret => K .ret tm hp b
    | .region _ ops d => regionC P X ops d tm hp b (K .normal)
    | .seq x y => wpc P X n x tm hp b (thenK (fun tm hp b => wpc P X n y tm hp b K) K)
    | .cond x c c' => match evalA tm x with
      | .d (.s (.bool t)) => BIf t (wpc P X n c (setB tm x true) hp b K) (wpc P X n c' (setB tm x false) hp b K)
      | _ => False
    | .block id c => wpc P X n c tm hp b (blockK id K)
    | .loop c => if X.unroll then rounds (wpc P X n c) 1000 tm hp b K else X.wl (.loop c) tm hp b K
    | .rangeFunc f ps assign body => X.wl (.rangeFunc f ps assign body) tm hp b K
    | .scope c => wpc P X n c tm hp b (scopeK K)
    | .refuse _ => False

/-- how a function's body ends -/
def fnK (P : Program) (fn : Func) (R : AV → β → Prop) : Exit → List AV → List Blk → β → Prop := fun e tm hp b =>
  BIf (match e with | .ret => true | .normal => true | _ => false) (match resAs P hp tm fn.results.toList with
    | some ys => sealC hp (resV ys) fun y => R y b
    | none => False) False

/-- of a function -/
def wpFn (P : Program) (X : CX β) (n : Nat) (fn : Func) (args : List AV) (b : β) (R : AV → β → Prop) : Prop :=
  match fn.body with
  | some c => wpc P X n c (startTm fn args) [] b (fnK P fn R)
  | none => False

end
end Go.Proofs.YtkjmhfbjdeidjaaDoor.Am

/- What must be shown of code: it suffices. -/
namespace Go.Proofs.YtkjmhfbjdeidjaaDoor.Am
set_option linter.unusedVariables false
set_option linter.unusedSimpArgs false
open Go Go.RowKit

structure CX.Ok {P : Program} (Ev : Env P) (X : CX Ev.β) : Prop where
  call : ∀ (k : Nat) f, X.call.lookup k = some f → ∀ args K, f args K → ∃ x, PCall P k args x ∧ K x
  scall : ∀ (k : Nat) f, X.scall.lookup k = some f → ∀ args hp K, f args hp K → ∃ x hp', SCall P k args hp x hp' ∧ K x hp'
  wl : ∀ c tm hp b K, X.wl c tm hp b K → W Ev c ⟨tm, hp, b⟩ (fun e s => K e s.tm s.hp s.b)
  y : X.y = Ev.Y

section
variable {P : Program} {hp hp' : List Blk} {tm tm' : List AV} {o : Oper} {ops : Array Oper} {Ev : Env P} {X : CX Ev.β} {s : RS} {b : Ev.β}

theorem setB_self {x : Operand} {v : Bool} (h : evalA tm x = .d (.s (.bool v))) : setB tm x v = tm := by
  cases x with
  | tmp t =>
    simp only [evalA, List.getD] at h
    simp only [setB]
    cases ht : tm[t]? with
    | none => rw [ht] at h; cases h
    | some y => rw [ht] at h; simp only [Option.getD_some] at h; subst h; exact list_set_self ht
  | _ => rfl

theorem guardC_sound {A B : List AV → Prop} (h : guardC ops o tm A B) : (wantedA ops o tm = some true ∧ A tm) ∨ (wantedA ops o tm = some false ∧ B tm) := by
  unfold guardC at h
  unfold wantedA
  split at h
  · rename_i hg; rw [hg]; exact .inl ⟨rfl, h⟩
  · rename_i j want hg
    rw [hg]
    split at h
    · rename_i t ht
      split at h
      · rename_i bb hb
        simp only [ht, hb]
        have hs : setB tm (.tmp t) bb = tm := setB_self hb
        rcases h.elim with ⟨rfl, h⟩ | ⟨rfl, h⟩ <;> rw [hs] at h <;> cases want <;> simp only [Bool.false_eq_true, if_true, if_false] at h
        · exact .inr ⟨rfl, h⟩
        · exact .inl ⟨rfl, h⟩
        · exact .inl ⟨rfl, h⟩
        · exact .inr ⟨rfl, h⟩
      · rename_i vs hb
        simp only [ht, hb]
        exact .inr ⟨trivial, h⟩
      · exact h.elim
    · exact h.elim

theorem pickO_cond {t : Bool} {x y : AV} (h : pickO tm o = some (t, x, y)) : setB tm (condOf o) t = tm := by
  unfold pickO at h
  split at h <;> try (cases h; done)
  rename_i c a b ho
  split at h <;> try (cases h; done)
  rename_i t' hc
  cases h
  simp only [condOf, ho]
  exact setB_self hc

theorem pickO_body {pv : List (Nat × Loc)} {t : Bool} {x y : AV} (h : pickO tm o = some (t, x, y)) : bodyX P ⟨tm, hp, pv⟩ o = some ⟨putA tm o.dst (if t then x else y), hp, pvPut pv o.dst⟩ := by
  unfold pickO at h
  split at h <;> try (cases h; done)
  rename_i c a b ho
  split at h <;> try (cases h; done)
  rename_i t' hc
  cases h
  have h1 : xa P ⟨tm, hp, pv⟩ o = none := by simp [xa, ho]
  have h2 : xh P noCall ⟨tm, hp, pv⟩ o = none := by simp [xh, ho]
  have h3 : pvRead P ⟨tm, hp, pv⟩ o = none := by
    unfold pvRead
    rw [ho]
    cases o.dst <;> rfl
  simp only [bodyX, h1, h2, h3]
  simp [xq, ho, hc]

theorem xStep_body (hw : wantedA ops o s.tm = some true) : xStep P noCall ops s o = bodyX P s o := by
  simp only [xStep, hw, bodyX]
  cases xa P s o with
  | some s1 => rfl
  | none => cases xh P noCall s o with
    | some s1 => rfl
    | none => cases xq P s.hp (evalA s.tm) o <;> rfl

theorem restC_sound {K : RS → Prop} (h : restC P s o K) : ∃ s', bodyX P s o = some s' ∧ K s' := by
  unfold restC at h
  split at h
  · rename_i s' hs; exact ⟨s', hs, h⟩
  · exact h.elim

theorem appendC_sound {c : Call} {K : RS → Prop} (ho : o.op = .call c) (h : appendC P s o c K) : ∃ s', bodyX P s o = some s' ∧ K s' := by
  unfold appendC at h
  split at h
  · rename_i x y hcal hx hy
    split at h
    · rename_i e' i hi
      split at h
      · rename_i ys hys
        split at h
        · rename_i loc e k xs hacc
          obtain ⟨hc, hK⟩ := h.elim'
          simp only [Bool.and_eq_true, decide_eq_true_eq] at hc
          obtain ⟨⟨⟨h1, h2⟩, h3⟩, h4⟩ := hc
          refine ⟨_, ?_, hK⟩
          unfold accOf at hacc
          split at hacc <;> try (cases hacc; done)
          rename_i t
          split at hacc <;> try (cases hacc; done)
          rename_i loc' hl
          split at hacc <;> try (cases hacc; done)
          rename_i e1 k1 xs1 hown
          cases hacc
          simp only [bodyX, xa, ho, hcal, hx, hy, h3, hl, hown, hi, hys, if_true]
          rw [if_pos ⟨h1, h2, h4⟩]
        · rename_i hacc
          rcases h.elim with ⟨hc, h⟩ | ⟨hc, h⟩
          · obtain ⟨h4, hK⟩ := h.elim'
            simp only [Bool.and_eq_true, decide_eq_true_eq] at hc h4
            refine ⟨_, ?_, hK⟩
            have hxa : xa P s o = none := by
              simp only [xa, ho, hcal, hx, hy]
              split <;> try rfl
              rename_i t y' _ e1 e2
              cases e1; cases e2
              split <;> try rfl
              split <;> try rfl
              rename_i loc hl
              split <;> try rfl
              rename_i e k xs e1 i1 hown hi1
              exfalso
              simp only [accOf, hl, hown] at hacc
              cases hacc
            have hxh : xh P noCall s o = none := by simp [xh, ho, hcal]
            have hxq : xq P s.hp (evalA s.tm) o = some (.own e' i.size ys) := by
              simp only [xq, ho, hcal, hx, hy, hc.2, if_true, xAppendQ, hi, hys, hc.1]
              rw [if_pos h4]
            simp only [bodyX, hxa, hxh, hxq]
          · split at h
            · rename_i k xs hfull
              rcases h.elim with ⟨hc, h⟩ | ⟨_, h⟩
              · obtain ⟨h4, h⟩ := h.elim'
                simp only [Bool.and_eq_true, decide_eq_true_eq] at hc h4
                have hxa : xa P s o = none := by
                  simp only [xa, ho, hcal, hx, hy]
                  split <;> try rfl
                  rename_i t y' _ e1 e2
                  cases e1; cases e2
                  split <;> try rfl
                  split <;> try rfl
                  rename_i loc hl
                  split <;> try rfl
                  rename_i e k xs e1 i1 hown hi1
                  exfalso
                  simp only [accOf, hl, hown] at hacc
                  cases hacc
                have hxh : xh P noCall s o = none := by simp [xh, ho, hcal]
                rcases h.elim with ⟨he, hK⟩ | ⟨he, hK⟩
                · have hxq : xq P s.hp (evalA s.tm) o = some (.full k xs) := by
                    simp only [xq, ho, hcal, hx, hy, hc.2, if_true, xAppendQ, hi, hys, hfull, isNilSlice]
                    rw [if_neg (by simp), if_pos ⟨hc.1, h4⟩, if_pos he]
                  exact ⟨_, by simp only [bodyX, hxa, hxh, hxq], hK⟩
                · have hxq : xq P s.hp (evalA s.tm) o = some (.own e' k (xs ++ ys)) := by
                    simp only [xq, ho, hcal, hx, hy, hc.2, if_true, xAppendQ, hi, hys, hfull, isNilSlice]
                    rw [if_neg (by simp), if_pos ⟨hc.1, h4⟩, if_neg (by simp [he])]
                  exact ⟨_, by simp only [bodyX, hxa, hxh, hxq], hK⟩
              · exact restC_sound h
            · exact restC_sound h
      · exact restC_sound h
    · exact restC_sound h
  · exact restC_sound h

theorem copyC_sound {c : Call} {K : RS → Prop} (ho : o.op = .call c) (hc : c.callee = .builtin .copy) (h : copyC P s o c K) : ∃ s', bodyX P s o = some s' ∧ K s' := by
  unfold copyC at h
  split at h
  · rename_i x y hx hy
    split at h
    · rename_i g off n cap k k' xs hd hs
      split at h
      · rename_i t ht
        split at h
        · rename_i e hu
          split at h
          · rename_i i blk hi hblk
            obtain ⟨hcond, h⟩ := h.elim'
            simp only [Bool.and_eq_true, decide_eq_true_eq, Bool.not_eq_true'] at hcond
            obtain ⟨⟨⟨⟨⟨⟨⟨h1, h2⟩, h3⟩, h4⟩, h5⟩, h6⟩, h7⟩, h8⟩ := hcond
            obtain ⟨row, hrow, h⟩ := (shape_sound P 400).2 _ _ h
            obtain ⟨hone, hK⟩ := h.elim'
            refine ⟨_, ?_, hK⟩
            have hxa : xa P s o = none := by simp [xa, ho, hc]
            have hsrc : srcCells s.hp (evalA s.tm y) = some (xs.map fun r => AV.d (r.headD (.s undef))) := by
              have hr := hs
              unfold srcCells
              have hnil : isNilSlice (evalA s.tm y) = false := by
                unfold isNilSlice
                split
                · rename_i he; rw [he] at hr; cases hr
                · rfl
              rw [hnil]
              simp only [Bool.false_eq_true, if_false]
              split
              · rename_i he; rw [he] at hr; cases hr
              · rw [hs]; simp only [h5, if_true]
            have htake : (xs.map fun r => AV.d (r.headD (.s undef))).take n = (xs.take n).map fun r => AV.d (r.headD (.s undef)) := by rw [List.map_take]
            have hlen : ((xs.take n).map fun r => AV.d (r.headD (.s undef))).length = min n xs.length := by simp
            have hall : (((xs.map fun r => AV.d (r.headD (.s undef))).take n).all AV.one) = true := by
              rw [htake]
              rw [← hrow, List.all_append, Bool.and_eq_true] at hone
              exact hone.1
            have hcopy : xCopy P s.hp c.argTypes (evalA s.tm x) (evalA s.tm y) = some (.d (.s (goInt (min n xs.length : Nat))), s.hp.set g { blk with cells := blk.cells.take off ++ row.map AV.d ++ blk.cells.drop (off + n) }) := by
              unfold xCopy
              simp only [ht, hu, hi, hd, hsrc, hblk]
              rw [if_pos ⟨h2, h3, h4, h6, h7, hall, h8⟩, htake, hlen]
              congr 4
              rw [← hrow, List.append_assoc, List.append_assoc, List.append_assoc]
              congr 2
              have e1 : blk.cells.drop (off + min n xs.length) = (blk.cells.drop off).drop (min n xs.length) := by rw [List.drop_drop]
              have e2 : blk.cells.drop (off + n) = (blk.cells.drop off).drop n := by rw [List.drop_drop]
              rw [e1, e2]
              conv => lhs; rw [← List.take_append_drop n (blk.cells.drop off)]
              rw [List.drop_append_of_le_length]
              simp only [List.length_take, List.length_drop]
              omega
            have hxh : xh P noCall s o = some { tm := putA s.tm o.dst (.d (.s (goInt (min n xs.length : Nat)))), hp := s.hp.set g { blk with cells := blk.cells.take off ++ row.map AV.d ++ blk.cells.drop (off + n) }, pv := [] } := by
              simp only [xh, ho, hc, hx, hy, h1, if_true, hcopy]
            simp only [bodyX, hxa, hxh]
          · exact h.elim
        · exact h.elim
      · exact h.elim
    · exact restC_sound h
  · exact restC_sound h

theorem valG_xa {K : AV → Prop} {p : Prop} (h : valG P s.hp s.tm o K = some p) : xa P s o = none ∧ xh P noCall s o = none := by
  unfold valG at h
  split at h
  · rename_i ho; exact ⟨by simp [xa, ho], by simp [xh, ho]⟩
  · rename_i ho; exact ⟨by simp [xa, ho], by simp [xh, ho]⟩
  · rename_i ho; exact ⟨by simp [xa, ho], by simp [xh, ho]⟩
  · rename_i c ho
    split at h <;> try (cases h; done)
    rename_i x hc hx0
    exact ⟨by simp [xa, ho, hc], by simp [xh, ho, hc]⟩
  · cases h

theorem bodyC_sound {K : RS → Prop} (h : bodyC P s o K) : ∃ s', bodyX P s o = some s' ∧ K s' := by
  unfold bodyC at h
  split at h
  · rename_i p hv
    obtain ⟨x, hx, hK⟩ := valG_sound hv h
    obtain ⟨h1, h2⟩ := valG_xa hv
    exact ⟨_, by simp only [bodyX, h1, h2, hx], hK⟩
  split at h
  · rename_i t x y hp'
    have hs := pickO_cond hp'
    rcases h.elim with ⟨rfl, hK⟩ | ⟨rfl, hK⟩
    · rw [hs] at hK; exact ⟨_, pickO_body hp', hK⟩
    · rw [hs] at hK; exact ⟨_, pickO_body hp', hK⟩
  · split at h
    · rename_i hq
      obtain ⟨x, hx, hK⟩ := valC_sound h
      refine ⟨_, ?_, hK⟩
      have hxa : xa P s o = none := by
        unfold xa
        split <;> try rfl
        rename_i c ho; rw [ho] at hq; cases hq
      have hxh : xh P noCall s o = none := by
        unfold xh
        split <;> first | rfl | (rename_i ho; rw [ho] at hq; cases hq)
      simp only [bodyX, hxa, hxh, hx]
    · split at h
      · rename_i c ho
        split at h
        · rename_i hc; exact copyC_sound ho hc h
        · exact appendC_sound ho h
      · exact restC_sound h

mutual
theorem sealC_sound : ∀ {x : AV} {K : AV → Prop}, sealC hp x K → ∃ y, SealR hp x y ∧ K y
  | .gref g ver n k, K, h => by
    simp only [sealC] at h
    split at h
    · rename_i blk hb
      obtain ⟨hg, hv, xs, h1, h2, h3, hK⟩ := h.elim'
      exact ⟨_, .gref hb hg hv h1 h2 h3, hK⟩
    · exact h.elim
  | .agg cs, K, h => by
    simp only [sealC] at h
    obtain ⟨ys, hl, hs, hK⟩ := sealCs_sound h
    exact ⟨_, .agg hl hs, hK⟩
  | .tup cs, K, h => by
    simp only [sealC] at h
    obtain ⟨ys, hl, hs, hK⟩ := sealCs_sound h
    exact ⟨_, .tup hl hs, hK⟩
  | .fn f a b, K, h => by
    simp only [sealC] at h
    obtain ⟨ys, hl, hs, h2⟩ := sealCs_sound h
    obtain ⟨zs, hl', hs', hK⟩ := sealCs_sound h2
    exact ⟨_, .fn hl hl' hs hs', hK⟩
  | .own e k xs, K, h => ⟨.d (.sl k xs), .v (by simp [sealV]), by simpa only [sealC] using h⟩
  | .ref g off n cap k, K, h => by
    simp only [sealC] at h
    split at h
    · rename_i y hy; exact ⟨y, .v hy, h⟩
    · exact h.elim
  | .ptr g off, K, h => by
    simp only [sealC] at h
    split at h
    · rename_i y hy; exact ⟨y, .v hy, h⟩
    · exact h.elim
  | .gptr .., K, h => by simp only [sealC] at h
  | .yl, K, h => by simp only [sealC] at h
  | .d x, K, h => ⟨.d x, .v (by simp [sealV]), by simpa only [sealC] using h⟩
  | .full k xs, K, h => ⟨.full k xs, .v (by simp [sealV]), by simpa only [sealC] using h⟩
  | .rptr cs, K, h => ⟨.rptr cs, .v (by simp [sealV]), by simpa only [sealC] using h⟩
  | .bad, K, h => ⟨.bad, .v (by simp [sealV]), by simpa only [sealC] using h⟩
theorem sealCs_sound : ∀ {cs : List AV} {K : List AV → Prop}, sealCs hp cs K → ∃ ys, cs.length = ys.length ∧ (∀ (i : Nat) (c y : AV), cs[i]? = some c → ys[i]? = some y → SealR hp c y) ∧ K ys
  | [], K, h => ⟨[], rfl, fun i c y h => by simp at h, by simpa only [sealCs] using h⟩
  | x :: l, K, h => by
    simp only [sealCs] at h
    obtain ⟨y, hy, h2⟩ := sealC_sound h
    obtain ⟨ys, hl, hs, hK⟩ := sealCs_sound h2
    refine ⟨y :: ys, by simp [hl], fun i c z h3 h4 => ?_, hK⟩
    cases i with
    | zero => simp at h3 h4; subst h3; subst h4; exact hy
    | succ i => exact hs i c z (by simpa using h3) (by simpa using h4)
end

theorem frzTm_refl (gs : List Nat) : ∀ l : List AV, FrzTm hp gs l l
  | [] => trivial
  | x :: l => ⟨.inl rfl, frzTm_refl gs l⟩
/-- temporaries that are not named keep their readings -/
theorem sealTs_sound {gs : List Nat} {tm0 : List AV} : ∀ {ts : List Nat} {tm : List AV} {K : List AV → Prop}, sealTs hp ts tm K → ts.Nodup → FrzTm hp gs tm0 tm → (∀ t ∈ ts, tm.getD t .bad = tm0.getD t .bad) → (∀ t ∈ ts, ∀ g ∈ occ (tm0.getD t .bad), g ∈ gs) →
    ∃ tm1, FrzTm hp gs tm0 tm1 ∧ K tm1
  | [], tm, K, h, _, hf, _, _ => ⟨tm, hf, h⟩
  | t :: ts, tm, K, h, hnd, hf, hsame, hocc => by
    simp only [sealTs] at h
    obtain ⟨y, hy, h⟩ := sealC_sound h
    rcases h.elim with ⟨_, h⟩ | ⟨ho, h⟩
    · exact h.elim
    obtain ⟨hn1, hn2⟩ := List.nodup_cons.1 hnd
    have hset : FrzTm hp gs tm0 (tm.set t y) := by
      have key : ∀ (l l' : List AV) (t : Nat), FrzTm hp gs l l' → (t < l.length → SealR hp (l.getD t .bad) y ∧ ∀ g ∈ occ (l.getD t .bad), g ∈ gs) → FrzTm hp gs l (l'.set t y) := by
        intro l
        induction l with
        | nil =>
          intro l' t h _
          cases l' with
          | nil => exact trivial
          | cons _ _ => exact h.elim
        | cons x l ih =>
          intro l' t h hs
          cases l' with
          | nil => exact h.elim
          | cons z l' =>
            cases t with
            | zero =>
              have := hs (by simp)
              exact ⟨.inr ⟨by simpa using this.1, by simpa using this.2, ho⟩, h.2⟩
            | succ t => exact ⟨h.1, ih l' t h.2 fun ht => by simpa using hs (by simpa using ht)⟩
      refine key tm0 tm t hf fun ht => ⟨?_, hocc t (List.mem_cons_self ..)⟩
      rw [← hsame t (List.mem_cons_self ..)]; exact hy
    refine sealTs_sound h hn2 hset (fun t' ht' => ?_) fun t' ht' => hocc t' (List.mem_cons_of_mem _ ht')
    have hne : t ≠ t' := fun he => hn1 (he ▸ ht')
    rw [← hsame t' (List.mem_cons_of_mem _ ht')]
    simp [List.getD, List.getElem?_set_ne hne]

theorem FrzTm.at {gs : List Nat} : ∀ {l l' : List AV} {t : Nat} {x : Dv}, FrzTm hp gs l l' → l.getD t .bad = .d x → l'.getD t .bad = .d x
  | [], [], _, _, _, h => h
  | [], _ :: _, _, _, h, _ => h.elim
  | _ :: _, [], _, _, h, _ => h.elim
  | y :: l, z :: l', 0, x, h, hx => by
    simp only [List.getD_cons_zero] at hx ⊢
    subst hx
    rcases h.1 with rfl | ⟨h1, _⟩
    · rfl
    · cases h1 with
      | v h1 => simp only [sealV, Option.some.injEq] at h1; exact h1.symm
  | y :: l, z :: l', t + 1, x, h, hx => by
    simp only [List.getD_cons_succ] at hx ⊢
    exact FrzTm.at h.2 hx
theorem wantedA_frz {gs : List Nat} {tm tm' : List AV} {v : Bool} (h : FrzTm hp gs tm tm') (hw : wantedA ops o tm = some v) : wantedA ops o tm' = some v := by
  unfold wantedA at hw ⊢
  split at hw
  · exact hw
  · rename_i j want hg
    split at hw <;> try (cases hw; done)
    rename_i t ht
    split at hw <;> try (cases hw; done)
    · rename_i b hb
      simp only [h.at hb]; exact hw
    · rename_i b hb
      simp only [h.at hb]; exact hw
theorem frzC_sound {pc : Nat → Bool} {K : RS → Prop} (h : frzC pc s o K) (hnd : (needFrz pc s o).Nodup) : ∃ s0, FrzOk s s0 ∧ (∀ v, wantedA ops o s.tm = some v → wantedA ops o s0.tm = some v) ∧ K s0 := by
  unfold frzC at h
  split at h
  · exact ⟨s, .rfl, fun _ h => h, h⟩
  · rename_i t ts hn
    rw [hn] at hnd
    obtain ⟨tm1, hf, hK⟩ := sealTs_sound (gs := occs ((t :: ts).map fun t => s.tm.getD t .bad)) (tm0 := s.tm) h hnd (frzTm_refl _ _) (fun _ _ => rfl) fun t' ht' g hg => by
      obtain ⟨j, hj⟩ := List.mem_iff_getElem?.1 ht'
      exact occs_get (i := j) (by rw [List.getElem?_map, hj]; rfl) g hg
    exact ⟨_, frz_ok hf, fun v hw => wantedA_frz hf hw, hK⟩

theorem nodup_eraseDups (l : List Nat) : l.eraseDups.Nodup := by
  have key : ∀ (n : Nat) (l : List Nat), l.length ≤ n → l.eraseDups.Nodup := by
    intro n
    induction n with
    | zero => intro l h; have : l = [] := List.length_eq_zero_iff.1 (by omega); subst this; simp
    | succ n ih =>
      intro l h
      cases l with
      | nil => simp
      | cons a l =>
        rw [List.eraseDups_cons]
        refine List.nodup_cons.2 ⟨?_, ih _ ?_⟩
        · rw [List.mem_eraseDups]; simp
        · have := List.length_filter_le (fun b => !b == a) l
          simp only [List.length_cons] at h; omega
  exact key l.length l (Nat.le_refl _)
theorem needFrz_nodup (pc : Nat → Bool) (s : RS) (o : Oper) : (needFrz pc s o).Nodup := by
  unfold needFrz
  split
  · split
    · split
      · split
        · exact nodup_eraseDups _
        · simp
      · simp
    · split
      · unfold leans
        split
        · split <;> simp
        · simp
      · simp
    · simp
  · exact nodup_eraseDups _
  · simp

theorem extC_sound {gt : Nat → Bool} {K : RS → Prop} {p : Prop} (h : extC P gt s o K = some p) (hp0 : p) : ∃ s', ExtOk P o s s' ∧ K s' := by
  unfold extC at h
  split at h
  · rename_i c ho
    split at h <;> try (cases h; done)
    rename_i x y hc h0 h1
    split at h <;> try (cases h; done)
    rename_i e i hinf
    split at h
    · rename_i g ver n k hx
      split at h <;> try (cases h; done)
      rename_i blk ys hg hys
      cases h
      obtain ⟨hcc, hv, h2⟩ := hp0.elim'
      obtain ⟨hfit, hK⟩ := h2.elim'
      simp only [Bool.and_eq_true, decide_eq_true_eq, Bool.not_eq_true'] at hcc hfit
      obtain ⟨⟨⟨hsz, rfl⟩, hgr⟩, hf⟩ := hcc
      exact ⟨_, ext_append ho hc hsz h0 h1 hinf hx hys hg hgr hv hf hfit, hK⟩
    · split at h <;> try (cases h; done)
      rename_i hgt
      split at h <;> try (cases h; done)
      rename_i ys hys
      cases h
      obtain ⟨hcc, h2⟩ := hp0.elim'
      simp only [Bool.and_eq_true, decide_eq_true_eq, Bool.or_eq_true] at hcc hgt
      have hbase : isNilSlice (evalA s.tm x) = true ∨ evalA s.tm x = .full i.size [] := by
        rcases hgt.2 with h3 | h3
        · exact .inl h3
        · right
          unfold isFull0 at h3
          split at h3
          · rename_i k hk; rw [hk]; simp only [decide_eq_true_eq] at h3; rw [h3]
          · cases h3
      rcases h2.elim with ⟨hpos, hK⟩ | ⟨hpos, hK⟩
      · have hpos : 0 < ys.length := by simpa using hpos
        exact ⟨_, ext_first ho hc hcc.1 h0 h1 hinf hbase hys (List.length_pos_iff.1 hpos) hcc.2, hK⟩
      · have hpos : ys = [] := by
          have : ¬ 0 < ys.length := by simpa using hpos
          exact List.length_eq_zero_iff.1 (by omega)
        subst hpos
        exact ⟨_, ext_zero ho hc hcc.1 h0 h1 hinf hbase hys, hK⟩
  · rename_i t lo co ho
    split at h <;> try (cases h; done)
    rename_i e hu
    split at h <;> try (cases h; done)
    split at h <;> try (cases h; done)
    rename_i kl l kc c i hl hc hi
    split at h <;> try (cases h; done)
    rename_i zr hz
    cases h
    obtain ⟨hcc, hK⟩ := hp0.elim'
    simp only [Bool.and_eq_true, decide_eq_true_eq] at hcc
    obtain ⟨⟨⟨⟨⟨⟨a1, a2⟩, a3⟩, a4⟩, a5⟩, a6⟩, a7⟩ := hcc
    exact ⟨_, ext_make ho hu hi hl hc hz a1 a2 a3 a4 a5 a6 a7, hK⟩
  · rename_i t ax x ho
    split at h <;> try (cases h; done)
    rename_i g ver off hax
    split at h <;> try (cases h; done)
    rename_i i blk xs hi hg hxs
    cases h
    obtain ⟨hcc, hv, h2⟩ := hp0.elim'
    obtain ⟨hoff, hK⟩ := h2.elim'
    simp only [Bool.and_eq_true, decide_eq_true_eq, Bool.not_eq_true'] at hcc hoff
    exact ⟨_, ext_store ho hi hax hxs hg hcc.1.1 hcc.1.2 hv hcc.2 hoff, hK⟩
  · cases h

theorem opC_sound {K : RS → Ev.β → Prop} {R : RS → Ev.β → Prop} {l : List Oper} (hX : X.Ok) (h : opC P X ops o s b K) (hK : ∀ s' b', K s' b' → wOps Ev ops l s' b' R) : wOps Ev ops (o :: l) s b R := by
  unfold opC at h
  rcases guardC_sound h with ⟨hw0, h⟩ | ⟨hw, h⟩
  · obtain ⟨s0, hfz, hgd, h⟩ := frzC_sound h (needFrz_nodup _ _ _)
    have hw : wantedA ops o s0.tm = some true := hgd _ hw0
    refine ⟨s0, hfz, ?_⟩
    split at h
    · rename_i k args hc
      split at h
      · rename_i f hf
        obtain ⟨hcl, h⟩ := h.elim'
        obtain ⟨x, hp, h⟩ := hX.call k f hf args _ h
        exact .inr (.inl ⟨hw, k, args, hc, .inl ⟨hcl, x, hp, hK _ _ h⟩⟩)
      · split at h
        · rename_i f hf
          obtain ⟨x, hp', hp, h⟩ := hX.scall k f hf args _ _ h
          exact .inr (.inl ⟨hw, k, args, hc, .inr ⟨x, hp', hp, hK _ _ h⟩⟩)
        · exact h.elim
    · split at h
      · rename_i args hy
        obtain ⟨hcl, h⟩ := h.elim'
        rw [hX.y] at h
        exact .inr (.inr (.inl ⟨hw, args, hy, hcl, Ev.Ymono h fun _ _ h => hK _ _ h⟩))
      · split at h
        · rename_i p hpx
          obtain ⟨s', he, h⟩ := extC_sound hpx h
          exact .inr (.inr (.inr ⟨hw, s', he, hK _ _ h⟩))
        · obtain ⟨s', hs, h⟩ := bodyC_sound h
          exact .inl ⟨s', by rw [xStep_body hw]; exact hs, hK _ _ h⟩
  · exact ⟨s, .rfl, .inl ⟨_, by simp only [xStep, hw], hK _ _ h⟩⟩

theorem opsC_sound (hX : X.Ok) {R : RS → Ev.β → Prop} : ∀ {l : List Oper} {s : RS} {b : Ev.β} {K : RS → Ev.β → Prop}, opsC P X ops l s b K → (∀ s' b', K s' b' → R s' b') → wOps Ev ops l s b R
  | [], s, b, K, h, hK => hK _ _ h
  | o :: l, s, b, K, h, hK => opC_sound hX h fun s' b' h => opsC_sound hX h hK

/-! ### the pure operations of a region that draws its order -/
open Classical in
noncomputable def tblD (tb : Tbl) : CallT :=
  ⟨fun d k args => match tb.find? (fun t => t.1 == d) with
    | some t => if t.2.1 = k ∧ t.2.2.1 = args then some t.2.2.2 else none
    | none => none, fun _ _ _ => none⟩

theorem tblD_ok {tb : Tbl} (h : ∀ t ∈ tb, PCall P t.2.1 t.2.2.1 t.2.2.2) : CallOk P (tblD tb) := by
  refine ⟨fun d f args r hr => ?_, fun _ _ _ _ _ h => by cases h⟩
  simp only [tblD] at hr
  split at hr <;> try (cases hr; done)
  rename_i t ht
  split at hr <;> try (cases hr; done)
  rename_i hc
  cases hr
  have := h t (List.mem_of_find?_eq_some ht)
  rw [hc.1, hc.2] at this; exact this

theorem xp_other {call : CallT} {x : AV} (hw : wantedA ops o tm = some true) (hx : xq P hp (evalA tm) o = some x) : xp P call ops hp tm o = some x := by
  unfold xp
  rw [hw]
  simp only
  split
  · rename_i c ho
    split
    · rename_i f hc
      simp [xq, ho, hc] at hx
    · exact hx
  · exact hx

theorem find_of_nodup : ∀ {T : Tbl}, (T.map (·.1)).Nodup → ∀ t ∈ T, T.find? (fun e => e.1 == t.1) = some t
  | [], _, t, h => by cases h
  | e :: T, hn, t, h => by
    simp only [List.map_cons, List.nodup_cons] at hn
    rcases List.mem_cons.1 h with rfl | h
    · simp
    · have hne : ¬ e.1 = t.1 := fun he => hn.1 (he ▸ List.mem_map.2 ⟨t, h, rfl⟩)
      rw [List.find?_cons_of_neg (by simpa using hne)]
      exact find_of_nodup hn.2 t h

theorem preC_sound (hX : X.Ok) : ∀ {l : List Oper} {tm : List AV} {tb : Tbl} {K : List AV → Tbl → Prop}, preC P X ops hp l tm tb K →
    ∃ tmK tb', K tmK tb' ∧ (∀ t ∈ tb, t ∈ tb') ∧ ((∀ t ∈ tb, PCall P t.2.1 t.2.2.1 t.2.2.2) → ∀ t ∈ tb', PCall P t.2.1 t.2.2.1 t.2.2.2) ∧ ∀ T : Tbl, (∀ t ∈ tb', T.find? (fun e => e.1 == t.1) = some t) → xPre P (tblD T) ops hp l tm = some tmK
  | [], tm, tb, K, h => ⟨tm, tb, h, fun _ h => h, fun h => h, fun _ _ => rfl⟩
  | o :: l, tm, tb, K, h => by
    simp only [preC] at h
    rcases guardC_sound h with ⟨hw, h⟩ | ⟨hw, h⟩
    · split at h
      · rename_i k args hc
        split at h
        · rename_i f hf
          obtain ⟨hcl, h⟩ := h.elim'
          obtain ⟨x, hpc, h⟩ := hX.call k f hf args _ h
          obtain ⟨tmK, tb', h1, h2, h3, h4⟩ := preC_sound hX h
          refine ⟨tmK, tb', h1, fun t ht => h2 t (List.mem_cons_of_mem _ ht), fun hall => h3 fun t ht => ?_, fun T hT => ?_⟩
          · rcases List.mem_cons.1 ht with rfl | ht
            · exact hpc
            · exact hall t ht
          · have hf' := hT _ (h2 _ (List.mem_cons_self ..))
            have hxp : xp P (tblD T) ops hp tm o = some x.view := by
              unfold opCall at hc
              split at hc <;> try (cases hc; done)
              rename_i c ho
              split at hc <;> try (cases hc; done)
              rename_i f hcc
              unfold xp
              simp only [hw, ho, hcc, hc, hcl, if_true]
              simp only at hf'
              simp [tblD, hf']
            simp only [xPre, hxp]; exact h4 T hT
        · exact h.elim
      · split at h
        · rename_i t x y hpick
          have hxq : xq P hp (evalA tm) o = some (if t then x else y) := by
            unfold pickO at hpick
            split at hpick <;> try (cases hpick; done)
            rename_i c a b ho
            split at hpick <;> try (cases hpick; done)
            rename_i t'' hc
            cases hpick
            simp [xq, ho, hc]
          have hs := pickO_cond hpick
          rcases h.elim with ⟨rfl, h⟩ | ⟨rfl, h⟩ <;> rw [hs] at h
          · obtain ⟨tmK, tb', h1, h2, h3, h4⟩ := preC_sound hX h
            exact ⟨tmK, tb', h1, h2, h3, fun T hT => by simp only [xPre, xp_other hw hxq]; exact h4 T hT⟩
          · obtain ⟨tmK, tb', h1, h2, h3, h4⟩ := preC_sound hX h
            exact ⟨tmK, tb', h1, h2, h3, fun T hT => by simp only [xPre, xp_other hw hxq]; exact h4 T hT⟩
        · obtain ⟨x, hxq, h⟩ := valC_sound h
          obtain ⟨tmK, tb', h1, h2, h3, h4⟩ := preC_sound hX h
          exact ⟨tmK, tb', h1, h2, h3, fun T hT => by simp only [xPre, xp_other hw hxq]; exact h4 T hT⟩
    · obtain ⟨tmK, tb', h1, h2, h3, h4⟩ := preC_sound hX h
      refine ⟨tmK, tb', h1, h2, h3, fun T hT => ?_⟩
      have : xp P (tblD T) ops hp tm o = some (.d (.s undef)) := by unfold xp; rw [hw]
      simp only [xPre, this]; exact h4 T hT

/-! ### what stores leave alone -/
def hdr (blk : Blk) : Bool × Nat × Nat := (blk.grow, blk.ver, blk.cells.length)

/-- blocks before and behind stores -/
structure Sim (fp : List (Nat × Nat × Nat)) (h h' : List Blk) : Prop where
  hd : h'.map hdr = h.map hdr
  same : ∀ (g : Nat) (blk blk' : Blk) (i : Nat), h[g]? = some blk → h'[g]? = some blk' → apartB fp g i 1 = true → blk'.cells[i]? = blk.cells[i]?

theorem Sim.refl (fp : List (Nat × Nat × Nat)) (h : List Blk) : Sim fp h h := ⟨rfl, fun g blk blk' i h1 h2 _ => by rw [h1] at h2; cases h2; rfl⟩

theorem Sim.at {fp : List (Nat × Nat × Nat)} {h h' : List Blk} (hs : Sim fp h h') (g : Nat) : (h'[g]?).map hdr = (h[g]?).map hdr := by
  have := congrArg (fun l => l[g]?) hs.hd
  simpa using this

theorem apartB_tail {fp : List (Nat × Nat × Nat)} {q : Nat × Nat × Nat} {g i n : Nat} (h : apartB (q :: fp) g i n = true) : apartB fp g i n = true := by
  simp only [apartB, List.all_cons, Bool.and_eq_true] at h
  exact h.2

theorem Sim.weaken {fp : List (Nat × Nat × Nat)} {q : Nat × Nat × Nat} {h h' : List Blk} (hs : Sim fp h h') : Sim (q :: fp) h h' := ⟨hs.hd, fun g blk blk' i h1 h2 h3 => hs.same g blk blk' i h1 h2 (apartB_tail h3)⟩

theorem xLates_sim {l : List Oper} : ∀ {h0 h : List Blk} {hps : List (List Blk)}, xLates P tm l h = some hps → ∀ fp0, Sim fp0 h0 h → ∀ h' ∈ hps, Sim (fp0 ++ storeFps tm l) h0 h' := by
  induction l with
  | nil =>
    intro h0 h hps hx fp0 hs h' hh
    simp only [xLates, Option.some.injEq] at hx
    subst hx
    rw [List.mem_singleton.1 hh]
    simpa [storeFps] using hs
  | cons o l ih =>
    intro h0 h hps hx fp0 hs h' hh
    simp only [xLates] at hx
    split at hx <;> try (cases hx; done)
    rename_i h1 hl
    simp only [Option.map_eq_some_iff] at hx
    obtain ⟨hps', hx, rfl⟩ := hx
    -- the store
    unfold xLate at hl
    split at hl <;> try (cases hl; done)
    rename_i t a x ho hg hd
    split at hl <;> try (cases hl; done)
    rename_i hown
    split at hl <;> try (cases hl; done)
    rename_i xs hxs
    unfold xStore at hl
    split at hl <;> try (cases hl; done)
    rename_i i g off hi ha
    split at hl <;> try (cases hl; done)
    rename_i blk hblk
    split at hl <;> try (cases hl; done)
    rename_i hc
    cases hl
    have e : storeFps tm (o :: l) = (g, off, xs.length) :: storeFps tm l := by simp only [storeFps, ho, ha, hxs]
    rw [e]
    have hgl : g < h.length := (List.getElem?_eq_some_iff.1 hblk).1
    have hs1 : Sim (fp0 ++ [(g, off, xs.length)]) h0 (h.set g { blk with cells := blk.cells.take off ++ xs ++ blk.cells.drop (off + xs.length) }) := by
      refine ⟨?_, fun g' b0 b1 j e1 e2 e3 => ?_⟩
      · rw [← hs.hd, List.map_set]
        refine (list_set_self ?_)
        have hlen : (blk.cells.take off ++ xs ++ blk.cells.drop (off + xs.length)).length = blk.cells.length := by
          simp only [List.length_append, List.length_take, List.length_drop]; have := hc.2.2.2; omega
        simp only [List.getElem?_map, hblk, Option.map_some, hdr, hlen]
      · simp only [apartB, List.all_append, Bool.and_eq_true] at e3
        obtain ⟨e3, e4⟩ := e3
        by_cases hgg : g' = g
        · subst hgg
          rw [List.getElem?_set_self hgl] at e2
          cases e2
          simp only [List.all_cons, List.all_nil, Bool.and_true, bne_self_eq_false, Bool.false_or, Bool.or_eq_true, decide_eq_true_eq] at e4
          rw [← hs.same g' b0 blk j e1 hblk e3]
          simp only
          rcases e4 with e4 | e4
          · rw [List.getElem?_append_right (by simp; omega), List.getElem?_drop]
            congr 1
            simp only [List.length_append, List.length_take]; have := hc.2.2.2; omega
          · rw [List.append_assoc, List.getElem?_append_left (by simp; have := hc.2.2.2; omega), List.getElem?_take, if_pos (by omega)]
        · rw [List.getElem?_set_ne (Ne.symm hgg)] at e2
          exact hs.same g' b0 b1 j e1 e2 e3
    rcases List.mem_cons.1 hh with rfl | hh
    · have : ∀ fp1, Sim (fp0 ++ fp1) h0 h' := by
        intro fp1
        exact ⟨hs.hd, fun g blk blk' i h1 h2 h3 => hs.same g blk blk' i h1 h2 (by simp only [apartB, List.all_append, Bool.and_eq_true] at h3; exact h3.1)⟩
      exact this _
    · have := ih hx _ hs1 h' hh
      simpa using this

end
end Go.Proofs.YtkjmhfbjdeidjaaDoor.Am

/- What must be shown of code: it suffices: regions, code, functions. -/
namespace Go.Proofs.YtkjmhfbjdeidjaaDoor.Am
set_option linter.unusedVariables false
set_option linter.unusedSimpArgs false
open Go Go.RowKit

section
variable {P : Program} {hp hp' h h' : List Blk} {tm tm' : List AV} {o : Oper} {ops : Array Oper} {fp : List (Nat × Nat × Nat)}

theorem Sim.cases (hs : Sim fp h h') (g : Nat) : (h[g]? = none ∧ h'[g]? = none) ∨ ∃ b b', h[g]? = some b ∧ h'[g]? = some b' ∧ b'.grow = b.grow ∧ b'.ver = b.ver ∧ b'.cells.length = b.cells.length := by
  have := hs.at g
  cases h1 : h[g]? with
  | none =>
    rw [h1] at this
    simp only [Option.map_none, Option.map_eq_none_iff] at this
    exact .inl ⟨rfl, this⟩
  | some b =>
    rw [h1] at this
    simp only [Option.map_some, Option.map_eq_some_iff] at this
    obtain ⟨b', h2, h3⟩ := this
    simp only [hdr, Prod.mk.injEq] at h3
    exact .inr ⟨b, b', rfl, h2, h3⟩

theorem cellsAt_d (h h' : List Blk) (x : Dv) : cellsAt h' (.d x) = cellsAt h (.d x) := by
  cases x with
  | s v =>
    cases v <;> try rfl
    rename_i oa
    cases oa <;> rfl
  | sl k xs => rfl
theorem shiftPtr_d (h h' : List Blk) (x : Dv) (n : Nat) : shiftPtr h' (.d x) n = shiftPtr h (.d x) n := by
  cases x with
  | s v =>
    cases v <;> try rfl
    rename_i oa
    cases oa <;> rfl
  | sl k xs => rfl
theorem shiftPtr_sim (hs : Sim fp h h') (a : AV) (n : Nat) : shiftPtr h' a n = shiftPtr h a n := by
  cases a <;> first | exact shiftPtr_d _ _ _ _ | simp only [shiftPtr]
  · rename_i g off
    rcases hs.cases g with ⟨h1, h2⟩ | ⟨b, b', h1, h2, h3, h4, h5⟩
    · simp only [h1, h2]
    · simp only [h1, h2, h3]
  · rename_i g v off
    rcases hs.cases g with ⟨h1, h2⟩ | ⟨b, b', h1, h2, h3, h4, h5⟩
    · simp only [h1, h2]
    · simp only [h1, h2, h3, h4]

theorem fieldAddr_sim (hs : Sim fp h h') (t : TypeId) (a : AV) (f : Nat) : xFieldAddr P h' t a f = xFieldAddr P h t a f := by
  unfold xFieldAddr
  simp only [shiftPtr_sim hs]

theorem indexAddr_sim (hs : Sim fp h h') (t : TypeId) (a ix : AV) : xIndexAddr P h' t a ix = xIndexAddr P h t a ix := by
  unfold xIndexAddr
  simp only [shiftPtr_sim hs]
  split <;> try rfl
  split <;> try rfl
  cases a <;> try rfl
  rename_i g v l k
  simp only
  rcases hs.cases g with ⟨h1, h2⟩ | ⟨b, b', h1, h2, h3, h4, h5⟩
  · simp only [h1, h2]
  · simp only [h1, h2, h3, h4]

theorem len_sim (hs : Sim fp h h') (a : AV) : a.len? h' = a.len? h := by
  cases a
  case gref g v l k =>
    simp only [AV.len?]
    rcases hs.cases g with ⟨h1, h2⟩ | ⟨b, b', h1, h2, h3, h4, h5⟩
    · simp only [h1, h2]
    · simp only [h1, h2, h3, h4]
  all_goals first | rfl | (rename_i x; cases x <;> rfl)

theorem slice_sim (hs : Sim fp h h') (t : TypeId) (x : AV) (lo hi mx : Option AV) : xSlice P h' t x lo hi mx = xSlice P h t x lo hi mx := by
  unfold xSlice
  split <;> try rfl
  split <;> try rfl
  cases x <;> try rfl
  rename_i g off
  simp only
  rcases hs.cases g with ⟨h1, h2⟩ | ⟨b, b', h1, h2, h3, h4, h5⟩
  · simp only [h1, h2]
  · simp only [h1, h2, h3, h5]

theorem load_sim (hs : Sim fp h h') (t : TypeId) (a : AV) (hf : ∀ g off, a = .ptr g off → ∀ i, P.info? t = some i → apartB fp g off (max i.size 1) = true) (hg : ∀ g v off, a ≠ .gptr g v off) : xLoad P h' t a = xLoad P h t a := by
  unfold xLoad
  cases a <;> try rfl
  · rw [cellsAt_d h h']
  · rename_i g off
    simp only [cellsAt]
    rcases hs.cases g with ⟨h1, h2⟩ | ⟨b, b', h1, h2, h3, h4, h5⟩
    · simp only [h1, h2]
    · simp only [h1, h2, h3]
      cases hgr : b.grow
      · simp only [Bool.false_eq_true, if_false]
        unfold takeCs
        cases hi : P.info? t with
        | none => rfl
        | some i =>
          simp only
          have ha := hf g off rfl i hi
          have hcell : ∀ j, j < max i.size 1 → (b'.cells.drop off)[j]? = (b.cells.drop off)[j]? := by
            intro j hj
            simp only [List.getElem?_drop]
            refine hs.same g b b' (off + j) h1 h2 ?_
            simp only [apartB, List.all_eq_true, Bool.or_eq_true, bne_iff_ne, decide_eq_true_eq] at ha ⊢
            intro q hq
            rcases ha q hq with (h6 | h6) | h6
            · exact .inl (.inl h6)
            · exact .inl (.inr (by omega))
            · exact .inr (by omega)
          have hlen : (b'.cells.drop off).length = (b.cells.drop off).length := by simp [h5]
          have htake : (b'.cells.drop off).take i.size = (b.cells.drop off).take i.size := by
            apply List.ext_getElem?
            intro j
            simp only [List.getElem?_take]
            split
            · exact hcell j (by omega)
            · rfl
          rw [hlen, htake, hcell 0 (by omega)]
      · simp only [if_true]
  · exact absurd rfl (hg _ _ _)

theorem xq_sim (hs : Sim fp h h') (hf : frameB P tm fp o = true) (hk : pureKind o = true) : xq P h' (evalA tm) o = xq P h (evalA tm) o := by
  unfold frameB at hf
  unfold xq
  split <;> try rfl
  · rename_i t a ho
    simp only [ho] at hf
    refine load_sim hs t _ (fun g off he i hi => ?_) (fun g v off he => ?_)
    · rw [he] at hf; simp only [hi] at hf; exact hf
    · rw [he] at hf; cases hf
  · simp only [slice_sim hs]
  · simp only [fieldAddr_sim hs]
  · simp only [indexAddr_sim hs]
  · rename_i c ho
    split <;> try rfl
    simp only [xLen, len_sim hs]

theorem xp_sim {call : CallT} (hs : Sim fp h h') (hf : frameB P tm fp o = true) (hk : pureKind o = true) : xp P call ops h' tm o = xp P call ops h tm o := by
  unfold xp
  simp only [xq_sim hs hf hk]

theorem findN_spec {k : Nat} : ∀ {m n : Nat}, findN ops k m = some n → drawLateOk ops k n = true
  | 0, n, h => by simp [findN] at h
  | m + 1, n, h => by
    simp only [findN] at h
    split at h
    · rename_i h1; cases h; exact h1
    · exact findN_spec h

theorem leadPure_spec : ∀ {l : List Oper} (j : Nat) (o : Oper), (l.take (leadPure l))[j]? = some o → pureKind o = true
  | [], j, o, h => by simp at h
  | x :: l, j, o, h => by
    simp only [leadPure] at h
    split at h
    · rename_i hx
      cases j with
      | zero => simp at h; subst h; exact hx
      | succ j => simp at h; exact leadPure_spec j o h
    · simp at h
end

section
variable {P : Program} {hp hp' : List Blk} {tm tm' : List AV} {ops : Array Oper} {Ev : Env P} {X : CX Ev.β} {b : Ev.β}

theorem regionC_sound {id : Nat} {d : Bool} (hm : P.follows .mixedOrders = true) (hX : X.Ok) {K : List AV → List Blk → Ev.β → Prop} {Q : Exit → St Ev.β → Prop} (h : regionC P X ops d tm hp b K) (hq : ∀ tm' hp' b', K tm' hp' b' → Q .normal ⟨tm', hp', b'⟩) :
    W Ev (.region id ops d) ⟨tm, hp, b⟩ Q := by
  unfold regionC at h
  cases d with
  | false =>
    simp only [Bool.false_eq_true, if_false] at h
    exact W.region (s := ⟨tm, hp, b⟩) (opsC_sound hX h fun s' b' h => hq _ _ _ h)
  | true =>
    simp only [if_true] at h
    split at h
    · rename_i k hk
      split at h
      · rename_i hks
        obtain ⟨tmK, tb, h1, h2, h3, h4⟩ := preC_sound hX h
        split at h1
        · rename_i hnd
          exact W.draw (s := ⟨tm, hp, b⟩) k (tblD tb) hm (tblD_ok (h3 (by simp))) (findK_spec hk) hks (h4 tb (find_of_nodup hnd)) (opsC_sound hX h1 fun s' b' h => hq _ _ _ h)
        · exact h1.elim
      · exact h.elim
    · split at h
      · rename_i n hn
        split at h
        · rename_i hks
          obtain ⟨tmK, tb, h1, h2, h3, h4⟩ := preC_sound hX h
          split at h1
          · rename_i hnd
            split at h1
            · rename_i hps hlates
              split at h1
              · rename_i hpn hlast
                obtain ⟨hfr, h1⟩ := h1.elim'
                refine W.late (s := ⟨tm, hp, b⟩) (leadPure ops.toList) n (tblD tb) hm (tblD_ok (h3 (by simp))) (findN_spec hn) hks hlates (h4 tb (find_of_nodup hnd)) (fun h' hh o ho => ?_) hlast (opsC_sound hX h1 fun s' b' h => hq _ _ _ h)
                have hsim := xLates_sim hlates [] (Sim.refl _ _) h' hh
                simp only [List.nil_append] at hsim
                obtain ⟨j, hj⟩ := List.mem_iff_getElem?.1 ho
                exact xp_sim hsim (List.all_eq_true.1 hfr o ho) (leadPure_spec j o hj)
              · exact h1.elim
            · exact h1.elim
          · exact h1.elim
        · exact h.elim
      · exact h.elim

theorem stepR_scope {c : Code} {fr : Frame} {a : Act} {k : List Item} {cs : List Frame} {w : World} : step P (lone (fr.atR a (.code (.scope c) :: k)) cs w) = .next (lone (fr.atR a (.code c :: .inScope c :: k)) cs w) :=
  step_lone_go (by simp [stepG, stepG.exec, Frame.atR])
theorem stepR_inScope {c : Code} {fr : Frame} {a : Act} {k : List Item} {cs : List Frame} {w : World} : step P (lone (fr.atR a (.inScope c :: k)) cs w) = .next (lone (fr.atR a k) cs w) :=
  step_lone_go (by simp [stepG, stepG.exec, Frame.atR])

def noGoto {α : Type} (Q : Exit → α → Prop) : Exit → α → Prop
  | .goto _, _ => False
  | e, s => Q e s

theorem wpIn_scope {F : Fence} {n : Nat} {c : Code} {Q : Exit → Act → World → Prop} {a : Act} {w : World} (h : c.wpIn F n P (Exit.noGoto Q) a w) : (Code.scope c).wpIn F n P Q a w := by
  intro b k cs hro hb hr
  have h0 : (lone (b.atR a (.code (.scope c) :: k)) cs w).fenced P F := fenced_calm hb hr rfl
  obtain ⟨e, a₁, w₁, hq, harr⟩ := h b (.inScope c :: k) cs hro hb hr
  cases e with
  | normal => exact ⟨.normal, a₁, w₁, hq, .head h0 stepR_scope (StepsIn.trans harr (.one (fenced_calm hb hr rfl) stepR_inScope))⟩
  | exit id =>
    have hx : exitTo id (.inScope c :: k) = exitTo id k := by simp [exitTo]
    exact ⟨.exit id, a₁, w₁, hq, fun k' hk => .head h0 stepR_scope (harr.1 k' (by rw [hx]; exact hk)),
        fun hr' hk => let ⟨k₁, h1, h2⟩ := harr.2 hr' (by rw [hx]; exact hk); ⟨k₁, h1, .head h0 stepR_scope h2⟩⟩
  | goto l => exact hq.elim
  | ret => exact ⟨_, a₁, w₁, hq, .of_steps (.one h0 stepR_scope) harr⟩
  | panic ch => exact ⟨_, a₁, w₁, hq, .of_steps (.one h0 stepR_scope) harr⟩
  | outgrown => exact ⟨_, a₁, w₁, hq, .of_steps (.one h0 stepR_scope) harr⟩

theorem W.scope {c : Code} {s : St Ev.β} {Q : Exit → St Ev.β → Prop} (h : W Ev c s (noGoto Q)) : W Ev (.scope c) s Q := by
  intro lo r S X V w m B hv a ht
  refine wpIn_scope (wpIn_mono (h lo r S X V w m B hv a ht) fun e a' w' ⟨s', S', X', V', m', hv', h1, h2, h3⟩ => ?_)
  cases e with
  | goto l => exact h1.elim
  | normal => exact ⟨s', S', X', V', m', hv', h1, h2, h3⟩
  | exit id => exact ⟨s', S', X', V', m', hv', h1, h2, h3⟩
  | ret => exact ⟨s', S', X', V', m', hv', h1, h2, h3⟩
  | panic ch => exact ⟨s', S', X', V', m', hv', h1, h2, h3⟩
  | outgrown => exact ⟨s', S', X', V', m', hv', h1, h2, h3⟩

/-- rounds of a loop, one behind the other -/
def WR (Ev : Env P) (c : Code) : Nat → St Ev.β → (Exit → St Ev.β → Prop) → Prop
  | 0, _, _ => False
  | m + 1, s, Q => W Ev c s (thenW (fun s' => WR Ev c m s' Q) Q)

theorem W.rounds {c : Code} {Q : Exit → St Ev.β → Prop} {m : Nat} {s : St Ev.β} (h : WR Ev c m s Q) : W Ev (.loop c) s Q := by
  intro lo r S X V w m0 B hv a ht
  have key : ∀ (n : Nat) (s : St Ev.β) (S0 X0 V0 : Pr) (w0 : World) (m1 : List MB) (hv : List (List Value)) (a : Act), WR Ev c n s Q → (Went Ev.L S X V w S0 X0 V0 w0 ∧ MStep m0 m1) → Tie Ev lo r S0 X0 V0 w0 m1 B hv s.rs s.b a →
      Code.roundsIn (Fn r) 0 P c (Beh Ev lo r S X V w m0 B Q) n a w0 := by
    intro n
    induction n with
    | zero => intro s S0 X0 V0 w0 m1 hv a h; exact h.elim
    | succ n ih =>
      intro s S0 X0 V0 w0 m1 hv a h hm ht
      rw [roundsIn_succ]
      refine wpIn_mono (h lo r S0 X0 V0 w0 m1 B hv a ht) fun e a' w' ⟨s', S', X', V', m', hv', h1, h2, h3⟩ => ?_
      cases e with
      | normal => exact ih s' S' X' V' w' m' hv' a' h1 ⟨hm.1.trans h2.1, hm.2.trans h2.2⟩ h3
      | exit id => exact Beh.from hm ⟨s', S', X', V', m', hv', h1, h2, h3⟩
      | goto l => exact Beh.from hm ⟨s', S', X', V', m', hv', h1, h2, h3⟩
      | ret => exact Beh.from hm ⟨s', S', X', V', m', hv', h1, h2, h3⟩
      | panic ch => exact Beh.from hm ⟨s', S', X', V', m', hv', h1, h2, h3⟩
      | outgrown => exact Beh.from hm ⟨s', S', X', V', m', hv', h1, h2, h3⟩
  exact wpIn_loop_rounds m (key m s S X V w m0 hv a h ⟨Went.refl ht.rel.slt, MStep.refl m0⟩ ht)

theorem rounds_sound {c : Code} {n : Nat} (ih : ∀ {tm : List AV} {hp : List Blk} {b : Ev.β} {K : Exit → List AV → List Blk → Ev.β → Prop} {Q : Exit → St Ev.β → Prop}, wpc P X n c tm hp b K → (∀ e tm hp b, K e tm hp b → Q e ⟨tm, hp, b⟩) → W Ev c ⟨tm, hp, b⟩ Q) :
    ∀ {m : Nat} {tm : List AV} {hp : List Blk} {b : Ev.β} {K : Exit → List AV → List Blk → Ev.β → Prop} {Q : Exit → St Ev.β → Prop}, rounds (wpc P X n c) m tm hp b K → (∀ e tm hp b, K e tm hp b → Q e ⟨tm, hp, b⟩) → WR Ev c m ⟨tm, hp, b⟩ Q
  | 0, tm, hp, b, K, Q, h, hq => h.elim
  | m + 1, tm, hp, b, K, Q, h, hq => by
    simp only [rounds] at h
    refine ih h fun e tm' hp' b' hK => ?_
    cases e with
    | normal => exact rounds_sound ih (m := m) hK hq
    | exit id => exact hq _ _ _ _ hK
    | goto l => exact hq _ _ _ _ hK
    | ret => exact hq _ _ _ _ hK
    | panic ch => exact hq _ _ _ _ hK
    | outgrown => exact hq _ _ _ _ hK

/-- **what must be shown of code suffices** -/
theorem wpc_sound (hm : P.follows .mixedOrders = true) (hX : X.Ok) : ∀ {n : Nat} {c : Code} {tm : List AV} {hp : List Blk} {b : Ev.β} {K : Exit → List AV → List Blk → Ev.β → Prop} {Q : Exit → St Ev.β → Prop},
    wpc P X n c tm hp b K → (∀ e tm hp b, K e tm hp b → Q e ⟨tm, hp, b⟩) → W Ev c ⟨tm, hp, b⟩ Q
  | 0, c, tm, hp, b, K, Q, h, hq => h.elim
  | n + 1, c, tm, hp, b, K, Q, h, hq => by
    cases c with
    | skip => exact W.skip (hq _ _ _ _ h)
    | label l => exact W.label (hq _ _ _ _ h)
    | exit id => exact W.exit (hq _ _ _ _ h)
    | goto l => exact W.goto (hq _ _ _ _ h)
    | ret => exact W.ret (hq _ _ _ _ h)
    | region id ops d => exact regionC_sound hm hX h fun _ _ _ h => hq _ _ _ _ h
    | seq x y =>
      simp only [wpc] at h
      refine W.seq (wpc_sound hm hX h fun e tm' hp' b' hK => ?_)
      cases e with
      | normal => exact wpc_sound hm hX hK hq
      | exit id => exact hq _ _ _ _ hK
      | goto l => exact hq _ _ _ _ hK
      | ret => exact hq _ _ _ _ hK
      | panic ch => exact hq _ _ _ _ hK
      | outgrown => exact hq _ _ _ _ hK
    | cond x c c' =>
      simp only [wpc] at h
      split at h
      · rename_i t hx
        have hs := setB_self hx
        rcases h.elim with ⟨rfl, h⟩ | ⟨rfl, h⟩ <;> rw [hs] at h
        · exact W.cond (t := true) hx (wpc_sound hm hX h hq)
        · exact W.cond (t := false) hx (wpc_sound hm hX h hq)
      · exact h.elim
    | block id c =>
      simp only [wpc] at h
      refine W.block (wpc_sound hm hX h fun e tm' hp' b' hK => ?_)
      cases e with
      | exit id' =>
        simp only [blockK] at hK
        simp only [catchExit]
        split at hK
        · rename_i he; rw [if_pos he]; exact hq _ _ _ _ hK
        · rename_i he; rw [if_neg he]; exact hq _ _ _ _ hK
      | normal => exact hq _ _ _ _ hK
      | goto l => exact hq _ _ _ _ hK
      | ret => exact hq _ _ _ _ hK
      | panic ch => exact hq _ _ _ _ hK
      | outgrown => exact hq _ _ _ _ hK
    | loop c =>
      simp only [wpc] at h
      split at h
      · exact W.rounds (rounds_sound (fun h hq => wpc_sound hm hX h hq) h hq)
      · exact W.mono (hX.wl _ _ _ _ _ h) fun e s h => hq _ _ _ _ h
    | rangeFunc f ps assign body => exact W.mono (hX.wl _ _ _ _ _ h) fun e s h => hq _ _ _ _ h
    | scope body =>
      simp only [wpc] at h
      refine W.scope (wpc_sound hm hX h fun e tm' hp' b' hK => ?_)
      cases e with
      | goto l => exact hK.elim
      | normal => exact hq _ _ _ _ hK
      | exit id => exact hq _ _ _ _ hK
      | ret => exact hq _ _ _ _ hK
      | panic ch => exact hq _ _ _ _ hK
      | outgrown => exact hq _ _ _ _ hK
    | refuse why => exact h.elim

theorem fnK_sound {fn : Func} {R : AV → Ev.β → Prop} {e : Exit} {tm : List AV} {hp : List Blk} {b : Ev.β} (h : fnK P fn R e tm hp b) : FnPost P fn (fun y hp b => ∃ z, SealR hp y z ∧ R z b) e ⟨tm, hp, b⟩ := by
  unfold fnK at h
  obtain ⟨he, h⟩ := h.elim'
  split at h
  · rename_i ys hys
    obtain ⟨z, hz, h⟩ := sealC_sound h
    refine ⟨?_, ys, hys, z, hz, h⟩
    cases e <;> simp at he ⊢
  · exact h.elim

/-- loops are left to be walked by hand -/
def wlW (Ev : Env P) : Code → List AV → List Blk → Ev.β → (Exit → List AV → List Blk → Ev.β → Prop) → Prop := fun c tm hp b K => W Ev c ⟨tm, hp, b⟩ fun e s => K e s.tm s.hp s.b

def CallsOk (P : Program) (T : List (Nat × (List AV → (AV → Prop) → Prop))) : Prop := ∀ (k : Nat) f, T.lookup k = some f → ∀ args K, f args K → ∃ x, PCall P k args x ∧ K x
def SCallsOk (P : Program) (T : List (Nat × (List AV → List Blk → (AV → List Blk → Prop) → Prop))) : Prop := ∀ (k : Nat) f, T.lookup k = some f → ∀ args hp K, f args hp K → ∃ x hp', SCall P k args hp x hp' ∧ K x hp'

theorem CallsOk.nil : CallsOk P [] := fun _ _ h => by cases h
theorem SCallsOk.nil : SCallsOk P [] := fun _ _ h => by cases h
theorem CallsOk.cons {T : List (Nat × (List AV → (AV → Prop) → Prop))} {k : Nat} {f : List AV → (AV → Prop) → Prop} (h : ∀ args K, f args K → ∃ x, PCall P k args x ∧ K x) (hT : CallsOk P T) : CallsOk P ((k, f) :: T) := by
  intro k' f' hl
  rw [List.lookup_cons] at hl
  split at hl
  · rename_i he
    cases hl
    rw [eq_of_beq he]; exact h
  · exact hT k' f' hl

theorem CX.Ok.of {Ev : Env P} {T : List (Nat × (List AV → (AV → Prop) → Prop))} {S : List (Nat × (List AV → List Blk → (AV → List Blk → Prop) → Prop))} {u : Bool} (hT : CallsOk P T) (hS : SCallsOk P S) : CX.Ok Ev ⟨T, S, wlW Ev, Ev.Y, u⟩ :=
  ⟨hT, hS, fun _ _ _ _ _ h => h, rfl⟩

/-- **a function's contract** -/
theorem PCall.ofWp {f n : Nat} {fn : Func} {c : Code} {args : List AV} {x : AV} {T : List (Nat × (List AV → (AV → Prop) → Prop))} {S : List (Nat × (List AV → List Blk → (AV → List Blk → Prop) → Prop))} {u : Bool} (hm : P.follows .mixedOrders = true)
    (hT : CallsOk P T) (hS : SCallsOk P S) (hf : P.funcs[f]? = some fn) (hb : fn.body = some c) (hn : (fn.name == "runtime.NumGoroutine") = false) (hargs : args.map AV.view = args)
    (h : ∀ (Ev : Env P) (b : Ev.β), wpc P ⟨T, S, wlW Ev, Ev.Y, u⟩ n c (startTm fn args) [] b (fnK P fn fun y _ => y = x)) : PCall P f args x := by
  refine PCall.ofWS hf hb hn hargs fun Ev b => wpc_sound hm (CX.Ok.of hT hS) (h Ev b) fun e tm hp b hK => ?_
  obtain ⟨h1, ys, h2, z, h3, rfl⟩ := fnK_sound hK
  exact ⟨h1, ys, h2, h3⟩

/-- **an iterator's contract** -/
theorem ICall.ofWp {f n : Nat} {fn : Func} {c : Code} {args : List AV} {Sp : SpT} {T : List (Nat × (List AV → (AV → Prop) → Prop))} {S : List (Nat × (List AV → List Blk → (AV → List Blk → Prop) → Prop))} {u : Bool} (hm : P.follows .mixedOrders = true)
    (hT : CallsOk P T) (hS : SCallsOk P S) (hf : P.funcs[f]? = some fn) (hb : fn.body = some c) (hn : (fn.name == "runtime.NumGoroutine") = false)
    (h : ∀ (Ev : Env P) (b : Ev.β) (Q : Ev.β → Prop), Sp Ev.Y b Q → wpc P ⟨T, S, wlW Ev, Ev.Y, u⟩ n c (startTm fn args) [] b (fnK P fn fun _ b => Q b)) : ICall P f args Sp := by
  refine ICall.ofW hf hb hn fun Ev b Q hQ => wpc_sound hm (CX.Ok.of hT hS) (h Ev b Q hQ) fun e tm hp b hK => ?_
  obtain ⟨h1, ys, h2, z, h3, h4⟩ := fnK_sound hK
  exact ⟨h1, ys, h2, h4⟩

end
end Go.Proofs.YtkjmhfbjdeidjaaDoor.Am

/- Words for abstract values; small laws for walks. -/
namespace Go.Proofs.YtkjmhfbjdeidjaaDoor.Am
set_option linter.unusedVariables false
open Go Go.RowKit

def i64 (x : Int) : Dv := .s (.int .i64 x)
def u64 (x : Int) : Dv := .s (.int .u64 x)
def u8 (x : Int) : Dv := .s (.int .u8 x)
def u16 (x : Int) : Dv := .s (.int .u16 x)
def bo (x : Bool) : Dv := .s (.bool x)
noncomputable def code (fn : Func) : Code := fn.body.getD .skip
def firstOf : Code → Code
  | .seq x _ => x
  | c => c
def restOf : Code → Code
  | .seq _ y => y
  | c => c
def dropSeq : Nat → Code → Code
  | n + 1, .seq _ y => dropSeq n y
  | _, c => c
def inBlock : Code → Code
  | .block _ c => c
  | c => c
def inLoop : Code → Code
  | .loop c => c
  | c => c
def assignOf : Code → Code
  | .rangeFunc _ _ a _ => a
  | c => c
def bodyOf : Code → Code
  | .rangeFunc _ _ _ b => b
  | c => c

/-- by which one tells pieces of code apart: the first region's number, and one -/
def cidO : Code → Nat
  | .region id _ _ => id + 1
  | .seq x y => match cidO x with
    | 0 => cidO y
    | n => n
  | .block _ c => cidO c
  | .loop c => cidO c
  | .scope c => cidO c
  | .cond _ x _ => cidO x
  | .rangeFunc _ _ a b => match cidO a with
    | 0 => cidO b
    | n => n
  | _ => 0

abbrev WLT (β : Type) := Code → List AV → List Blk → β → (Exit → List AV → List Blk → β → Prop) → Prop

/-- a part of some code -/
def sub : List Nat → Code → Code
  | [], c => c
  | n :: p, c => match n, c with
    | 0, .seq x _ => sub p x
    | 1, .seq _ y => sub p y
    | 2, .block _ c => sub p c
    | 3, .loop c => sub p c
    | 4, .cond _ x _ => sub p x
    | 5, .cond _ _ y => sub p y
    | 6, .rangeFunc _ _ a _ => sub p a
    | 7, .rangeFunc _ _ _ b => sub p b
    | 8, .scope c => sub p c
    | _, _ => .skip

/-- an element -/
def nth (p : List Int) (i : Nat) : Int := p.getD i 0
/-- bytes, sixteen of them -/
def cells16 (p : List Int) : List AV := (List.range 16).map fun i => .d (u8 (nth p i))

end Go.Proofs.YtkjmhfbjdeidjaaDoor.Am

/- Readings that say less; rounds of loops; ranges over lists. -/
namespace Go.Proofs.YtkjmhfbjdeidjaaDoor.Am
set_option linter.unusedVariables false
set_option linter.unusedSimpArgs false
open Go Go.RowKit

/-- y says no more than x -/
def LeA (x y : AV) : Prop := x = y ∨ y = .bad ∨ (isNilSlice x = true ∧ ∃ k, (y = .d (.sl k []) ∨ ∃ e, y = .own e k [])) ∨ y = x.view

theorem LeA.rfl {x : AV} : LeA x x := .inl (Eq.refl x)
theorem LeA.bad {x : AV} : LeA x .bad := .inr (.inl (Eq.refl _))
theorem LeA.nilOwn {x : AV} {e k : Nat} (h : isNilSlice x = true) : LeA x (.own e k []) := .inr (.inr (.inl ⟨h, k, .inr ⟨e, Eq.refl _⟩⟩))
theorem LeA.nilSl {x : AV} {k : Nat} (h : isNilSlice x = true) : LeA x (.d (.sl k [])) := .inr (.inr (.inl ⟨h, k, .inl (Eq.refl _)⟩))
theorem LeA.view {x : AV} : LeA x x.view := .inr (.inr (.inr (Eq.refl _)))
theorem LeA.of_eq {x y : AV} (h : x = y) : LeA x y := .inl h

inductive LeL : List AV → List AV → Prop
  | nil : LeL [] []
  | cons {x y : AV} {xs ys : List AV} (h : LeA x y) (hs : LeL xs ys) : LeL (x :: xs) (y :: ys)

theorem LeL.refl : ∀ (l : List AV), LeL l l
  | [] => .nil
  | _ :: l => .cons .rfl (LeL.refl l)

theorem LeL.len {xs ys : List AV} (h : LeL xs ys) : ys.length = xs.length := by
  induction h with
  | nil => rfl
  | cons _ _ ih => simp [ih]

inductive LeH : List Blk → List Blk → Prop
  | nil : LeH [] []
  | cons {p q : List AV} {f g : Bool} {v : Nat} {ps qs : List Blk} (h : LeL p q) (hs : LeH ps qs) : LeH (⟨p, f, g, v⟩ :: ps) (⟨q, f, g, v⟩ :: qs)

theorem LeH.refl : ∀ (l : List Blk), LeH l l
  | [] => .nil
  | ⟨_, _, _, _⟩ :: l => .cons (.refl _) (LeH.refl l)

theorem LeH.len {xs ys : List Blk} (h : LeH xs ys) : ys.length = xs.length := by
  induction h with
  | nil => rfl
  | cons _ _ ih => simp [ih]

section
variable {P : Program} {S S' S'' X X' V V' Z : Pr} {L : Nat → Prop} {r : Option Nat} {lo : Nat} {yv : Option Nat} {w w' w'' : World} {m m' m'' : List MB} {A A' B C : List (AV × Value)} {hp hp' : List Blk} {tm tm' : List AV} {hv hv' : List (List Value)} {a a' : Act} {Ev : Env P}
  {s s' : St Ev.β} {b : Ev.β} {Q Q' : Exit → St Ev.β → Prop} {c c' : Code}

theorem LeA.rv {x y : AV} {v : Value} (h : LeA x y) (hr : RV S w m yv x v) : RV S w m yv y v := by
  rcases h with rfl | rfl | ⟨h, k, h1⟩ | rfl
  · exact hr
  · exact .bad
  · have hv := isNilSlice_spec h hr
    subst hv
    rcases h1 with rfl | ⟨e, rfl⟩
    · exact .d (.nil k)
    · exact .ownNil
  · exact hr.view

theorem LeA.own {x y : AV} {v : Value} (h : LeA x y) (hr : RV S w m yv x v) : x = y ∨ ownB (y, v) = none := by
  rcases h with rfl | rfl | ⟨h, k, h1⟩ | rfl
  · exact .inl (Eq.refl _)
  · exact .inr (Eq.refl _)
  · have hv := isNilSlice_spec h hr
    subst hv
    rcases h1 with rfl | ⟨e, rfl⟩
    · exact .inr (Eq.refl _)
    · exact .inr (Eq.refl _)
  · exact .inr (ownB_view _ _)

inductive LP : List (AV × Value) → List (AV × Value) → Prop
  | nil : LP [] []
  | cons {x y : AV} {v : Value} {A A' : List (AV × Value)} (h : LeA x y) (hs : LP A A') : LP ((x, v) :: A) ((y, v) :: A')

theorem LP.refl : ∀ (l : List (AV × Value)), LP l l
  | [] => .nil
  | (_, _) :: l => .cons .rfl (LP.refl l)

theorem LP.append {A A' B B' : List (AV × Value)} (h : LP A A') (h' : LP B B') : LP (A ++ B) (A' ++ B') := by
  induction h with
  | nil => exact h'
  | cons h _ ih => exact .cons h ih

theorem LeL.zip {xs ys : List AV} (h : LeL xs ys) : ∀ (vs : List Value), LP (xs.zip vs) (ys.zip vs) := by
  induction h with
  | nil => intro vs; exact .nil
  | cons h _ ih =>
    intro vs
    cases vs with
    | nil => exact .nil
    | cons v vs => exact .cons h (ih vs)

theorem LeH.pairs {ps qs : List Blk} (h : LeH ps qs) : ∀ (hv : List (List Value)), LP (cellPairs ps hv) (cellPairs qs hv) := by
  induction h with
  | nil => intro hv; exact .nil
  | cons h _ ih =>
    intro hv
    cases hv with
    | nil => exact .nil
    | cons v hv =>
      simp only [cellPairs, List.zip_cons_cons, List.flatMap_cons]
      exact (h.zip v).append (ih hv)

theorem Rel.lp (h : LP A A') : ∀ {C : List (AV × Value)}, Rel S X yv w m (A ++ C) hp hv → Rel S X yv w m (A' ++ C) hp hv := by
  induction h with
  | nil => intro C h; exact h
  | @cons x y v A1 A2 h1 _ ih =>
    intro C h
    have h2 : Rel S X yv w m (A1 ++ ((x, v) :: C)) hp hv := h.perm (by simpa using (List.perm_middle (a := (x, v)) (l₁ := A1) (l₂ := C)).symm)
    have h3 := ih h2
    have h4 : Rel S X yv w m ((x, v) :: (A2 ++ C)) hp hv := h3.perm List.perm_middle
    have hr : RV S w m yv x v := h4.rv _ (List.mem_cons_self ..)
    rcases h1.own hr with rfl | hn
    · exact h4
    · exact (h4.sub (List.sublist_cons_self _ _)).cons (h1.rv hr) hn

theorem LeH.get {ps qs : List Blk} (h : LeH ps qs) : ∀ (g : Nat) (q : Blk), qs[g]? = some q → ∃ p, ps[g]? = some p ∧ q.fro = p.fro ∧ q.grow = p.grow ∧ q.ver = p.ver ∧ q.cells.length = p.cells.length := by
  induction h with
  | nil => intro g q hq; simp at hq
  | cons h _ ih =>
    intro g q hq
    cases g with
    | zero => simp at hq; subst hq; exact ⟨_, rfl, rfl, rfl, rfl, h.len⟩
    | succ g => simp at hq; simpa using ih g q hq

theorem Rel.leH (h : LeH hp hp') (hr : Rel S X yv w m A hp hv) : Rel S X yv w m A hp' hv := by
  refine ⟨hr.lt, hr.rv, hr.pw, hr.nm, hr.sp, hr.mnd, hr.ml.trans h.len.symm, hr.hl.trans h.len.symm, fun g blk p vs h1 h2 h3 => ?_, hr.gl⟩
  obtain ⟨blk0, e1, e2, e3, e4, e5⟩ := h.get g blk h1
  obtain ⟨a1, a2, a3, a4, a5, a6, a9, a10⟩ := hr.bl g blk0 p vs e1 h2 h3
  exact ⟨a1.trans e5.symm, a2.trans e3.symm, a3.trans e4.symm, a4, a5, a6, by rw [e2]; exact a9, by rw [e2]; exact a10⟩

theorem Tie.le {pv : List (Nat × Loc)} (h1 : LeL tm tm') (h2 : LeH hp hp') (ht : Tie Ev lo r S X V w m B hv ⟨tm, hp, pv⟩ b a) : Tie Ev lo r S X V w m B hv ⟨tm', hp', []⟩ b a := by
  refine ⟨⟨h1.len.trans ht.rel.1, ?_, by intro p hp; cases hp⟩, ht.sub, ht.env, ht.round, ht.marks, ht.base⟩
  refine Rel.leH h2 ?_
  have := Rel.lp ((h1.zip a.tmps.toList).append ((LP.refl B).append (h2.pairs hv))) (C := []) (by simpa using ht.rel.2.1)
  simpa using this

/-- it is shown of a state that says less -/
theorem W.cast (h1 : LeL tm tm') (h2 : LeH hp hp') (h : W Ev c ⟨tm', hp', b⟩ Q) : W Ev c ⟨tm, hp, b⟩ Q :=
  fun lo r S X V w m B hv a ht => h lo r S X V w m B hv a (ht.le h1 h2)

/-- behind, less may be said -/
theorem W.castPost (h : W Ev c s fun e s' => ∃ tm' hp', LeL s'.tm tm' ∧ LeH s'.hp hp' ∧ Q e ⟨tm', hp', s'.b⟩) : W Ev c s Q := by
  intro lo r S X V w m B hv a ht
  refine wpIn_mono (h lo r S X V w m B hv a ht) ?_
  rintro e a' w' ⟨s', S', X', V', m', hv', ⟨tm', hp', h1, h2, hq⟩, h3, ht'⟩
  exact ⟨_, S', X', V', m', hv', hq, h3, ht'.le h1 h2⟩

/-! ### rounds -/
theorem WR.cast {n : Nat} (h1 : LeL tm tm') (h2 : LeH hp hp') (h : WR Ev c n ⟨tm', hp', b⟩ Q) : WR Ev c n ⟨tm, hp, b⟩ Q := by
  cases n with
  | zero => exact h.elim
  | succ n => exact W.cast h1 h2 h

theorem WR.ofWp {X : CX Ev.β} {n k : Nat} (hm : P.follows .mixedOrders = true) (hX : X.Ok) (h : wpc P X k c tm hp b (thenK (fun tm hp b => WR Ev c n ⟨tm, hp, b⟩ Q) fun e tm hp b => Q e ⟨tm, hp, b⟩)) : WR Ev c (n + 1) ⟨tm, hp, b⟩ Q :=
  wpc_sound hm hX h fun e tm hp b hK => by cases e <;> exact hK

/-- blocks that were laid last are forgotten -/
def scratchK {β : Type} (n : Nat) (K : Exit → List AV → List Blk → β → Prop) : Exit → List AV → List Blk → β → Prop := fun e tm hp b => BIf (lowHp n hp) (K e (lowTm n tm) (hp.take n) b) False

theorem W.ofScratch {X : CX Ev.β} {k : Nat} {K : Exit → List AV → List Blk → Ev.β → Prop} (hm : P.follows .mixedOrders = true) (hX : X.Ok) (h : wpc P X k c tm hp b (scratchK hp.length K)) (hq : ∀ e tm hp b, K e tm hp b → Q e ⟨tm, hp, b⟩) : W Ev c ⟨tm, hp, b⟩ Q := by
  refine W.scratch (wpc_sound hm hX h fun e tm' hp' b' hK => ?_)
  obtain ⟨h1, h2⟩ := hK.elim'
  exact ⟨h1, hq _ _ _ _ h2⟩

/-- a round, whose new blocks are forgotten -/
theorem WR.ofScratch {X : CX Ev.β} {n k : Nat} (hm : P.follows .mixedOrders = true) (hX : X.Ok) (h : wpc P X k c tm hp b (scratchK hp.length (thenK (fun tm hp b => WR Ev c n ⟨tm, hp, b⟩ Q) fun e tm hp b => Q e ⟨tm, hp, b⟩))) : WR Ev c (n + 1) ⟨tm, hp, b⟩ Q :=
  W.ofScratch hm hX h fun e tm hp b hK => by cases e <;> exact hK

/-- of the temporaries, those that are wanted -/
def maskTm (keep : List Nat) : Nat → List AV → List AV
  | _, [] => []
  | i, x :: l => (if keep.contains i then x else .bad) :: maskTm keep (i + 1) l

theorem maskTm_le (keep : List Nat) : ∀ (l : List AV) (i : Nat), LeL l (maskTm keep i l)
  | [], _ => .nil
  | x :: l, i => .cons (by split; exact .rfl; exact .bad) (maskTm_le keep l (i + 1))

/-- blocks that were laid last are forgotten, and temporaries that are not wanted -/
def maskK {β : Type} (n : Nat) (keep : List Nat) (K : Exit → List AV → List Blk → β → Prop) : Exit → List AV → List Blk → β → Prop := fun e tm hp b => BIf (lowHp n hp) (K e (maskTm keep 0 (lowTm n tm)) (hp.take n) b) False

theorem W.ofMask {X : CX Ev.β} {k : Nat} {keep : List Nat} {K : Exit → List AV → List Blk → Ev.β → Prop} (hm : P.follows .mixedOrders = true) (hX : X.Ok) (h : wpc P X k c tm hp b (maskK hp.length keep K)) (hq : ∀ e tm hp b, K e tm hp b → Q e ⟨tm, hp, b⟩) : W Ev c ⟨tm, hp, b⟩ Q := by
  refine W.castPost (W.scratch (wpc_sound hm hX h fun e tm' hp' b' hK => ?_))
  obtain ⟨h1, h2⟩ := hK.elim'
  exact ⟨h1, _, _, maskTm_le keep _ 0, LeH.refl _, hq _ _ _ _ h2⟩

/-- a round, whose new blocks are forgotten -/
theorem WR.ofMask {X : CX Ev.β} {n k : Nat} (keep : List Nat) (hm : P.follows .mixedOrders = true) (hX : X.Ok) (h : wpc P X k c tm hp b (maskK hp.length keep (thenK (fun tm hp b => WR Ev c n ⟨tm, hp, b⟩ Q) fun e tm hp b => Q e ⟨tm, hp, b⟩))) : WR Ev c (n + 1) ⟨tm, hp, b⟩ Q :=
  W.ofMask hm hX h fun e tm hp b hK => by cases e <;> exact hK

/-- temporaries that are not wanted are forgotten -/
def maskT {β : Type} (keep : List Nat) (K : Exit → List AV → List Blk → β → Prop) : Exit → List AV → List Blk → β → Prop := fun e tm hp b => K e (maskTm keep 0 tm) hp b
theorem WR.ofMaskT {X : CX Ev.β} {n k : Nat} (keep : List Nat) (hm : P.follows .mixedOrders = true) (hX : X.Ok) (h : wpc P X k c tm hp b (maskT keep (thenK (fun tm hp b => WR Ev c n ⟨tm, hp, b⟩ Q) fun e tm hp b => Q e ⟨tm, hp, b⟩))) : WR Ev c (n + 1) ⟨tm, hp, b⟩ Q :=
  W.castPost (wpc_sound hm hX h fun e tm hp b hK => ⟨maskTm keep 0 tm, hp, maskTm_le _ tm 0, LeH.refl _, by cases e <;> exact hK⟩)
theorem lows_flatA (n : Nat) (xs : List (List Dv)) : lows n (flatA xs) = true := by
  unfold flatA
  induction xs.flatten with
  | nil => rfl
  | cons d l ih => simp only [List.map_cons, lows, AV.low, Bool.true_and]; exact ih

/-! ### ranges -/
variable {ι : Type}

/-- what goes on behind a round of a range -/
def rangeC (Ev : Env P) (tm : List AV) (Q : Exit → St Ev.β → Prop) (K : List Blk → Ev.β → Prop) : Exit → List Blk → Ev.β → Prop
  | .normal, hp, b => K hp b
  | .ret, hp, b => Q .ret ⟨tm, hp, b⟩
  | .exit id, hp, b => Q (.exit id) ⟨tm, hp, b⟩
  | .goto t, hp, b => Q (.goto t) ⟨tm, hp, b⟩
  | _, _, _ => False

/-- the round's blocks are forgotten -/
def takeK {β : Type} (n : Nat) (K : Exit → List Blk → β → Prop) : Exit → List AV → List Blk → β → Prop := fun e _ hp b => BIf (lowHp n hp) (K e (hp.take n) b) False

/-- a round of a range -/
def wpcY {β : Type} (P : Program) (X : CX β) (k : Nat) (ps : Array Tmp) (assign body : Code) (tm : List AV) (args : List AV) (hp : List Blk) (b : β) (K : Exit → List AV → List Blk → β → Prop) : Prop :=
  wpc P X k assign (setParams (tm.map AV.view) ps (args.map AV.view)) hp b fun e tm' hp' b' => BIf (match e with | .normal => true | _ => false) (wpc P X k body tm' hp' b' K) False

theorem YBody.ofWp {X : CX Ev.β} {k n : Nat} {ps : Array Tmp} {assign body : Code} {args : List AV} {Qy : Bool → List Blk × Ev.β × Option Exit → Prop} {K : Exit → List AV → List Blk → Ev.β → Prop} (hm : P.follows .mixedOrders = true) (hX : X.Ok) (hl : args.length = ps.size)
    (h : wpcY P X k ps assign body tm args hp b K) (hK : ∀ e tm' hp' b', K e tm' hp' b' → lowHp n hp' = true ∧ match e with
      | .normal => Qy true (hp'.take n, b', none)
      | .ret => Qy false (hp'.take n, b', some .ret)
      | .exit id => Qy false (hp'.take n, b', some (.exit id))
      | .goto t => Qy false (hp'.take n, b', some (.goto t))
      | _ => False) : YBody Ev tm ps assign body n (hp, b, none) args Qy := by
  refine ⟨rfl, hl, wpc_sound hm hX h fun e tm' hp' b' h1 => ?_⟩
  obtain ⟨he, h1⟩ := h1.elim'
  refine ⟨by cases e <;> simp at he ⊢, wpc_sound hm hX h1 fun e tm' hp' b' h2 => hK e tm' hp' b' h2⟩

/-- one more round of a range over a list -/
theorem YList.step {X : CX Ev.β} {k n : Nat} {ps : Array Tmp} {assign body : Code} {x : List AV} {xs : List (List AV)} (hm : P.follows .mixedOrders = true) (hX : X.Ok) (hl : x.length = ps.size)
    (h : wpcY P X k ps assign body tm x hp b (takeK n (rangeC Ev tm Q fun hp' b' => YList (YBody Ev tm ps assign body n) xs (hp', b', none) (rangeQ tm Q)))) : YList (YBody Ev tm ps assign body n) (x :: xs) (hp, b, none) (rangeQ tm Q) := by
  simp only [YList]
  refine YBody.ofWp (k := k) hm hX hl h fun e tm' hp' b' h1 => ?_
  obtain ⟨h1, h2⟩ := h1.elim'
  refine ⟨h1, ?_⟩
  cases e with
  | normal => simpa [rangeC] using h2
  | ret => simpa [rangeQ, rangeC] using h2
  | exit id => simpa [rangeQ, rangeC] using h2
  | goto t => simpa [rangeQ, rangeC] using h2
  | panic ch => exact h2.elim
  | outgrown => exact h2.elim

/-- a range over a list may begin at blocks of which less is said -/
theorem YList.cast {n : Nat} {ps : Array Tmp} {assign body : Code} {xs : List (List AV)} (hh : LeH hp hp') (hx : xs ≠ []) (h : YList (YBody Ev tm ps assign body n) xs (hp', b, none) (rangeQ tm Q)) : YList (YBody Ev tm ps assign body n) xs (hp, b, none) (rangeQ tm Q) := by
  cases xs with
  | nil => exact absurd rfl hx
  | cons x xs =>
    simp only [YList] at h ⊢
    exact ⟨h.1, h.2.1, W.cast (LeL.refl _) hh h.2.2⟩

/-- a function's contract -/
theorem PCall.ofFn {f n : Nat} {fn : Func} {args : List AV} {x : AV} {T : List (Nat × (List AV → (AV → Prop) → Prop))} {U : List (Nat × (List AV → List Blk → (AV → List Blk → Prop) → Prop))} {u : Bool} (hm : P.follows .mixedOrders = true)
    (hT : CallsOk P T) (hS : SCallsOk P U) (hf : P.funcs[f]? = some fn) (hn : (fn.name == "runtime.NumGoroutine") = false) (hargs : args.map AV.view = args)
    (h : ∀ (Ev : Env P) (b : Ev.β), wpFn P ⟨T, U, wlW Ev, Ev.Y, u⟩ n fn args b (fun y _ => y = x)) : PCall P f args x := by
  cases hb : fn.body with
  | some c => exact PCall.ofWp hm hT hS hf hb hn hargs fun Ev b => by have := h Ev b; unfold wpFn at this; rw [hb] at this; exact this
  | none =>
    have := h (Env.none P none) ()
    unfold wpFn at this
    rw [hb] at this
    exact this.elim

/-- results of which less is said -/
inductive LeT : AV → AV → Prop
  | base {x y : AV} (h : LeA x y) : LeT x y
  | tup {xs ys : List AV} (h : LeL xs ys) : LeT (.tup xs) (.tup ys)
  | agg {xs ys : List AV} (h : LeL xs ys) : LeT (.agg xs) (.agg ys)

theorem LeL.rvs {xs ys : List AV} (h : LeL xs ys) : ∀ (vs : List Value), xs.length = vs.length → (∀ (i : Nat) (c : AV) (v : Value), xs[i]? = some c → vs[i]? = some v → RV S w m yv c v) → ∀ (i : Nat) (c : AV) (v : Value), ys[i]? = some c → vs[i]? = some v → RV S w m yv c v := by
  induction h with
  | nil => intro vs _ _ i c v hc; simp at hc
  | cons h _ ih =>
    intro vs hl hr i c v hc hv
    cases vs with
    | nil => simp at hl
    | cons v0 vs =>
      cases i with
      | zero => simp at hc hv; subst hc; subst hv; exact h.rv (hr 0 _ _ rfl rfl)
      | succ i => simp at hc hv; exact ih vs (by simpa using hl) (fun i c v h1 h2 => hr (i + 1) c v (by simpa using h1) (by simpa using h2)) i c v hc hv

theorem LeT.rv {x y : AV} {v : Value} (h : LeT x y) (hr : RV S w m yv x v) : RV S w m yv y v := by
  cases h with
  | base h => exact h.rv hr
  | tup h =>
    cases hr with
    | tup hl hr => exact .tup (h.len.trans hl) fun i c v h1 h2 => h.rvs _ (by rw [Array.length_toList]; exact hl) (fun i c v h1 h2 => hr i c v h1 (by simpa using h2)) i c v h1 (by simpa using h2)
  | agg h =>
    cases hr with
    | agg hl hr => exact .agg (h.len.trans hl) fun i c v h1 h2 => h.rvs _ (by rw [Array.length_toList]; exact hl) (fun i c v h1 h2 => hr i c v h1 (by simpa using h2)) i c v h1 (by simpa using h2)

theorem LeT.rfl {x : AV} : LeT x x := .base .rfl

theorem PCall.le {f : Nat} {args : List AV} {x y : AV} (h : LeT x y) (hv : x.view = x) (hp : PCall P f args x) : PCall P f args y := by
  refine ⟨hp.1, fun S w vs hl hvs hlt hgl => CallsIn.mono (hp.2 S w vs hl hvs hlt hgl) ?_⟩
  rintro e w' ⟨v, S', h1, h2, h3, h4, h5⟩
  rw [hv] at h5
  exact ⟨v, S', h1, h2, h3, h4, (h.rv h5).view⟩

/-- a function that turns nothing of its callers'; less is said of its result -/
theorem PCall.ofWL {f : Nat} {fn : Func} {c : Code} {args : List AV} {x : AV} (hf : P.funcs[f]? = some fn) (hb : fn.body = some c) (hn : (fn.name == "runtime.NumGoroutine") = false) (hargs : args.map AV.view = args)
    (hW : ∀ (Ev : Env P) (b : Ev.β), W Ev c ⟨startTm fn args, [], b⟩ (FnPost P fn fun y hp _ => ∃ z, SealR hp y z ∧ LeT z x)) : PCall P f args x := by
  refine ⟨enter_ok hf hb hn, fun S w vs hl hvs hlt hgl => ?_⟩
  have hrel : Rel S (fun b _ => b < w.heap.size) none w [] (args.zip vs ++ ([] ++ cellPairs [] [])) [] [] := by
    have h0 : Rel S (fun b _ => b < w.heap.size) none w [] [] [] [] := ⟨fun b i h => h.elim (hlt b i) id, by simp, List.Pairwise.nil, by simp, by simp, by simp, rfl, rfl, by simp, hgl⟩
    have := h0.pushAll (args.zip vs) (fun p hp => by
      obtain ⟨j, hj⟩ := List.mem_iff_getElem?.1 hp
      rw [List.getElem?_zip_eq_some] at hj
      refine ⟨hvs j p.1 p.2 hj.1 hj.2, ?_⟩
      have hp1 : p.1.view = p.1 := by
        have h1 : (args.map AV.view)[j]? = some p.1.view := by simp [hj.1]
        rw [hargs, hj.1] at h1; exact (Option.some.inj h1).symm
      obtain ⟨p1, p2⟩ := p
      simp only at hp1
      rw [← hp1]; exact ownB_view _ _)
    simpa [cellPairs] using this
  refine calls_of_W (Ev := Env.none P none) (V := fun _ _ => False) (b := (() : Unit)) hf hb hl (hW (Env.none P _) (() : Unit)) hrel (fun _ _ h => h.elim) trivial (Nat.zero_le _) ?_
  intro y S' X' V' w' m' hv' hp' v b' hyz htr0 hxs hm hr _ hyv
  obtain ⟨z, hy, hz⟩ := hyz
  have htr : Tr (fun b i => ¬ b < w.heap.size) (fun _ => False) S w S' w' := htr0.mono (fun b i h => h.resolve_right id) (fun _ h => h)
  refine ⟨v, withBlocks S' m', rfl, below_of_tr htr (fun b i hb hz => hz hb) (fun _ h => h), fun b i hs => .inl (htr.up b i hs), fun b i hs => ?_, (hz.rv (sealR_sound (B := []) (T := withBlocks S' m') (by simpa using hr) (fun _ _ h => .inl h) hy (fun g _ p hp i hi => .inr ⟨g, p, hp, rfl, hi⟩) hyv)).view⟩
  rcases hs with hs | ⟨g, p, hg, rfl, hi⟩
  · rcases htr.new b i hs with h1 | h1 | h1
    · exact .inl h1
    · exact .inr ⟨Nat.le_of_not_lt h1, htr.lt b i hs⟩
    · exact .inr ⟨h1, htr.lt b i hs⟩
  · have hr' : Rel S' X' none w' m' (([] : List (AV × Value)) ++ cellPairs hp' hv') hp' hv' := hr
    obtain ⟨blk, us, cur, e, g1, g2, g3, g4, g5, g6, g7, g8, g9, g10, g11, g12⟩ := hr'.block hg
    have hlt' : p.b < w'.heap.size := (Array.getElem?_eq_some_iff.1 g8).1
    cases hfr : blk.fro with
    | true =>
      have hs := g12 hfr i hi
      rcases htr.new _ _ hs with h1 | h1 | h1
      · exact .inl h1
      · exact .inr ⟨Nat.le_of_not_lt h1, hlt'⟩
      · exact .inr ⟨h1, hlt'⟩
    | false =>
      refine .inr ⟨Nat.le_of_not_lt fun hb => ?_, hlt'⟩
      exact (g11 hfr i).2 (hxs _ _ hb)

theorem CX.Ok.ofWl {Ev : Env P} {T : List (Nat × (List AV → (AV → Prop) → Prop))} {U : List (Nat × (List AV → List Blk → (AV → List Blk → Prop) → Prop))} {u : Bool} {wl : WLT Ev.β} (hT : CallsOk P T) (hS : SCallsOk P U)
    (hwl : ∀ c tm hp b K, wl c tm hp b K → W Ev c ⟨tm, hp, b⟩ (fun e s => K e s.tm s.hp s.b)) : CX.Ok Ev ⟨T, U, wl, Ev.Y, u⟩ := ⟨hT, hS, hwl, rfl⟩

/-- a function's contract, with what its loops come to -/
theorem PCall.ofFnW {f n : Nat} {fn : Func} {args : List AV} {x : AV} {T : List (Nat × (List AV → (AV → Prop) → Prop))} {U : List (Nat × (List AV → List Blk → (AV → List Blk → Prop) → Prop))} {u : Bool} (wl : ∀ β : Type, WLT β) (hm : P.follows .mixedOrders = true)
    (hT : CallsOk P T) (hS : SCallsOk P U) (hwl : ∀ (Ev : Env P) c tm hp b K, wl Ev.β c tm hp b K → W Ev c ⟨tm, hp, b⟩ (fun e s => K e s.tm s.hp s.b)) (hf : P.funcs[f]? = some fn) (hn : (fn.name == "runtime.NumGoroutine") = false) (hargs : args.map AV.view = args)
    (h : ∀ (Ev : Env P) (b : Ev.β), wpFn P ⟨T, U, wl Ev.β, Ev.Y, u⟩ n fn args b (fun y _ => y = x)) : PCall P f args x := by
  cases hb : fn.body with
  | some c =>
    refine PCall.ofWS hf hb hn hargs fun Ev b => ?_
    have h1 := h Ev b
    unfold wpFn at h1
    rw [hb] at h1
    refine wpc_sound hm (CX.Ok.ofWl hT hS (hwl Ev)) h1 fun e tm hp b hK => ?_
    obtain ⟨g1, ys, g2, z, g3, rfl⟩ := fnK_sound hK
    exact ⟨g1, ys, g2, g3⟩
  | none =>
    have := h (Env.none P none) ()
    unfold wpFn at this
    rw [hb] at this
    exact this.elim

/-- a function's contract, with what its loops come to; less is said of its result -/
theorem PCall.ofFnL {f n : Nat} {fn : Func} {args : List AV} {x : AV} {T : List (Nat × (List AV → (AV → Prop) → Prop))} {U : List (Nat × (List AV → List Blk → (AV → List Blk → Prop) → Prop))} {u : Bool} (wl : ∀ β : Type, WLT β) (hm : P.follows .mixedOrders = true)
    (hT : CallsOk P T) (hS : SCallsOk P U) (hwl : ∀ (Ev : Env P) c tm hp b K, wl Ev.β c tm hp b K → W Ev c ⟨tm, hp, b⟩ (fun e s => K e s.tm s.hp s.b)) (hf : P.funcs[f]? = some fn) (hn : (fn.name == "runtime.NumGoroutine") = false) (hargs : args.map AV.view = args)
    (h : ∀ (Ev : Env P) (b : Ev.β), wpFn P ⟨T, U, wl Ev.β, Ev.Y, u⟩ n fn args b (fun y _ => LeT y x)) : PCall P f args x := by
  cases hb : fn.body with
  | some c =>
    refine PCall.ofWL hf hb hn hargs fun Ev b => ?_
    have h1 := h Ev b
    unfold wpFn at h1
    rw [hb] at h1
    refine wpc_sound hm (CX.Ok.ofWl hT hS (hwl Ev)) h1 fun e tm hp b hK => ?_
    exact fnK_sound hK
  | none =>
    have := h (Env.none P none) ()
    unfold wpFn at this
    rw [hb] at this
    exact this.elim

/-- how a body ends whose blocks are handed out -/
def fnKS {β : Type} (P : Program) (fn : Func) (R : AV → List Blk → β → Prop) : Exit → List AV → List Blk → β → Prop := fun e tm hp b =>
  BIf (match e with | .ret => true | .normal => true | _ => false) (match resAs P hp tm fn.results.toList with
    | some ys => R (resV ys) hp b
    | none => False) False
/-- of a function that hands out blocks -/
def wpFnS {β : Type} (P : Program) (X : CX β) (n : Nat) (fn : Func) (args : List AV) (b : β) (R : AV → List Blk → β → Prop) : Prop :=
  match fn.body with
  | some c => wpc P X n c (startTm fn args) [] b (fnKS P fn R)
  | none => False
theorem fnKS_sound {fn : Func} {R : AV → List Blk → Ev.β → Prop} {e : Exit} {tm : List AV} {hp : List Blk} {b : Ev.β} (h : fnKS P fn R e tm hp b) : FnPost P fn R e ⟨tm, hp, b⟩ := by
  unfold fnKS at h
  obtain ⟨he, h⟩ := h.elim'
  split at h
  · rename_i ys hys
    refine ⟨?_, ys, hys, h⟩
    cases e <;> simp at he ⊢
  · exact h.elim
/-- a function that hands out blocks -/
theorem FCall.ofFnW {f n : Nat} {fn : Func} {args : List AV} {x : AV} {hp1 : List Blk} {T : List (Nat × (List AV → (AV → Prop) → Prop))} {U : List (Nat × (List AV → List Blk → (AV → List Blk → Prop) → Prop))} {u : Bool} (wl : ∀ β : Type, WLT β) (hm : P.follows .mixedOrders = true)
    (hT : CallsOk P T) (hS : SCallsOk P U) (hwl : ∀ Ev : Env P, ∀ c tm hp b K, wl Ev.β c tm hp b K → W Ev c ⟨tm, hp, b⟩ (fun e s => K e s.tm s.hp s.b)) (hf : P.funcs[f]? = some fn) (hn : (fn.name == "runtime.NumGoroutine") = false) (hargs : args.map AV.view = args) (hfro : hp1.all (fun b => !b.fro) = true)
    (h : ∀ (Ev : Env P) (b : Ev.β), wpFnS P ⟨T, U, wl Ev.β, Ev.Y, u⟩ n fn args b fun y hp _ => y = x ∧ hp = hp1) : FCall P f args x hp1 := by
  cases hb : fn.body with
  | none =>
    have := h (Env.none P none) (() : Unit)
    simp only [wpFnS, hb] at this
  | some c =>
    refine FCall.ofW hf hb hn hargs hfro fun Ev b => ?_
    have h1 := h Ev b
    simp only [wpFnS, hb] at h1
    exact wpc_sound hm (CX.Ok.ofWl hT hS (hwl Ev)) h1 fun e tm hp b hK => fnKS_sound hK

/-- arguments of which more is known -/
inductive LeX : AV → AV → Prop where
  | le {x y : AV} (h : LeT x y) : LeX x y
  | full (k : Nat) (xs : List (List Dv)) : LeX (.full k xs) (.d (.sl k xs))
theorem LeX.rv {S : Pr} {w : World} {m : List MB} {yv : Option Nat} {x y : AV} {v : Value} (h : LeX x y) (hr : RV S w m yv x v) : RV S w m yv y v := by
  cases h with
  | le h => exact h.rv hr
  | full => cases hr with
    | full h => exact .d h
inductive LeTs : List AV → List AV → Prop where
  | nil : LeTs [] []
  | cons {x y : AV} {xs ys : List AV} (h : LeX x y) (hs : LeTs xs ys) : LeTs (x :: xs) (y :: ys)
theorem LeTs.len {xs ys : List AV} (h : LeTs xs ys) : xs.length = ys.length := by
  induction h with
  | nil => rfl
  | cons _ _ ih => simp [ih]
theorem LeTs.at {xs ys : List AV} (h : LeTs xs ys) : ∀ (i : Nat) (y : AV), ys[i]? = some y → ∃ x, xs[i]? = some x ∧ LeX x y := by
  induction h with
  | nil => intro i y h; simp at h
  | cons h _ ih =>
    intro i y hy
    cases i with
    | zero => simp at hy; subst hy; exact ⟨_, rfl, h⟩
    | succ i => simpa using ih i y (by simpa using hy)
theorem PCall.leArgs {P : Program} {f : Nat} {args args' : List AV} {x : AV} (h : LeTs args args') (hp : PCall P f args' x) : PCall P f args x := by
  refine ⟨hp.1, fun S w vs hl hvs hlt hgl => hp.2 S w vs (h.len ▸ hl) (fun i y v h1 h2 => ?_) hlt hgl⟩
  obtain ⟨x, h3, h4⟩ := h.at i y h1
  exact h4.rv (hvs i x v h3 h2)
theorem LeTs.refl : ∀ xs : List AV, LeTs xs xs
  | [] => .nil
  | _ :: xs => .cons (.le .rfl) (LeTs.refl xs)

/-- no loops but such as are run round by round -/
def wlNo (β : Type) : WLT β := fun _ _ _ _ _ => False
theorem wlNo_ok (Ev : Env P) : ∀ c tm hp b K, wlNo Ev.β c tm hp b K → W Ev c ⟨tm, hp, b⟩ (fun e s => K e s.tm s.hp s.b) := fun _ _ _ _ _ h => h.elim

end
end Go.Proofs.YtkjmhfbjdeidjaaDoor.Am

/- What a given argument reads as, told by abstract values. -/
namespace Go.Proofs.YtkjmhfbjdeidjaaDoor.Am
set_option linter.unusedVariables false
open Go Go.RowKit

inductive Ty where
  | int (k : IntKind)
  | bool
  | str
  | sl (r : List Ty)

mutual
inductive HasTy : Ty → Dv → Prop
  | int (k : IntKind) (n : Int) (h : (Lit.int k n).wf = true) : HasTy (.int k) (.s (.int k n))
  | bool (b : Bool) : HasTy .bool (.s (.bool b))
  | str (s : ByteArray) (h : s.size ≤ maxLen) : HasTy .str (.s (.string s))
  | sl (r : List Ty) (xs : List (List Dv)) (hl : xs.length ≤ maxLen) (h : ∀ row, row ∈ xs → HasTys r row) : HasTy (.sl r) (.sl r.length xs)
inductive HasTys : List Ty → List Dv → Prop
  | nil : HasTys [] []
  | cons {t : Ty} {x : Dv} {ts : List Ty} {xs : List Dv} (h : HasTy t x) (hs : HasTys ts xs) : HasTys (t :: ts) (x :: xs)
end

def flatFs (P : Program) (g : TypeId → Option (List Ty)) : List Field → Nat → Option (List Ty)
  | [], _ => some []
  | f :: fs, off => if f.offset = off then match g f.type with
      | some r => if P.cellsOf f.type = r.length then (flatFs P g fs (off + r.length)).map (r ++ ·) else none
      | none => none
    else none
/-- a type's cells -/
def flat (P : Program) : Nat → TypeId → Option (List Ty)
  | 0, _ => none
  | n + 1, t => match P.underlying t with
    | some .bool => some [.bool]
    | some (.int k) => some [.int k]
    | some .string => some [.str]
    | some (.slice e) => match flat P n e with
      | some r => if P.cellsOf e = r.length then some [.sl r] else none
      | none => none
    | some (.struct fs) => match flatFs P (flat P n) fs.toList 0 with
      | some r => if P.cellsOf t = r.length then some r else none
      | none => none
    | some (.array k e) => match flat P n e with
      | some r => if P.cellsOf e = r.length ∧ P.cellsOf t = k * r.length then some (List.replicate k r).flatten else none
      | none => none
    | _ => none

/-- cells that are told -/
inductive Rw (S : Pr) (w : World) : List Ty → List Dv → List Value → Prop
  | nil : Rw S w [] [] []
  | cons {t : Ty} {x : Dv} {v : Value} {ts : List Ty} {xs : List Dv} {vs : List Value} (h : HasTy t x) (hr : DR S w x v) (h1 : v.oneCell' = true) (hs : Rw S w ts xs vs) : Rw S w (t :: ts) (x :: xs) (v :: vs)

section
variable {S : Pr} {w : World}
theorem Rw.tys {ts : List Ty} {xs : List Dv} {vs : List Value} (h : Rw S w ts xs vs) : HasTys ts xs := by
  induction h with
  | nil => exact .nil
  | cons h _ _ _ ih => exact .cons h ih
theorem Rw.len {ts : List Ty} {xs : List Dv} {vs : List Value} (h : Rw S w ts xs vs) : xs.length = ts.length ∧ vs.length = ts.length := by
  induction h with
  | nil => exact ⟨rfl, rfl⟩
  | cons _ _ _ _ ih => simp [ih.1, ih.2]
theorem Rw.append {ts ts' : List Ty} {xs xs' : List Dv} {vs vs' : List Value} (h : Rw S w ts xs vs) (h' : Rw S w ts' xs' vs') : Rw S w (ts ++ ts') (xs ++ xs') (vs ++ vs') := by
  induction h with
  | nil => exact h'
  | cons h hr h1 _ ih => exact .cons h hr h1 ih
theorem Rw.at {ts : List Ty} {xs : List Dv} {vs : List Value} (h : Rw S w ts xs vs) : ∀ (j : Nat) (c : Dv), xs[j]? = some c → ∃ v, vs[j]? = some v ∧ DR S w c v ∧ v.oneCell' = true := by
  induction h with
  | nil => intro j c h; simp at h
  | cons h hr h1 _ ih =>
    intro j c hc
    cases j with
    | zero => simp at hc; subst hc; exact ⟨_, rfl, hr, h1⟩
    | succ j => simpa using ih j c (by simpa using hc)
end

theorem pickRows {α : Type} {Q : Nat → α → Prop} : ∀ (n : Nat), (∀ i, i < n → ∃ x, Q i x) → ∃ xs : List α, xs.length = n ∧ ∀ (i : Nat) (x : α), xs[i]? = some x → Q i x
  | 0, _ => ⟨[], rfl, fun i x h => by simp at h⟩
  | n + 1, h => by
    obtain ⟨xs, h1, h2⟩ := pickRows n fun i hi => h i (by omega)
    obtain ⟨x, hx⟩ := h n (by omega)
    refine ⟨xs ++ [x], by simp [h1], fun i y hy => ?_⟩
    rcases Nat.lt_or_ge i n with hi | hi
    · rw [List.getElem?_append_left (by omega)] at hy; exact h2 i y hy
    · rw [List.getElem?_append_right (by omega)] at hy
      cases hk : i - xs.length with
      | zero =>
        rw [hk] at hy; simp at hy; subst hy
        have : i = n := by omega
        subst this; exact hx
      | succ k => rw [hk] at hy; simp at hy

theorem cell_block {w : World} {a : Addr} {v : Value} (h : w.cell? a = some v) : a.block < w.heap.size := by
  unfold World.cell? at h
  cases hh : w.heap[a.block]? with
  | none => rw [hh] at h; cases h
  | some o => exact (Array.getElem?_eq_some_iff.1 hh).1

section
variable {H : Type} {enc : TypeId × Value → H} {P : Program} {w : World} {spare : Nat → Bool} {held : Bool}

theorem read_flatFs {g : TypeId → Option (List Ty)} {fuel : Nat} (ih : ∀ (t : TypeId) (cs : List Value) (x : DataW H × List MemPlace) (tys : List Ty), g t = some tys → DataW.trod enc P w 0 spare held fuel t cs = some x → ∃ row, Rw (fun b _ => b < w.heap.size) w tys row cs) :
    ∀ (fs : List Field) (off : Nat) (cs : List Value) (tys : List Ty), flatFs P g fs off = some tys →
    (∀ f, f ∈ fs → ∃ x, DataW.trod enc P w 0 spare held fuel f.type ((cs.drop f.offset).take (P.cellsOf f.type)) = some x) → cs.length = off + tys.length →
    ∃ row, Rw (fun b _ => b < w.heap.size) w tys row (cs.drop off)
  | [], off, cs, tys, h, _, hl => by
    rw [flatFs] at h; cases h
    rw [List.drop_eq_nil_of_le (by simp at hl; omega)]
    exact ⟨[], .nil⟩
  | f :: fs, off, cs, tys, h, hf, hl => by
    rw [flatFs] at h
    split at h <;> try (cases h; done)
    rename_i ho
    split at h <;> try (cases h; done)
    rename_i r hr
    split at h <;> try (cases h; done)
    rename_i hc
    simp only [Option.map_eq_some_iff] at h
    obtain ⟨tys', h1, rfl⟩ := h
    obtain ⟨x, hx⟩ := hf f (List.mem_cons_self ..)
    obtain ⟨row, h2⟩ := ih f.type _ _ r hr hx
    obtain ⟨row', h3⟩ := read_flatFs ih fs (off + r.length) cs tys' h1 (fun f hm => hf f (List.mem_cons_of_mem _ hm)) (by simp at hl; omega)
    refine ⟨row ++ row', ?_⟩
    have e : cs.drop off = (cs.drop off).take r.length ++ cs.drop (off + r.length) := by
      rw [← List.drop_drop, List.take_append_drop]
    rw [e]
    rw [ho, hc] at h2
    exact h2.append h3

theorem read_flat : ∀ (n fuel : Nat) (t : TypeId) (cs : List Value) (x : DataW H × List MemPlace) (tys : List Ty), flat P n t = some tys → DataW.trod enc P w 0 spare held fuel t cs = some x →
    ∃ row, Rw (fun b _ => b < w.heap.size) w tys row cs
  | 0, _, _, _, _, _, h, _ => by simp [flat] at h
  | n + 1, fuel, t, cs, x, tys, h, ht => by
    rw [flat] at h
    split at h
    · rename_i hu
      cases h
      obtain ⟨b, rfl, rfl⟩ := DataW.trod_bool hu ht
      exact ⟨_, .cons (.bool b) (.s _) rfl .nil⟩
    · rename_i k hu
      cases h
      obtain ⟨m, rfl, rfl, hw⟩ := DataW.trod_int hu ht
      exact ⟨_, .cons (.int k m hw) (.s _) rfl .nil⟩
    · rename_i hu
      cases h
      obtain ⟨s, rfl, rfl, hw⟩ := DataW.trod_string hu ht
      exact ⟨_, .cons (.str s hw) (.s _) rfl .nil⟩
    · rename_i e hu
      split at h <;> try (cases h; done)
      rename_i r hr
      split at h <;> try (cases h; done)
      rename_i hc
      cases h
      rcases DataW.trod_slice hu ht with ⟨rfl, rfl⟩ | ⟨a, len, cap, elems, rest, m, rfl, rfl, rfl, _, hlc, hcm, hel, hes, _, _⟩
      · exact ⟨[.sl r.length []], .cons (.sl r [] (Nat.zero_le _) (fun row hr => by cases hr)) (.nil _) rfl .nil⟩
      · have hrow : ∀ i, i < len → ∃ row, ∃ cs' : List Value, (∀ j, j < r.length → w.cell? ((a.add (i * r.length)).add j) = cs'[j]?) ∧ cs'.length = r.length ∧ Rw (fun b _ => b < w.heap.size) w r row cs' := by
          intro i hi
          have h1 := hes i hi
          have h2 : ∃ y, elems[i]? = some y := ⟨elems[i]'(by omega), by simp⟩
          obtain ⟨y, hy⟩ := h2
          rw [hy, hc] at h1
          simp only [Option.bind_eq_some_iff] at h1
          obtain ⟨cs', h3, h4⟩ := h1
          obtain ⟨row, h5⟩ := read_flat n m e cs' y r hr h4
          have h6 := World.cells?_some h3
          exact ⟨row, cs', h6.2.2, h6.2.1, h5⟩
        obtain ⟨xs, hxl, hxs⟩ := pickRows len hrow
        refine ⟨[.sl r.length xs], .cons (.sl r xs (by omega) fun row hm => ?_) ?_ rfl .nil⟩
        · obtain ⟨i, hi⟩ := List.mem_iff_getElem?.1 hm
          obtain ⟨_, _, _, h⟩ := hxs i row hi
          exact h.tys
        · subst hxl
          have key : ∀ (i : Nat) (row : List Dv) (j : Nat) (c : Dv), xs[i]? = some row → row[j]? = some c → a.spot = none ∧ ∃ v, w.cell? ⟨a.block, a.off + (i * r.length + j), none⟩ = some v ∧ DR (fun b _ => b < w.heap.size) w c v ∧ v.oneCell' = true := by
            intro i row j c hi hj
            have hil : i < xs.length := (List.getElem?_eq_some_iff.1 hi).1
            obtain ⟨cs', g1, g2, g3⟩ := hxs i row hi
            obtain ⟨v, g4, g5, g6⟩ := g3.at j c hj
            have hjl : j < r.length := by
              have := (List.getElem?_eq_some_iff.1 hj).1
              have := g3.len.1; omega
            have g7 := g1 j hjl
            rw [g4] at g7
            have hsp : a.spot = none := by
              cases hx0 : xs[0]? with
              | none => rw [List.getElem?_eq_none_iff] at hx0; omega
              | some row0 =>
                obtain ⟨cs0, e1, e2, e3⟩ := hxs 0 row0 hx0
                have e4 := e1 0 (by omega)
                have e5 : ∃ v0, cs0[0]? = some v0 := ⟨cs0[0]'(by omega), by simp⟩
                obtain ⟨v0, e5⟩ := e5
                rw [e5] at e4
                have := World.cell?_spot e4
                simpa [Addr.add] using this
            refine ⟨hsp, v, ?_, g5, g6⟩
            obtain ⟨ab, ao, as⟩ := a
            simp only at hsp
            subst hsp
            rw [WideShapes.add_plain, WideShapes.add_plain] at g7
            rw [← g7, Nat.add_assoc]
          refine .sl r.length xs a cap (fun i j => (w.cell? ⟨a.block, a.off + (i * r.length + j), none⟩).getD default) ?_ ?_ ?_ ?_ ?_ hlc ?_
          · intro i row hi
            obtain ⟨_, _, _, h⟩ := hxs i row hi
            exact h.len.1
          · intro i row j c hi hj
            obtain ⟨_, v, hv, _⟩ := key i row j c hi hj
            exact cell_block (a := ⟨a.block, a.off + (i * r.length + j), none⟩) hv
          · intro i row j c hi hj
            obtain ⟨_, v, hv, _⟩ := key i row j c hi hj
            rw [hv]; rfl
          · intro i row j c hi hj
            obtain ⟨_, v, hv, h, _⟩ := key i row j c hi hj
            rw [hv]; exact h
          · intro i row j c hi hj
            obtain ⟨_, v, hv, _, h⟩ := key i row j c hi hj
            rw [hv]; exact h
          · cases hx : xs with
            | nil => exact .inr (.inr rfl)
            | cons row0 xs0 =>
              cases hrl : r with
              | nil => exact .inr (.inl rfl)
              | cons r0 rs =>
                left
                have h0 : xs[0]? = some row0 := by rw [hx]; rfl
                obtain ⟨_, _, _, h⟩ := hxs 0 row0 h0
                have hl := h.len.1
                have : ∃ c, row0[0]? = some c := ⟨row0[0]'(by rw [hl, hrl]; simp), by simp⟩
                obtain ⟨c, hc'⟩ := this
                exact (key 0 row0 0 c h0 hc').1
    · rename_i fs hu
      split at h <;> try (cases h; done)
      rename_i r hr
      split at h <;> try (cases h; done)
      rename_i hc
      cases h
      obtain ⟨xs, m, rfl, rfl, hl, hxl, hf⟩ := DataW.trod_struct hu ht
      have := read_flatFs (fun t cs x tys h1 h2 => read_flat n m t cs x tys h1 h2) fs.toList 0 cs tys hr (fun f hm => by
        obtain ⟨i, hi⟩ := List.mem_iff_getElem?.1 hm
        have h1 := hf i f (by simpa using hi)
        have hil : i < fs.size := by
          have := (List.getElem?_eq_some_iff.1 hi).1
          simpa using this
        exact ⟨xs[i]'(by omega), by rw [h1]; simp⟩) (by omega)
      simpa using this
    · rename_i k e hu
      split at h <;> try (cases h; done)
      rename_i r hr
      split at h <;> try (cases h; done)
      rename_i hc
      cases h
      obtain ⟨xs, m, rfl, rfl, hl, hxl, hf⟩ := DataW.trod_array hu ht
      have key : ∀ k', k' ≤ k → ∃ row, Rw (fun b _ => b < w.heap.size) w (List.replicate k' r).flatten row (cs.take (k' * r.length)) := by
        intro k'
        induction k' with
        | zero => intro _; exact ⟨[], by simpa using Rw.nil⟩
        | succ k' ih =>
          intro hk
          obtain ⟨row, h1⟩ := ih (by omega)
          have h2 := hf k' (by omega)
          rw [hc.1] at h2
          have h3 : xs[k']? = some (xs[k']'(by omega)) := by simp
          rw [h3] at h2
          obtain ⟨row2, h4⟩ := read_flat n m e _ _ r hr h2
          refine ⟨row ++ row2, ?_⟩
          have e1 : (List.replicate (k' + 1) r).flatten = (List.replicate k' r).flatten ++ r := by
            rw [List.replicate_succ']; simp
          have e2 : cs.take ((k' + 1) * r.length) = cs.take (k' * r.length) ++ (cs.drop (k' * r.length)).take r.length := by
            rw [Nat.succ_mul, List.take_add]
          rw [e1, e2]
          exact h1.append h4
      obtain ⟨row, h1⟩ := key k (Nat.le_refl _)
      refine ⟨row, ?_⟩
      rwa [List.take_of_length_le (by omega)] at h1
    · cases h
end
end Go.Proofs.YtkjmhfbjdeidjaaDoor.Am

/- From a contract in abstract values to a law: it returns true, its arguments read as they did. -/
namespace Go.Proofs.YtkjmhfbjdeidjaaDoor.Am
set_option linter.unusedVariables false
open Go Go.RowKit Go.WideShapes Go.ChangeShapes

section
variable {H : Type} {enc : TypeId × Value → H} {P : Program}

theorem trodAll_stays (hl : laidOutB P = true) {W W' : World} {sp : Nat → Bool} (hb : Below W.heap.size W W') : ∀ {ts : List TypeId} {vs : List Value} {ds : List (DataW H)} {ps : List MemPlace},
    (ts.all fun t => P.readableRec t && decide (t < P.types.size)) = true → DataW.TrodAll enc P W 0 (fun _ => true) true ts vs ds ps → (∀ x ∈ ps, x.block < W.heap.size) → (∀ x ∈ ps, sp x.block = true) →
    DataW.TrodAll enc P W' 0 sp true ts vs ds ps
  | [], [], [], ps, _, h, _, _ => h
  | t :: ts, v :: vs, d :: ds, ps, hr, h, hlt, hsp => by
    obtain ⟨p, q, h1, h2, rfl⟩ := h
    simp only [List.all_cons, Bool.and_eq_true, decide_eq_true_eq] at hr
    exact ⟨p, q, WideElems.Trod_stays hl hr.1.1 hr.1.2 h1 (fun x hx => hb.same (hlt x (by simp [hx]))) (fun x hx => hsp x (by simp [hx])),
      trodAll_stays hl hb hr.2 h2 (fun x hx => hlt x (by simp [hx])) (fun x hx => hsp x (by simp [hx])), rfl⟩

theorem trodAll_len {W : World} {b : Nat} {sp : Nat → Bool} {hd : Bool} : ∀ {ts : List TypeId} {vs : List Value} {ds : List (DataW H)} {ps : List MemPlace}, DataW.TrodAll enc P W b sp hd ts vs ds ps → ds.length = ts.length
  | [], [], [], _, _ => rfl
  | t :: ts, v :: vs, d :: ds, _, h => by
    obtain ⟨p, q, _, h2, _⟩ := h
    simp [trodAll_len h2]

/-- the law's last step -/
theorem law_post {f : Func} {s : ChangeSpec} {apart fresh handsOn again : Bool} {W W' : World} {args : Array Value} {ds gs : List (DataW H)} {before : List MemPlace} {tb : TypeId}
    (hl : laidOutB P = true) (hvars : s.vars = []) (hres : f.resultTypes = #[tb]) (htb : P.underlying tb = some .bool)
    (hread : (f.params.toList.all fun t => P.readableRec t && decide (t < P.types.size)) = true)
    (hfn : ∀ ds : List (DataW H), ds.length = f.params.size → s.fn H ds = { results := [.lit (.bool true)], args := ds })
    (hW : DataW.Whole enc P f.params.toList s.vars apart W args.toList ds gs before) (hb : Below W.heap.size W W') :
    s.post enc P f apart fresh handsOn again W args (.bool true) W' := by
  have hlt : ∀ p ∈ before, p.block < W.heap.size := fun p hp => hW.lt p hp
  have hold : ∀ p ∈ before, (fun b => decide (b < W.heap.size)) p.block = true := fun p hp => by simpa using hlt p hp
  have hW0 := hW
  obtain ⟨p, q, hA, hV, rfl, hz, hn⟩ := hW0
  rw [hvars] at hV
  obtain ⟨rfl, rfl⟩ := trodVars_none hV
  have hlen : ds.length = f.params.size := by
    have := trodAll_len hA
    simpa using this
  have hspec := hfn ds hlen
  simp only [List.append_nil] at *
  have hargs : ∀ sp : Nat → Bool, (∀ x ∈ p, sp x.block = true) → DataW.TrodAll enc P W' 0 sp true f.params.toList args.toList ds p :=
    fun sp hsp => trodAll_stays hl hb hread hA hlt hsp
  have hr : ∀ (b : Nat) (sp : Nat → Bool) (hd : Bool), DataW.TrodAll enc P W' b sp hd f.resultTypes.toList ((Value.bool true).resultList f.resultTypes.size) [DataW.lit (.bool true)] [] := by
    intro b sp hd
    rw [hres]
    exact trodAll_cons_mk (shut_bool htb _) trodAll_mk0
  refine ⟨ds, [], p, [], p, [], by simpa using hW, ?_, ?_, ?_, ?_, fun _ => ?_⟩
  · simp only [List.append_nil, hspec]; exact hr _ _ _
  · simp only [List.append_nil, hspec]; exact hargs _ hold
  · simp only [List.append_nil, hspec, hvars]; exact rfl
  · exact World.keptBut_mono (fun x hx => ⟨hx, .inr (.inl hx)⟩) (hb.frame (· ∈ p))
  · refine ⟨ok_one hres rfl (okWide_bool_mk htb _), [DataW.lit (.bool true)] ++ ds, [], p, ⟨p, [], ?_, ?_, by simp, ?_, ?_⟩, fun x hx _ => hx⟩
    · have := trodAll_append (hargs (fun _ => true) (fun _ _ => rfl)) (hr 0 (fun _ => true) true)
      simpa using this
    · rw [hvars]; rfl
    · intro b off hp
      rw [hb.frozen (hlt _ hp)]
      exact hz b off hp
    · intro ha; exact hn ha

/-- arguments as the law's function gets them -/
inductive ArgsR (S : Pr) (w : World) : List AV → List Value → Prop
  | nil : ArgsR S w [] []
  | cons {x : AV} {v : Value} {xs : List AV} {vs : List Value} (h : RV S w [] none x v) (hs : ArgsR S w xs vs) : ArgsR S w (x :: xs) (v :: vs)
theorem ArgsR.at {S : Pr} {w : World} {xs : List AV} {vs : List Value} (h : ArgsR S w xs vs) : xs.length = vs.length ∧ ∀ (i : Nat) (x : AV) (v : Value), xs[i]? = some x → vs[i]? = some v → RV S w [] none x v := by
  induction h with
  | nil => exact ⟨rfl, fun i x v h => by simp at h⟩
  | cons h _ ih =>
    refine ⟨by simp [ih.1], fun i x v h1 h2 => ?_⟩
    cases i with
    | zero => simp at h1 h2; subst h1; subst h2; exact h
    | succ i => exact ih.2 i x v (by simpa using h1) (by simpa using h2)

/-- all cells of a heap -/
abbrev AllOf (w : World) : Pr := fun b _ => b < w.heap.size

theorem law_calls {fid : Nat} {f : Func} {s : ChangeSpec} {apart fresh handsOn again : Bool} {W : World} {args : Array Value} {ds gs : List (DataW H)} {before : List MemPlace} {tb : TypeId}
    (hl : laidOutB P = true) (hvars : s.vars = []) (hres : f.resultTypes = #[tb]) (htb : P.underlying tb = some .bool)
    (hread : (f.params.toList.all fun t => P.readableRec t && decide (t < P.types.size)) = true)
    (hfn : ∀ ds : List (DataW H), ds.length = f.params.size → s.fn H ds = { results := [.lit (.bool true)], args := ds })
    (hW : DataW.Whole enc P f.params.toList s.vars apart W args.toList ds gs before)
    (avs : List AV) (ha : ArgsR (AllOf W) W avs args.toList) (hp : PCall P fid avs (.d (.s (.bool true)))) (hgl : Glob (AllOf W) W) :
    Calls P fid args W fun e W' => ∃ v, e = .returned v ∧ s.post enc P f apart fresh handsOn again W args v W' := by
  obtain ⟨h1, h2⟩ := ha.at
  have := callsIn_wide.1 (hp.2 (AllOf W) W args.toList h1 h2 (fun b i h => h) hgl)
  refine Calls.mono this ?_
  rintro e W' ⟨v, S', rfl, hb, _, _, hr⟩
  refine ⟨v, rfl, ?_⟩
  have hv : v = .bool true := by
    have : AV.view (.d (.s (.bool true))) = .d (.s (.bool true)) := rfl
    rw [this] at hr
    cases hr with
    | d h => cases h; rfl
  subst hv
  exact law_post hl hvars hres htb hread hfn hW hb

/-- an argument that is a slice -/
theorem arg_slice {W : World} {b0 n : Nat} {r : Reach} {sp : Nat → Bool} {hd : Bool} {t e : TypeId} {v : Value} {d : DataW H} {ps : List MemPlace} {ty : Ty} (hu : P.underlying t = some (.slice e)) (hf : flat P n t = some [ty])
    (hval : Value.okWide P W r b0 t v) (h : DataW.Trod enc P W 0 sp hd t v d ps) : ∃ x, HasTy ty x ∧ RV (AllOf W) W [] none (.d x) v := by
  obtain ⟨fuel, h⟩ := h
  obtain ⟨a, len, cap, rfl⟩ := okWide_slice hu hval
  obtain ⟨row, hr⟩ := read_flat n fuel t _ _ _ hf h
  cases hr with
  | cons h hr h1 hs => exact ⟨_, h, .d hr⟩
theorem arg_int {W : World} {b0 : Nat} {r : Reach} {sp : Nat → Bool} {hd : Bool} {t : TypeId} {k : IntKind} {v : Value} {d : DataW H} {ps : List MemPlace} (hu : P.underlying t = some (.int k))
    (hval : Value.okWide P W r b0 t v) (h : DataW.Trod enc P W 0 sp hd t v d ps) : ∃ x, (Lit.int k x).wf = true ∧ RV (AllOf W) W [] none (.d (.s (.int k x))) v := by
  obtain ⟨x, rfl, _, _, hw⟩ := open_int hu hval h
  exact ⟨x, hw, .d (.s _)⟩
theorem arg_agg {W : World} {b0 n : Nat} {r : Reach} {sp : Nat → Bool} {hd : Bool} {t : TypeId} {v : Value} {d : DataW H} {ps : List MemPlace} {tys : List Ty} (hu : (∃ fs, P.underlying t = some (.struct fs)) ∨ ∃ k e, P.underlying t = some (.array k e)) (hf : flat P n t = some tys)
    (hval : Value.okWide P W r b0 t v) (h : DataW.Trod enc P W 0 sp hd t v d ps) : ∃ row, HasTys tys row ∧ RV (AllOf W) W [] none (.agg (row.map .d)) v := by
  obtain ⟨fuel, h⟩ := h
  have : ∃ cs, v = .agg cs := by
    unfold Value.okWide at hval
    rcases hu with ⟨fs, hu⟩ | ⟨k, e, hu⟩ <;> rw [hu] at hval <;> obtain ⟨cs, h, _⟩ := hval <;> exact ⟨cs, h⟩
  obtain ⟨cs, rfl⟩ := this
  obtain ⟨row, hr⟩ := read_flat n fuel t _ _ _ hf h
  refine ⟨row, hr.tys, .agg ?_ fun i c v h1 h2 => ?_⟩
  · have := hr.len
    simp [Value.cells] at this
    simp; omega
  · simp only [List.getElem?_map, Option.map_eq_some_iff] at h1
    obtain ⟨x, h1, rfl⟩ := h1
    obtain ⟨v', h3, h4, _⟩ := hr.at i x h1
    simp [Value.cells] at h3
    rw [h2] at h3; cases h3
    exact .d h4
end
end Go.Proofs.YtkjmhfbjdeidjaaDoor.Am

/- Package-level variables of plain data: what the row lists of them tells their cells. -/
namespace Go.Proofs.YtkjmhfbjdeidjaaDoor.Am
set_option linter.unusedVariables false
open Go Go.RowKit Go.Proofs Go.ChangeShapes Go.WideShapes Go.ChangeAt

/-- the cells of a datum of numbers and bools -/
def litsF {H : Type} : Nat → DataW H → Option (List Value)
  | 0, _ => none
  | _ + 1, .lit (.int k m) => some [.int k m]
  | _ + 1, .lit (.bool b) => some [.bool b]
  | n + 1, .agg ds => ds.foldr (fun d acc => match litsF n d, acc with | some a, some b => some (a ++ b) | _, _ => none) (some [])
  | _, _ => none
def litsL {H : Type} (n : Nat) (ds : List (DataW H)) : Option (List Value) := ds.foldr (fun d acc => match litsF n d, acc with | some a, some b => some (a ++ b) | _, _ => none) (some [])
theorem litsL_cons {H : Type} {n : Nat} {d : DataW H} {ds : List (DataW H)} {vs : List Value} (h : litsL n (d :: ds) = some vs) : ∃ a b, litsF n d = some a ∧ litsL n ds = some b ∧ vs = a ++ b := by
  unfold litsL at h
  rw [List.foldr_cons] at h
  split at h
  · rename_i a b h1 h2; cases h; exact ⟨a, b, h1, h2, rfl⟩
  · cases h

section
variable {H : Type} {enc : TypeId × Value → H} {P : Program} {w : World} {spare : Nat → Bool} {held : Bool}
theorem lits_segs {k c : Nat} : ∀ (xs : List (DataW H × List MemPlace)) (cs : List Value) (vs : List Value), cs.length = xs.length * c →
    (∀ (i : Nat) (y : DataW H × List MemPlace), xs[i]? = some y → ∀ ws, litsF k y.1 = some ws → (cs.drop (i * c)).take c = ws) → litsL k (xs.map (·.1)) = some vs → cs = vs
  | [], cs, vs, hl, _, h => by
    have : cs = [] := List.length_eq_zero_iff.1 (by simpa using hl)
    subst this
    simp [litsL] at h; exact h.symm
  | y :: ys, cs, vs, hl, hx, h => by
    rw [List.map_cons] at h
    obtain ⟨a, b, h1, h2, rfl⟩ := litsL_cons h
    have h3 := hx 0 y rfl a h1
    rw [List.length_cons, Nat.add_mul, Nat.one_mul] at hl
    have h4 := lits_segs (c := c) ys (cs.drop c) b (by simp; omega) (fun i y hy ws hw => by
      have := hx (i + 1) y (by simpa using hy) ws hw
      rw [List.drop_drop]
      rw [← this]; congr 2; rw [Nat.add_mul, Nat.one_mul]; omega) h2
    rw [← List.take_append_drop c cs, ← h4, ← h3]; simp
theorem lits_fields {k : Nat} {g : TypeId → Option (List Ty)} {fuel : Nat} (ih : ∀ (t : TypeId) (cs : List Value) (x : DataW H × List MemPlace) (tys : List Ty) (vs : List Value), g t = some tys → DataW.trod enc P w 0 spare held fuel t cs = some x → litsF k x.1 = some vs → cs = vs) :
    ∀ (fs : List Field) (xs : List (DataW H × List MemPlace)) (off : Nat) (cs : List Value) (tys : List Ty) (vs : List Value), flatFs P g fs off = some tys → fs.length = xs.length →
    (∀ (i : Nat) (f : Field), fs[i]? = some f → DataW.trod enc P w 0 spare held fuel f.type ((cs.drop f.offset).take (P.cellsOf f.type)) = xs[i]?) → cs.length = off + tys.length → litsL k (xs.map (·.1)) = some vs → cs.drop off = vs
  | [], [], off, cs, tys, vs, h, _, _, hl, hv => by
    rw [flatFs] at h; cases h
    simp [litsL] at hv
    rw [hv, List.drop_eq_nil_of_le (by simp at hl; omega)]
  | [], _ :: _, _, _, _, _, _, hn, _, _, _ => by simp at hn
  | _ :: _, [], _, _, _, _, _, hn, _, _, _ => by simp at hn
  | f :: fs, y :: xs, off, cs, tys, vs, h, hn, hf, hl, hv => by
    rw [flatFs] at h
    split at h <;> try (cases h; done)
    rename_i ho
    split at h <;> try (cases h; done)
    rename_i r hr
    split at h <;> try (cases h; done)
    rename_i hc
    simp only [Option.map_eq_some_iff] at h
    obtain ⟨tys', h1, rfl⟩ := h
    rw [List.map_cons] at hv
    obtain ⟨a, b, h2, h3, rfl⟩ := litsL_cons hv
    have h4 := hf 0 f rfl
    have h5 := ih f.type _ y r a hr (by simpa using h4) h2
    have h6 := lits_fields ih fs xs (off + r.length) cs tys' b h1 (by simpa using hn) (fun i f hi => by simpa using hf (i + 1) f (by simpa using hi)) (by simp at hl; omega) h3
    rw [ho, hc] at h5
    rw [← h5, ← h6, ← List.drop_drop, List.take_append_drop]
theorem lits_flat : ∀ (n fuel k : Nat) (t : TypeId) (cs : List Value) (x : DataW H × List MemPlace) (tys : List Ty) (vs : List Value), flat P n t = some tys → DataW.trod enc P w 0 spare held fuel t cs = some x → litsF k x.1 = some vs → cs = vs
  | 0, _, _, _, _, _, _, _, h, _, _ => by simp [flat] at h
  | n + 1, fuel, 0, t, cs, x, tys, vs, h, ht, hv => by simp [litsF] at hv
  | n + 1, fuel, k + 1, t, cs, x, tys, vs, h, ht, hv => by
    rw [flat] at h
    split at h
    · rename_i hu
      obtain ⟨b, rfl, rfl⟩ := DataW.trod_bool hu ht
      simp [litsF] at hv; exact hv
    · rename_i kk hu
      obtain ⟨m, rfl, rfl, hw⟩ := DataW.trod_int hu ht
      simp [litsF] at hv; exact hv
    · rename_i hu
      obtain ⟨s, rfl, rfl, hw⟩ := DataW.trod_string hu ht
      simp [litsF] at hv
    · rename_i e hu
      rcases DataW.trod_slice hu ht with ⟨rfl, rfl⟩ | ⟨a, len, cap, elems, rest, m, rfl, rfl, rfl, _⟩
      · simp [litsF] at hv
      · simp [litsF] at hv
    · rename_i fs hu
      split at h <;> try (cases h; done)
      rename_i r hr
      split at h <;> try (cases h; done)
      rename_i hc
      cases h
      obtain ⟨xs, m, rfl, rfl, hl, hxl, hf⟩ := DataW.trod_struct hu ht
      have hv : litsL k (xs.map (·.1)) = some vs := hv
      have := lits_fields (k := k) (fun t cs x tys vs h1 h2 h3 => lits_flat n m k t cs x tys vs h1 h2 h3) fs.toList xs 0 cs tys vs hr (by simp [hxl]) (fun i f hi => hf i f (by simpa using hi)) (by rw [hl, hc]; omega) hv
      simpa using this
    · rename_i kk e hu
      split at h <;> try (cases h; done)
      rename_i r hr
      split at h <;> try (cases h; done)
      rename_i hc
      cases h
      obtain ⟨xs, m, rfl, rfl, hl, hxl, hf⟩ := DataW.trod_array hu ht
      have hv : litsL k (xs.map (·.1)) = some vs := hv
      refine lits_segs (k := k) (c := P.cellsOf e) xs cs vs (by rw [hl, hc.2, hxl, hc.1]) (fun i y hy ws hw => ?_) hv
      have hi : i < kk := by rw [← hxl]; exact (List.getElem?_eq_some_iff.1 hy).1
      have h1 := hf i hi
      rw [hy] at h1
      exact lits_flat n m k e _ y r ws hr h1 hw
    · cases h
end

/-- what one listed variable gives -/
def VarAt (P : Program) (W : World) (g : Nat) (vs : List Value) : Prop := ∀ (j : Nat) (v : Value), vs[j]? = some v → W.cell? ⟨g, j, none⟩ = some v
theorem var_at {P : Program} {W : World} {n : String} {g t : Nat} {cs : Array Value} {d : DataW Unit} {p : List MemPlace} {fuel nn k : Nat} {tys : List Ty} {vs : List Value} (hg : P.globalNamed n = some g) (hv : W.var? P n = some cs)
    (ht : DataW.trod (fun _ => ()) P W 0 (fun _ => true) false fuel t cs.toList = some (d, p)) (hf : flat P nn t = some tys) (hl : litsF k d = some vs) : VarAt P W g vs := by
  have := lits_flat nn fuel k t cs.toList (d, p) tys vs hf ht hl
  intro j v hj
  rw [World.var?_cell hg hv j, ← hj, ← this]; simp
theorem glob_of {W : World} (h : ∀ g, laidTable g ≠ [] → ∀ (j : Nat) (v : Value), (laidTable g)[j]? = some v → W.cell? ⟨g, j, none⟩ = some v ∧ v.oneCell' = true) : Glob (AllOf W) W := by
  intro g j v hv
  have h1 : laidTable g ≠ [] := fun he => by rw [he] at hv; simp at hv
  obtain ⟨h2, h3⟩ := h g h1 j v hv
  exact ⟨cell_block (a := ⟨g, j, none⟩) h2, h2, h3⟩
end Go.Proofs.YtkjmhfbjdeidjaaDoor.Am

/- Iterators that own a block: the ranger lends it to them and sees it no more. -/
namespace Go.Proofs.YtkjmhfbjdeidjaaDoor.Am
set_option linter.unusedVariables false
set_option linter.unusedSimpArgs false
open Go Go.RowKit

/-- an iterator's contract; it comes with a block of its own -/
def ICallB (P : Program) (f : Nat) (args : List AV) (blk : Blk) (Sp : SpT) : Prop :=
  (∀ (as : Array Value) (w : World), (callFunc f as).run P w = .ok (.enter f as) w) ∧
  ∀ (Ev : Env P) (b : Ev.β) (Q : Ev.β → Prop), Sp Ev.Y b Q → ∀ (S X V : Pr) (w : World) (m : List MB) (hv : List (List Value)) (vs : List Value), args.length = vs.length →
    Rel S X Ev.yl w m (args.zip vs ++ ([] ++ cellPairs [blk] hv)) [blk] hv → (∀ b i, V b i → X b i) → Ev.E b S V w → Ev.N ≤ w.heap.size →
    CallsIn Fence.wide 0 P f vs.toArray w fun e w' => ∃ v b' S' V', e = .returned v ∧ Q b' ∧ Ev.E b' S' V' w'

/-- how a run ends that nobody else's blocks took part in -/
def Beh0 {P : Program} (Ev : Env P) (lo : Nat) (r : Option Nat) (S X V : Pr) (w : World) (Q : Exit → St Ev.β → Prop) (e : Exit) (a' : Act) (w' : World) : Prop :=
  ∃ s' S' X' V' m' hv', Q e s' ∧ Went Ev.L S X V w S' X' V' w' ∧ Tie Ev lo r S' X' V' w' m' [] hv' s'.rs s'.b a'

/-- as W, where the activation's blocks are its own alone: they may be forgotten -/
def W0 {P : Program} (Ev : Env P) (c : Code) (s : St Ev.β) (Q : Exit → St Ev.β → Prop) : Prop :=
  ∀ (lo : Nat) (r : Option Nat) (S X V : Pr) (w : World) (m : List MB) (hv : List (List Value)) (a : Act), Tie Ev lo r S X V w m [] hv s.rs s.b a →
    c.wpIn (Fn r) 0 P (Beh0 Ev lo r S X V w Q) a w

section
variable {P : Program} {S S' S'' X X' X'' V V' V'' Z : Pr} {L : Nat → Prop} {r : Option Nat} {lo : Nat} {yv : Option Nat} {w w' w'' : World} {m m' m'' : List MB} {A B T : List (AV × Value)} {hp hp' : List Blk} {hv hv' : List (List Value)} {call : CallT} {a a' : Act} {o : Oper} {ops : Array Oper} {Ev : Env P}
  {s : St Ev.β} {Q Q' : Exit → St Ev.β → Prop} {c c' : Code}

theorem Beh0.from {e : Exit} (hm : Went Ev.L S X V w S' X' V' w') (h : Beh0 Ev lo r S' X' V' w' Q e a w'') : Beh0 Ev lo r S X V w Q e a w'' := by
  obtain ⟨s', S', X', V', m'', hv', h1, h2, h3⟩ := h
  exact ⟨s', S', X', V', m'', hv', h1, hm.trans h2, h3⟩

theorem W0.of (h : W Ev c s Q) : W0 Ev c s Q := fun lo r S X V w m hv a ht =>
  wpIn_mono (h lo r S X V w m [] hv a ht) fun e a' w' ⟨s', S', X', V', m', hv', h1, h2, h3⟩ => ⟨s', S', X', V', m', hv', h1, h2.1, h3⟩

theorem W0.mono (h : W0 Ev c s Q) (hq : ∀ e s, Q e s → Q' e s) : W0 Ev c s Q' := fun lo r S X V w m hv a ht =>
  wpIn_mono (h lo r S X V w m hv a ht) fun e a' w' ⟨s', S', X', V', m', hv', h1, h2⟩ => ⟨s', S', X', V', m', hv', hq _ _ h1, h2⟩

theorem W0.seq (h : W0 Ev c s (thenW (fun s' => W0 Ev c' s' Q) Q)) : W0 Ev (.seq c c') s Q := by
  intro lo r S X V w m hv a ht
  refine wpIn_seq (wpIn_mono (h lo r S X V w m hv a ht) fun e a' w' ⟨s', S', X', V', m', hv', h1, h2, h3⟩ => ?_)
  cases e with
  | normal => exact wpIn_mono (h1 lo r S' X' V' w' m' hv' a' h3) fun e a'' w'' hb => hb.from h2
  | exit id => exact ⟨s', S', X', V', m', hv', h1, h2, h3⟩
  | goto l => exact ⟨s', S', X', V', m', hv', h1, h2, h3⟩
  | ret => exact ⟨s', S', X', V', m', hv', h1, h2, h3⟩
  | panic ch => exact ⟨s', S', X', V', m', hv', h1, h2, h3⟩
  | outgrown => exact ⟨s', S', X', V', m', hv', h1, h2, h3⟩

theorem W0.block {id : Nat} (h : W0 Ev c s (catchExit id Q)) : W0 Ev (.block id c) s Q := by
  intro lo r S X V w m hv a ht
  refine wpIn_block (wpIn_mono (h lo r S X V w m hv a ht) fun e a' w' ⟨s', S', X', V', m', hv', h1, h2, h3⟩ => ?_)
  cases e with
  | exit id' =>
    simp only [Exit.inBlock, catchExit] at h1 ⊢
    split at h1
    · rename_i hid; rw [if_pos hid]; exact ⟨s', S', X', V', m', hv', h1, h2, h3⟩
    · rename_i hid; rw [if_neg hid]; exact ⟨s', S', X', V', m', hv', h1, h2, h3⟩
  | normal => exact ⟨s', S', X', V', m', hv', h1, h2, h3⟩
  | goto l => exact ⟨s', S', X', V', m', hv', h1, h2, h3⟩
  | ret => exact ⟨s', S', X', V', m', hv', h1, h2, h3⟩
  | panic ch => exact ⟨s', S', X', V', m', hv', h1, h2, h3⟩
  | outgrown => exact ⟨s', S', X', V', m', hv', h1, h2, h3⟩

/-- **RANGE OVER A FUNCTION that owns a block** -/
theorem W0.range {g : Operand} {ps : Array Tmp} {assign body : Code} {k : Nat} {hp0 : List Blk} {blk : Blk} {Sp : SpT} (hs : s.hp = hp0 ++ [blk]) (hfro : blk.fro = false) (hgrow : blk.grow = false) (hlow : lowHp hp0.length s.hp = true)
    (hcl : closeds blk.cells = true) (hvw : blk.cells.map AV.view = blk.cells) (hg : evalA s.tm g = .fn (.func k) [] [.ptr hp0.length 0])
    (hI : ICallB P k [.yl, .ptr 0 0] blk Sp) (h : Sp (YBody Ev (lowTm hp0.length s.tm) ps assign body hp0.length) (hp0, s.b, none) (rangeQ (lowTm hp0.length s.tm) Q)) : W0 Ev (.rangeFunc g ps assign body) s Q := by
  intro lo r S X V w m hv a ht
  refine wpIn_rangeFunc fun fn _ => ?_
  obtain ⟨l, bs, w1, D, e1, e2, e3, e4, e5, e6⟩ := enter_loop (P := P) fn a.tmps ps assign body ht.round
  -- the function value
  have hfv := evalA_sound ht.rel g
  rw [hg] at hfv
  generalize hfe : a.eval g = fv at hfv
  cases hfv with
  | fn hne hl1 hl2 h1 h2 =>
    rename_i fs cs
    have hfs : fs = #[] := by simpa using hl1.symm
    subst hfs
    obtain ⟨cv, rfl⟩ : ∃ cv, cs = #[cv] := by
      have : cs.size = 1 := by simpa using hl2.symm
      refine ⟨cs[0], Array.ext (by simp [this]) fun i hi hi' => ?_⟩
      have : i = 0 := by omega
      subst this; rfl
    have hcv := h2 0 _ cv rfl rfl
    generalize hcve : cv = cv0 at hcv
    cases hcv with
    | ptr hm =>
    rename_i pb plen pver
    subst hcve
    have hgs := Gs.below ht.rel.2.1 e3 (S' := S) ⟨fun _ _ h => h, fun _ _ h => .inl h⟩
    have hlt1 : ∀ b i, S b i → b < w1.heap.size := fun b i hs => Nat.lt_of_lt_of_le (ht.rel.slt b i hs) e3.size
    have htr := hgs.tr hlt1
    have hrel1 : Rel S X Ev.yl w1 m (s.tm.zip a.tmps.toList ++ cellPairs s.hp hv) s.hp hv := by
      simpa using ht.rel.2.1.below e3 (fun _ _ h => h) (fun _ _ h => .inl h)
    have hrelL : Rel S X Ev.yl w1 m ((lowTm hp0.length s.tm).zip a.tmps.toList ++ cellPairs s.hp hv) s.hp hv := Rel.lowered hp0.length hrel1
    have hnT : ∀ p ∈ (lowTm hp0.length s.tm).zip a.tmps.toList, RV S w1 (m.take hp0.length) Ev.yl p.1 p.2 := by
      intro p hp
      refine (hrelL.rv p (List.mem_append_left _ hp)).low ?_
      have := (List.of_mem_zip hp).1
      simp only [lowTm, List.mem_map] at this
      obtain ⟨x, _, h3⟩ := this
      rw [← h3]
      split
      · assumption
      · rfl
    have hrelT := hrelL.trunc hnT hlow
    have hp0t : s.hp.take hp0.length = hp0 := by rw [hs]; simp
    rw [hp0t] at hrelT
    have hsl : s.hp.length = hp0.length + 1 := by rw [hs]; simp
    have hgb : s.hp[hp0.length]? = some blk := by rw [hs]; simp
    have hvn : hp0.length < hv.length := by rw [hrel1.hl, hsl]; omega
    obtain ⟨a1, a2, a3, a4, a5, a6, a9, a10⟩ := hrel1.bl hp0.length blk ⟨pb, plen, false, pver⟩ hv[hp0.length] hgb hm (by simp [hvn])
    have hpbl : pb < w1.heap.size := by
      obtain ⟨cur, e, h3, _⟩ := a6
      exact (Array.getElem?_eq_some_iff.1 h3).1
    have hSn : ∀ i, ¬ S pb i ∧ ¬ X pb i := a9 hfro
    have hl1w : l < w1.heap.size := (Array.getElem?_eq_some_iff.1 e2).1
    obtain ⟨bs0, m1, m2, m3⟩ := ht.marks
    have hbs0 : ∀ b ∈ bs0, b < w.heap.size := fun b hb => (Array.getElem?_eq_some_iff.1 (m3 b hb).2).1
    have hr0 : ∀ l0, r = some l0 → l0 < w.heap.size := fun l0 hl0 => by
      obtain ⟨rc, h3⟩ := ht.round l0 hl0
      exact (Array.getElem?_eq_some_iff.1 h3).1
    have hm0 : (m.take hp0.length).length ≤ hp0.length := by simp; omega
    have hbsN : ∀ b ∈ bs ++ bs0, b < w1.heap.size := fun b hb => (List.mem_append.1 hb).elim (fun h => (e6 b h).2.1) (fun h => Nat.lt_of_lt_of_le (hbs0 b h) e3.size)
    have html : (lowTm hp0.length s.tm).length = a.tmps.size := by simpa [lowTm] using ht.rel.1
    let Er := rangeEnv Ev r S X V w (m.take hp0.length) (lowTm hp0.length s.tm) a [] hp0.length (bs ++ bs0) l { state := .ready, pending := none, fn, tmps := a.tmps, params := ps, assign, body, defers := D } w1.heap.size html rfl
      (Nat.le_trans ht.base.1 ht.base.2) e4 hm0 hl1w hbsN (fun l0 hl0 => Nat.lt_of_lt_of_le (hr0 l0 hl0) e3.size)
    have hrelB : Rel S (fun b _ => b < w1.heap.size ∧ b ≠ pb) (some l) w1 [⟨pb, plen, false, pver⟩] (([AV.yl, AV.ptr 0 0]).zip [Value.func (.yield l) #[] #[], Value.pointer (some ⟨pb, 0, none⟩)] ++ ([] ++ cellPairs [blk] [hv[hp0.length]])) [blk] [hv[hp0.length]] := by
      have hcp : ∀ p ∈ cellPairs [blk] [hv[hp0.length]], RV S w1 [⟨pb, plen, false, pver⟩] (some l) p.1 p.2 ∧ ownB p = none := by
        intro p hp
        simp only [cellPairs, List.zip_cons_cons, List.zip_nil_right, List.flatMap_cons, List.flatMap_nil, List.append_nil] at hp
        have hpm : p ∈ cellPairs s.hp hv := by
          simp only [cellPairs, List.mem_flatMap]
          refine ⟨(blk, hv[hp0.length]), List.mem_iff_getElem?.2 ⟨hp0.length, ?_⟩, hp⟩
          rw [List.getElem?_zip_eq_some]; exact ⟨hgb, by simp [hvn]⟩
        have hc1 := (List.of_mem_zip hp).1
        obtain ⟨j, hj⟩ := List.mem_iff_getElem?.1 hc1
        refine ⟨((hrel1.rv p (List.mem_append_right _ hpm)).closed (closeds_get hcl j _ hj)).opened, ?_⟩
        have h3 : (blk.cells.map AV.view)[j]? = some p.1.view := by simp [hj]
        rw [hvw, hj] at h3
        obtain ⟨p1, p2⟩ := p
        simp only [Option.some.injEq] at h3
        rw [h3]; exact ownB_view _ _
      have h0 : Rel S (fun b _ => b < w1.heap.size ∧ b ≠ pb) (some l) w1 [⟨pb, plen, false, pver⟩] [] [blk] [hv[hp0.length]] := by
        refine ⟨fun b i h => h.elim (hlt1 b i) (fun h => h.1), by simp, List.Pairwise.nil, by simp, by simp, by simp, rfl, rfl, fun g blk' p vs q1 q2 q3 => ?_, hrel1.gl⟩
        cases g with
        | succ g => simp at q1
        | zero =>
          simp only [List.getElem?_cons_zero, Option.some.injEq] at q1 q2 q3
          subst q1 q2 q3
          exact ⟨a1, a2, a3, a4, a5, a6, fun _ i => ⟨(hSn i).1, fun h => h.2 rfl⟩, fun hf => by rw [hfro] at hf; cases hf⟩
      have h3 := h0.pushAll _ hcp
      have h4 := h3.pushAll [(AV.yl, Value.func (.yield l) #[] #[]), (AV.ptr 0 0, Value.pointer (some ⟨pb, 0, none⟩))] (by
        intro p hp
        simp only [List.mem_cons, List.not_mem_nil, or_false] at hp
        rcases hp with rfl | rfl
        · exact ⟨.yl rfl, rfl⟩
        · exact ⟨.ptr (len := plen) (ver := pver) rfl, rfl⟩)
      simpa using h4
    have hE : Er.E (hp0, s.b, none) S (fun b _ => b < w1.heap.size ∧ b ≠ pb) w1 := by
      refine ⟨X, V, m.take hp0.length, hv.take hp0.length, rfl, by simpa using hrelT, ht.sub, Ev.stable ht.env (htr.mono (fun b i hx hv => hx (ht.sub b i hv)) (fun _ h => h)), MStep.refl _, ht.round.tr htr, fun b hb => ?_, fun c hc i => ?_, fun b i hv => ?_, fun b i h => h.1, fun b i hx => ⟨hrel1.lt b i (.inr hx), fun he => (hSn i).2 (he ▸ hx)⟩, e2, hgs.went hlt1⟩
      · rcases List.mem_append.1 hb with h3 | h3
        · exact (e6 b h3).2.2
        · rw [e3.block b (hbs0 b h3)]; exact (m3 b h3).2
      · have hc' : Owned hp0 (m.take hp0.length) ((lowTm hp0.length s.tm).zip a.tmps.toList ++ cellPairs hp0 (hv.take hp0.length)) c := by simpa using hc
        refine ⟨hrelT.ownedLt hc', ?_⟩
        rintro rfl
        rcases hc' with ⟨g, blk', p, q1, q2, q3, q4⟩ | ⟨p, q1, q2⟩
        · have hgl : g < hp0.length := (List.getElem?_eq_some_iff.1 q1).1
          have q5 : m[g]? = some p := by rw [List.getElem?_take, if_pos hgl] at q2; exact q2
          have hnd := hrel1.mnd
          have q6 : (m.map (·.b))[g]? = some c := by simp [q5, q4]
          have q7 : (m.map (·.b))[hp0.length]? = some c := by simp [hm]
          have := (List.getElem?_inj (by simp; exact (List.getElem?_eq_some_iff.1 q5).1) hnd).1 (q6.trans q7.symm)
          omega
        · have q3 : p ∈ (lowTm hp0.length s.tm).zip a.tmps.toList ++ cellPairs s.hp hv := by
            rcases List.mem_append.1 q1 with q3 | q3
            · exact List.mem_append_left _ q3
            · refine List.mem_append_right _ ?_
              simp only [cellPairs, List.mem_flatMap] at q3 ⊢
              obtain ⟨q, q4, q5⟩ := q3
              refine ⟨q, ?_, q5⟩
              have q6 : hp0.zip (hv.take hp0.length) = (s.hp.zip hv).take hp0.length := by
                have q7 : (s.hp.zip hv).take hp0.length = (s.hp.take hp0.length).zip (hv.take hp0.length) := by simp [List.zip, List.take_zipWith]
                rw [q7, hp0t]
              rw [q6] at q4
              exact List.mem_of_mem_take q4
          exact hrelL.nm p q3 c q2 _ (List.mem_of_getElem? hm) rfl
      · have := ht.sub b i hv
        exact ⟨hrel1.lt b i (.inr this), fun he => (hSn i).2 (he ▸ this)⟩
    have hcalls := hI.2 Er (hp0, s.b, none) (rangeQ (lowTm hp0.length s.tm) Q) h S _ (fun b _ => b < w1.heap.size ∧ b ≠ pb) w1 _ _ [Value.func (.yield l) #[] #[], Value.pointer (some ⟨pb, 0, none⟩)] rfl hrelB (fun _ _ h => h) hE (Nat.le_refl _)
    refine ⟨l, bs.map fun b => { target := .collected b, args := #[] }, w1, { target := .fn (.func k) #[Value.pointer (some ⟨pb, 0, none⟩)], args := #[] ++ #[Value.func (.yield l) #[] #[]] }, w1, k, #[] ++ #[Value.func (.yield l) #[] #[]] ++ #[Value.pointer (some ⟨pb, 0, none⟩)], w1, e1, ?_, fun _ _ => trivial, ?_, fun hd => (by cases hd), ?_⟩
    · have hm : Array.map a.eval #[Operand.const (Value.func (Fn.yield l) #[] #[])] = #[a.eval (Operand.const (Value.func (Fn.yield l) #[] #[]))] := by simp
      simp only [resolve, hfe, Deferred.ofValue, hm]; rfl
    · simp only [invoke]; exact hI.1 _ _
    · refine (CallsIn.mono hcalls ?_ : CallsIn Fence.wide 0 P k _ w1 _)
      rintro e w3 ⟨v, ⟨hpE, bE, stE⟩, S', V', rfl, hQ, hE'⟩
      obtain ⟨Xc, Vc, mC, hvC, g0, g1, g2, g3, g4, g5, g6, g7, g8, g9, gXV, g10, g11⟩ := hE'
      simp only at g0 g1 g3 g10
      refine ⟨_, _, run_endLoop g10 (by cases stE <;> simp), ?_⟩
      have hlN : Ev.N ≤ l := Nat.le_trans (Nat.le_trans ht.base.1 ht.base.2) e4
      have hbeh : ∀ e, Q e ⟨lowTm hp0.length s.tm, hpE, bE⟩ → Beh0 Ev lo r S X V w Q e { a with defers := (bs.map fun b => { target := .collected b, args := #[] }) ++ a.defers }
          (w3.putObj l (.loop { state := .exhausted, pending := stE.map codeOf, fn, tmps := a.tmps, params := ps, assign, body, defers := D })) := by
        intro e hQe
        refine ⟨⟨lowTm hp0.length s.tm, hpE, bE⟩, S', Xc, Vc, mC, hvC, hQe, g11.putObj e4 g10, ⟨⟨html, ?_, by intro p hp; cases hp⟩, g2, Ev.stableO _ g3 hlN g10 rfl, fun l0 hl0 => ?_, ?_, ht.base.1, ?_⟩⟩
        · simpa using g1.putObj (o' := .loop { state := .exhausted, pending := stE.map codeOf, fn, tmps := a.tmps, params := ps, assign, body, defers := D }) g10 rfl
        · obtain ⟨rc, h3⟩ := g5 l0 hl0
          exact ⟨rc, putObj_other h3 (by have := hr0 l0 hl0; omega)⟩
        · refine ⟨bs ++ bs0, by simp [m1], ?_, fun b hb => ⟨?_, putObj_other (g6 b hb) ?_⟩⟩
          · rw [List.nodup_append]
            refine ⟨e5, m2, fun x hx y hy hxy => ?_⟩
            have := (e6 x hx).1; have := hbs0 y hy; omega
          · rcases List.mem_append.1 hb with h3 | h3
            · exact Nat.le_trans ht.base.2 (e6 b h3).1
            · exact (m3 b h3).1
          · rintro rfl
            have := g6 _ hb
            rw [g10] at this; cases this
        · simpa using Nat.le_trans ht.base.2 g11.tr.size
      cases stE with
      | none => exact hbeh .normal hQ
      | some e =>
        cases e with
        | exit id => exact wpIn_exit (hbeh (.exit id) hQ)
        | goto t => exact wpIn_goto (hbeh (.goto t) hQ)
        | ret => exact wpIn_ret (hbeh .ret hQ)
        | normal => exact wpIn_ret (hbeh .ret hQ)
        | panic ch => exact wpIn_ret (hbeh .ret hQ)
        | outgrown => exact wpIn_ret (hbeh .ret hQ)

/-- **such an iterator's contract out of its walk** -/
theorem ICallB.ofW {f : Nat} {fn : Func} {args : List AV} {blk : Blk} {Sp : SpT} (hf : P.funcs[f]? = some fn) (hb : fn.body = some c) (hn : (fn.name == "runtime.NumGoroutine") = false)
    (hW : ∀ (Ev : Env P) (b : Ev.β) (Q : Ev.β → Prop), Sp Ev.Y b Q → W Ev c ⟨startTm fn args, [blk], b⟩ (FnPost P fn fun _ _ b' => Q b')) : ICallB P f args blk Sp := by
  refine ⟨enter_ok hf hb hn, fun Ev b Q hSp S X V w m hv vs hl hrel hV hE hN => ?_⟩
  refine calls_of_W (Ev := Ev) (V := V) (B := []) hf hb hl (hW Ev b Q hSp) hrel hV hE hN ?_
  intro y S' X' V' w' m' hv' hp' v b' hq _ _ _ _ hE' _
  exact ⟨v, b', S', V', rfl, hq, hE'⟩

theorem calls_of_W0 {f : Nat} {fn : Func} {c : Code} {args : List AV} {vs : List Value} {b : Ev.β} {R : AV → List Blk → Ev.β → Prop} {RR : Ending → World → Prop} (hf : P.funcs[f]? = some fn) (hb : fn.body = some c) (hl : args.length = vs.length)
    (hW : W0 Ev c ⟨startTm fn args, hp, b⟩ (FnPost P fn R)) (hr : Rel S X Ev.yl w m (args.zip vs ++ ([] ++ cellPairs hp hv)) hp hv) (hV : ∀ b i, V b i → X b i) (hE : Ev.E b S V w) (hN : Ev.N ≤ w.heap.size)
    (hR : ∀ {x S' X' V' w' m' hv' hp' v b'}, R x hp' b' → Tr (fun b i => ¬ X b i ∨ V b i) Ev.L S w S' w' → (∀ b i, X b i → X' b i) → Rel S' X' Ev.yl w' m' ([] ++ cellPairs hp' hv') hp' hv' → Ev.E b' S' V' w' → RV S' w' m' Ev.yl x v → RR (.returned v) w') :
    CallsIn Fence.wide 0 P f vs.toArray w RR := by
  refine callsIn_of_wp_marks (F := Fn none) hf hb trivial ?_
  obtain ⟨h1, h2⟩ := start_rel (fn := fn) rfl hl hr
  refine wpIn_mono (hW w.heap.size none S X V w m hv _ ⟨⟨h1, h2, by intro p hp; cases hp⟩, hV, hE, (fun l hl => by cases hl), ⟨[], rfl, List.nodup_nil, by simp⟩, hN, Nat.le_refl _⟩) fun e a' w' ⟨s', S', X', V', m', hv', hq, hm, ht⟩ => ?_
  obtain ⟨he, ys, hys, hRy⟩ := hq
  have hleave : LeavesInM (Fn none) 0 P fn a'.tmps RR a'.defers .returning w' := by
    refine leaves_of (lo := w.heap.size) (K := fun w' => RelS S' X' Ev.yl w' m' [] hv' s'.rs a' ∧ Ev.E s'.b S' V' w' ∧ Tr (fun b i => ¬ X b i ∨ V b i) Ev.L S w S' w') (fun w' d ⟨k1, k2, k3⟩ hd hdef => ?_) (fun w' ⟨k1, k2, k3⟩ => ?_) ht.marks ⟨ht.rel, ht.env, hm.tr⟩
    · exact ⟨⟨k1.1, k1.2.1.putObj hdef rfl, k1.2.2⟩, Ev.stableO _ k2 (Nat.le_trans hN hd) hdef rfl, k3.putObj hd hdef⟩
    · obtain ⟨v, h3, h4⟩ := results_sound (P := P) (fn := fn) k1 hys
      exact ⟨v, h3, hR hRy k3 hm.xs (k1.2.1.sub (List.sublist_append_right _ _)) k2 h4⟩
  rcases he with rfl | rfl
  · exact hleave
  · exact hleave

/-- **a contract, where blocks are lent** -/
theorem PCall.ofW0 {x0 : Dv} {f : Nat} {fn : Func} {c : Code} {args : List AV} {x : AV} (hf : P.funcs[f]? = some fn) (hb : fn.body = some c) (hn : (fn.name == "runtime.NumGoroutine") = false) (hargs : args.map AV.view = args)
    (hW : ∀ (Ev : Env P) (b : Ev.β), W0 Ev c ⟨startTm fn args, [], b⟩ (FnPost P fn fun y hp _ => y = .d x0 ∧ x = .d x0)) : PCall P f args x := by
  refine ⟨enter_ok hf hb hn, fun S w vs hl hvs hlt hgl => ?_⟩
  have hrel : Rel S (fun b _ => b < w.heap.size) none w [] (args.zip vs ++ ([] ++ cellPairs [] [])) [] [] := by
    have h0 : Rel S (fun b _ => b < w.heap.size) none w [] [] [] [] := ⟨fun b i h => h.elim (hlt b i) id, by simp, List.Pairwise.nil, by simp, by simp, by simp, rfl, rfl, by simp, hgl⟩
    have := h0.pushAll (args.zip vs) (fun p hp => by
      obtain ⟨j, hj⟩ := List.mem_iff_getElem?.1 hp
      rw [List.getElem?_zip_eq_some] at hj
      refine ⟨hvs j p.1 p.2 hj.1 hj.2, ?_⟩
      have hp1 : p.1.view = p.1 := by
        have h1 : (args.map AV.view)[j]? = some p.1.view := by simp [hj.1]
        rw [hargs, hj.1] at h1; exact (Option.some.inj h1).symm
      obtain ⟨p1, p2⟩ := p
      simp only at hp1
      rw [← hp1]; exact ownB_view _ _)
    simpa [cellPairs] using this
  refine calls_of_W0 (Ev := Env.none P none) (V := fun _ _ => False) (b := (() : Unit)) hf hb hl (hW (Env.none P _) (() : Unit)) hrel (fun _ _ h => h.elim) trivial (Nat.zero_le _) ?_
  intro y S' X' V' w' m' hv' hp' v b' hy htr0 hxs hr _ hyv
  obtain ⟨rfl, rfl⟩ := hy
  have htr : Tr (fun b i => ¬ b < w.heap.size) (fun _ => False) S w S' w' := htr0.mono (fun b i h => h.resolve_right id) (fun _ h => h)
  refine ⟨v, S', rfl, below_of_tr htr (fun b i hb hz => hz hb) (fun _ h => h), fun b i hs => htr.up b i hs, fun b i hs => ?_, ?_⟩
  · rcases htr.new b i hs with h1 | h1 | h1
    · exact .inl h1
    · exact .inr ⟨Nat.le_of_not_lt h1, htr.lt b i hs⟩
    · exact .inr ⟨h1, htr.lt b i hs⟩
  · cases hyv with
    | d h => exact .d h

end
end Go.Proofs.YtkjmhfbjdeidjaaDoor.Am
