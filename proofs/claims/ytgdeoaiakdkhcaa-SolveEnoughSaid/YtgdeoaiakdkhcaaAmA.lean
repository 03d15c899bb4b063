/- Abstract values for Go programs: pure data trees, abstract values, and how they are tied to a world of the model. -/
import Derived.TacticsIn
import Derived.RangeFuncLeaves
import Derived.RangeFuncFrom
import Derived.OrdersIn
import Derived.LoopNIn
import Derived.Laws.MakeOwn
import Derived.Laws.OwnMore
import Derived.Below
namespace Go.Proofs.Ytgdeoaiakdkhcaa.Am
open Go Go.RowKit

/-- pure data: a value that means the same in every world, or a slice that is not nil (elements of k cells each) -/
inductive Dv where
  | s (v : Value)
  | sl (k : Nat) (xs : List (List Dv))
  deriving Inhabited

/-- abstract values -/
inductive AV where
  | d (x : Dv)
  | agg (cs : List AV)
  | tup (vs : List AV)
  | own (e k : Nat) (xs : List (List Dv))
  | full (k : Nat) (xs : List (List Dv))
  | rptr (cs : List Dv)
  | ref (g off n cap k : Nat)
  | ptr (g off : Nat)
  | gref (g ver n k : Nat)
  | gptr (g ver off : Nat)
  | fn (f : Fn) (first caps : List AV)
  | yl
  | bad
  deriving Inhabited

/-- a block of the activation's own: fro: it turns no more; grow: it may grow at its end; ver: how often it has grown -/
structure Blk where
  cells : List AV
  fro : Bool := false
  grow : Bool := false
  ver : Nat := 0
  deriving Inhabited

/-- a block as it lies in the world -/
structure MB where
  b : Nat
  len : Nat
  grow : Bool
  ver : Nat
  deriving Inhabited

abbrev Pr := Nat → Nat → Prop

/-- what every step keeps; block yv (a loop's record) may turn -/
structure Keep (yv : Option Nat) (w w' : World) : Prop where
  os : w'.os = w.os
  tape : w'.tape = w.tape
  output : w'.output = w.output
  size : w.heap.size ≤ w'.heap.size
  cells : ∀ (b : Nat) (c : Array Value) (e : TypeId) (f : Nat × Nat), w.heap[b]? = some (Obj.cells c e f) → ∃ c' : Array Value, w'.heap[b]? = some (Obj.cells c' e f) ∧ c'.size = c.size
  objs : ∀ (b : Nat) (o : Obj), w.heap[b]? = some o → o.isCells = false → yv ≠ some b → w'.heap[b]? = some o

theorem Keep.refl (yv : Option Nat) (w : World) : Keep yv w w :=
  ⟨rfl, rfl, rfl, Nat.le_refl _, fun _ c _ _ h => ⟨c, h, rfl⟩, fun _ _ h _ _ => h⟩

theorem Keep.trans {yv : Option Nat} {a b c : World} (h : Keep yv a b) (k : Keep yv b c) : Keep yv a c :=
  ⟨k.os.trans h.os, k.tape.trans h.tape, k.output.trans h.output, Nat.le_trans h.size k.size,
   fun b c e f hb => by
     obtain ⟨c', h1, h2⟩ := h.cells b c e f hb
     obtain ⟨c'', h3, h4⟩ := k.cells b c' e f h1
     exact ⟨c'', h3, h4.trans h2⟩,
   fun b o hb ho hy => k.objs b o (h.objs b o hb ho hy) ho hy⟩

theorem Keep.weaken {yv : Option Nat} {w w' : World} (h : Keep none w w') : Keep yv w w' :=
  ⟨h.os, h.tape, h.output, h.size, h.cells, fun b o hb ho _ => h.objs b o hb ho (by simp)⟩

/-- the cells of X are as they were -/
structure Agree (X : Pr) (yv : Option Nat) (w w' : World) : Prop extends Keep yv w w' where
  same : ∀ b i v, X b i → w.cell? ⟨b, i, none⟩ = some v → w'.cell? ⟨b, i, none⟩ = some v

theorem Agree.refl (X : Pr) (yv : Option Nat) (w : World) : Agree X yv w w := ⟨Keep.refl _ _, fun _ _ _ _ h => h⟩

theorem Agree.trans {X : Pr} {yv : Option Nat} {a b c : World} (h : Agree X yv a b) (k : Agree X yv b c) : Agree X yv a c :=
  ⟨h.toKeep.trans k.toKeep, fun b i v hx hv => k.same b i v hx (h.same b i v hx hv)⟩

theorem Agree.mono {X X' : Pr} {yv : Option Nat} {a b : World} (h : Agree X yv a b) (hx : ∀ b i, X' b i → X b i) : Agree X' yv a b :=
  ⟨h.toKeep, fun b i v hx' hv => h.same b i v (hx b i hx') hv⟩

theorem Agree.weaken {X : Pr} {yv : Option Nat} {a b : World} (h : Agree X none a b) : Agree X yv a b :=
  ⟨h.toKeep.weaken, h.same⟩

/-- a datum is read at a value, out of cells of S alone -/
inductive DR (S : Pr) (w : World) : Dv → Value → Prop
  | s (v : Value) : DR S w (.s v) v
  | sl (k : Nat) (xs : List (List Dv)) (a : Addr) (cap : Nat) (vals : Nat → Nat → Value)
      (hk : ∀ (i : Nat) (row : List Dv), xs[i]? = some row → row.length = k)
      (hs : ∀ (i : Nat) (row : List Dv) (j : Nat) (c : Dv), xs[i]? = some row → row[j]? = some c → S a.block (a.off + (i * k + j)))
      (hc : ∀ (i : Nat) (row : List Dv) (j : Nat) (c : Dv), xs[i]? = some row → row[j]? = some c → w.cell? ⟨a.block, a.off + (i * k + j), none⟩ = some (vals i j))
      (hr : ∀ (i : Nat) (row : List Dv) (j : Nat) (c : Dv), xs[i]? = some row → row[j]? = some c → DR S w c (vals i j))
      (h1 : ∀ (i : Nat) (row : List Dv) (j : Nat) (c : Dv), xs[i]? = some row → row[j]? = some c → (vals i j).oneCell' = true)
      (hcap : xs.length ≤ cap) (hsp : a.spot = none ∨ k = 0 ∨ xs = []) :
      DR S w (.sl k xs) (.slice (some a) xs.length cap)
  | nil (k : Nat) : DR S w (.sl k []) (.slice none 0 0)

theorem DR.ext {S S' : Pr} {w w' : World} (hS : ∀ b i, S b i → S' b i) (hc : ∀ b i v, S b i → w.cell? ⟨b, i, none⟩ = some v → w'.cell? ⟨b, i, none⟩ = some v)
    {x : Dv} {v : Value} (h : DR S w x v) : DR S' w' x v := by
  induction h with
  | s v => exact .s v
  | nil k => exact .nil k
  | sl k xs a cap vals hk hs hcc hr h1 hcap hsp ih =>
    exact .sl k xs a cap vals hk (fun i row j c h h' => hS _ _ (hs i row j c h h')) (fun i row j c h h' => hc _ _ _ (hs i row j c h h') (hcc i row j c h h'))
      (fun i row j c h h' => ih i row j c h h') h1 hcap hsp

/-- an abstract value is read at a value. m: the activation's blocks in the world -/
inductive RV (S : Pr) (w : World) (m : List MB) (yv : Option Nat) : AV → Value → Prop
  | d {x : Dv} {v : Value} (h : DR S w x v) : RV S w m yv (.d x) v
  | agg {cs : List AV} {vs : Array Value} (hl : cs.length = vs.size) (h : ∀ (i : Nat) (c : AV) (v : Value), cs[i]? = some c → vs[i]? = some v → RV S w m yv c v) : RV S w m yv (.agg cs) (.agg vs)
  | tup {cs : List AV} {vs : Array Value} (hl : cs.length = vs.size) (h : ∀ (i : Nat) (c : AV) (v : Value), cs[i]? = some c → vs[i]? = some v → RV S w m yv c v) : RV S w m yv (.tup cs) (.tuple vs)
  | own {e k : Nat} {xs : List (List Dv)} {g cap : Nat} (h : DR S w (.sl k xs) (.slice (some ⟨g, 0, none⟩) xs.length cap))
      (ho : ∃ cur : Array Value, w.heap[g]? = some (Obj.cells cur e (0, 0)) ∧ cap ≤ maxLen ∧ cur.size = cap * k) : RV S w m yv (.own e k xs) (.slice (some ⟨g, 0, none⟩) xs.length cap)
  | ownNil {e k : Nat} : RV S w m yv (.own e k []) (.slice none 0 0)
  | full {k : Nat} {xs : List (List Dv)} {a : Option Addr} (h : DR S w (.sl k xs) (.slice a xs.length xs.length)) : RV S w m yv (.full k xs) (.slice a xs.length xs.length)
  | rptr {cs : List Dv} {a : Addr} (vals : Nat → Value) (hne : cs ≠ []) (hsp : a.spot = none)
      (hs : ∀ (j : Nat) (c : Dv), cs[j]? = some c → S a.block (a.off + j)) (hc : ∀ (j : Nat) (c : Dv), cs[j]? = some c → w.cell? ⟨a.block, a.off + j, none⟩ = some (vals j))
      (hr : ∀ (j : Nat) (c : Dv), cs[j]? = some c → DR S w c (vals j)) (h1 : ∀ (j : Nat) (c : Dv), cs[j]? = some c → (vals j).oneCell' = true) : RV S w m yv (.rptr cs) (.pointer (some a))
  | ref {g off n cap k b len ver : Nat} (h : m[g]? = some ⟨b, len, false, ver⟩) (hfit : off + cap * k ≤ len) (hn : n ≤ cap) : RV S w m yv (.ref g off n cap k) (.slice (some ⟨b, off, none⟩) n cap)
  | ptr {g off b len ver : Nat} (h : m[g]? = some ⟨b, len, false, ver⟩) : RV S w m yv (.ptr g off) (.pointer (some ⟨b, off, none⟩))
  | gref {g ver n k b len ver' : Nat} {v : Value} (h : m[g]? = some ⟨b, len, true, ver'⟩) (hv : ver ≤ ver') (h1 : v.oneCell' = true)
      (hc : ver = ver' → len = n * k ∧ ∃ cap, v = .slice (some ⟨b, 0, none⟩) n cap ∧ n ≤ cap ∧ cap ≤ maxLen ∧ ∃ (cur : Array Value) (e : TypeId), w.heap[b]? = some (Obj.cells cur e (0, 0)) ∧ cur.size = cap * k) :
      RV S w m yv (.gref g ver n k) v
  | gptr {g ver off b len ver' : Nat} {v : Value} (h : m[g]? = some ⟨b, len, true, ver'⟩) (hv : ver ≤ ver') (h1 : v.oneCell' = true)
      (hc : ver = ver' → v = .pointer (some ⟨b, off, none⟩)) : RV S w m yv (.gptr g ver off) v
  | fn {f : Fn} {first caps : List AV} {fs cs : Array Value} (hf : ∀ l, f ≠ .yield l) (hl : first.length = fs.size) (hl' : caps.length = cs.size)
      (h : ∀ (i : Nat) (c : AV) (v : Value), first[i]? = some c → fs[i]? = some v → RV S w m yv c v) (h' : ∀ (i : Nat) (c : AV) (v : Value), caps[i]? = some c → cs[i]? = some v → RV S w m yv c v) :
      RV S w m yv (.fn f first caps) (.func f fs cs)
  | yl {l : Nat} (h : yv = some l) : RV S w m yv .yl (.func (.yield l) #[] #[])
  | bad {v : Value} : RV S w m yv .bad v

theorem RV.ext {S S' : Pr} {w w' : World} {m : List MB} {yv : Option Nat} (hS : ∀ b i, S b i → S' b i) (ha : Agree S yv w w')
    {x : AV} {v : Value} (h : RV S w m yv x v) : RV S' w' m yv x v := by
  induction h with
  | d h => exact .d (h.ext hS ha.same)
  | agg hl _ ih => exact .agg hl (fun i c v h h' => ih i c v h h')
  | tup hl _ ih => exact .tup hl (fun i c v h h' => ih i c v h h')
  | own h ho =>
    obtain ⟨cur, h1, h2, h3⟩ := ho
    obtain ⟨cur', h4, h5⟩ := ha.cells _ _ _ _ h1
    exact .own (h.ext hS ha.same) ⟨cur', h4, h2, h5.trans h3⟩
  | ownNil => exact .ownNil
  | full h => exact .full (h.ext hS ha.same)
  | rptr vals hne hsp hs hc hr h1 =>
    exact .rptr vals hne hsp (fun j c h => hS _ _ (hs j c h)) (fun j c h => ha.same _ _ _ (hs j c h) (hc j c h)) (fun j c h => (hr j c h).ext hS ha.same) h1
  | ref h hfit hn => exact .ref h hfit hn
  | ptr h => exact .ptr h
  | gref h hv h1 hc =>
    refine .gref h hv h1 fun he => ?_
    obtain ⟨hl, cap, h1', h2, h3, cur, e, h4, h5⟩ := hc he
    obtain ⟨cur', h6, h7⟩ := ha.cells _ _ _ _ h4
    exact ⟨hl, cap, h1', h2, h3, cur', e, h6, h7.trans h5⟩
  | gptr h hv h1 hc => exact .gptr h hv h1 hc
  | fn hf hl hl' _ _ ih ih' => exact .fn hf hl hl' (fun i c v h h' => ih i c v h h') (fun i c v h h' => ih' i c v h h')
  | yl h => exact .yl h
  | bad => exact .bad

/-- how the blocks' table may turn: more of them; one that may grow has grown -/
def MStep (m m' : List MB) : Prop :=
  ∀ (g : Nat) (p : MB), m[g]? = some p → m'[g]? = some p ∨ (p.grow = true ∧ ∃ p', m'[g]? = some p' ∧ p'.grow = true ∧ p.ver < p'.ver)

theorem MStep.refl (m : List MB) : MStep m m := fun _ _ h => .inl h
theorem MStep.push (m : List MB) (p : MB) : MStep m (m ++ [p]) := fun g q h => .inl (by
  rw [List.getElem?_append_left (List.getElem?_eq_some_iff.1 h).1]; exact h)
theorem MStep.trans {a b c : List MB} (h : MStep a b) (k : MStep b c) : MStep a c := by
  intro g p hp
  rcases h g p hp with h1 | ⟨hg, p', h1, h2, h3⟩
  · exact k g p h1
  · rcases k g p' h1 with h4 | ⟨_, p'', h4, h5, h6⟩
    · exact .inr ⟨hg, p', h4, h2, h3⟩
    · exact .inr ⟨hg, p'', h4, h5, Nat.lt_trans h3 h6⟩

theorem RV.blocks {S : Pr} {w : World} {m m' : List MB} {yv : Option Nat} (hm : MStep m m') {x : AV} {v : Value} (h : RV S w m yv x v) : RV S w m' yv x v := by
  induction h with
  | d h => exact .d h
  | agg hl _ ih => exact .agg hl (fun i c v h h' => ih i c v h h')
  | tup hl _ ih => exact .tup hl (fun i c v h h' => ih i c v h h')
  | own h ho => exact .own h ho
  | ownNil => exact .ownNil
  | full h => exact .full h
  | rptr vals hne hsp hs hc hr h1 => exact .rptr vals hne hsp hs hc hr h1
  | ref h hfit hn =>
    rcases hm _ _ h with h1 | ⟨h1, _⟩
    · exact .ref h1 hfit hn
    · cases h1
  | ptr h =>
    rcases hm _ _ h with h1 | ⟨h1, _⟩
    · exact .ptr h1
    · cases h1
  | gref h hv ho hc =>
    rcases hm _ _ h with h1 | ⟨_, p', h1, h2, h3⟩
    · exact .gref h1 hv ho hc
    · obtain ⟨b, len, gr, ver'⟩ := p'
      simp only at h2 h3
      subst h2
      exact .gref h1 (by omega) ho (fun he => by omega)
  | gptr h hv ho hc =>
    rcases hm _ _ h with h1 | ⟨_, p', h1, h2, h3⟩
    · exact .gptr h1 hv ho hc
    · obtain ⟨b, len, gr, ver'⟩ := p'
      simp only at h2 h3
      subst h2
      exact .gptr h1 (by omega) ho (fun he => by omega)
  | fn hf hl hl' _ _ ih ih' => exact .fn hf hl hl' (fun i c v h h' => ih i c v h h') (fun i c v h h' => ih' i c v h h')
  | yl h => exact .yl h
  | bad => exact .bad

/-- a value of one cell, for sure -/
def AV.one : AV → Bool
  | .d (.s v) => v.oneCell'
  | .agg _ | .tup _ | .bad => false
  | _ => true

theorem RV.one {S : Pr} {w : World} {m : List MB} {yv : Option Nat} {x : AV} {v : Value} (h : RV S w m yv x v) (ho : x.one = true) : v.oneCell' = true := by
  cases h with
  | d h => cases h with
    | s => exact ho
    | sl => rfl
    | nil => rfl
  | agg hl h => cases ho
  | tup hl h => cases ho
  | bad => cases ho
  | gref h hv h1 hc => exact h1
  | gptr h hv h1 hc => exact h1
  | _ => rfl

/-- the block whose spare room a pair owns -/
def ownB : AV × Value → Option Nat
  | (.own _ _ _, .slice (some a) _ _) => some a.block
  | _ => none

/-- how many cells of it are in use -/
def ownLen : AV → Nat
  | .own _ k xs => xs.length * k
  | _ => 0

/-- as data: without the right to the room behind -/
def AV.view : AV → AV
  | .own _ k xs => .d (.sl k xs)
  | x => x

theorem ownB_view (x : AV) (v : Value) : ownB (x.view, v) = none := by
  cases x <;> rfl

theorem RV.view {S : Pr} {w : World} {m : List MB} {yv : Option Nat} {x : AV} {v : Value} (h : RV S w m yv x v) : RV S w m yv x.view v := by
  cases h with
  | own h _ => exact .d h
  | ownNil => exact .d (.nil _)
  | d h => exact .d h
  | agg hl h => exact .agg hl h
  | tup hl h => exact .tup hl h
  | full h => exact .full h
  | rptr vals hne hsp hs hc hr h1 => exact .rptr vals hne hsp hs hc hr h1
  | ref h hfit hn => exact .ref h hfit hn
  | ptr h => exact .ptr h
  | gref h hv h1 hc => exact .gref h hv h1 hc
  | gptr h hv h1 hc => exact .gptr h hv h1 hc
  | fn hf hl hl' h h' => exact .fn hf hl hl' h h'
  | yl h => exact .yl h
  | bad => exact .bad

/-- the cells of the blocks, each with its value -/
def cellPairs (hp : List Blk) (hv : List (List Value)) : List (AV × Value) := (hp.zip hv).flatMap fun p => p.1.cells.zip p.2

/-- two pairs own no room together -/
def Dis (p q : AV × Value) : Prop := ∀ b, ownB p = some b → ownB q ≠ some b

theorem Dis.symm {p q : AV × Value} (h : Dis p q) : Dis q p := fun b hq hp => h b hp hq

/-- ties an activation's abstract state to a world. S: cells that turn no more, out of which data are read; X: cells that others own; A: all pairs (temporaries, the callers', the blocks' cells) -/
structure Rel (S X : Pr) (yv : Option Nat) (w : World) (m : List MB) (A : List (AV × Value)) (hp : List Blk) (hv : List (List Value)) : Prop where
  lt : ∀ b i, S b i ∨ X b i → b < w.heap.size
  rv : ∀ p ∈ A, RV S w m yv p.1 p.2
  pw : A.Pairwise Dis
  nm : ∀ p ∈ A, ∀ b, ownB p = some b → ∀ x ∈ m, x.b ≠ b
  sp : ∀ p ∈ A, ∀ b, ownB p = some b → (∀ i, ¬ X b i) ∧ (∀ i, ownLen p.1 ≤ i → ¬ S b i)
  mnd : (m.map (·.b)).Nodup
  ml : m.length = hp.length
  hl : hv.length = hp.length
  bl : ∀ (g : Nat) (blk : Blk) (p : MB) (vs : List Value), hp[g]? = some blk → m[g]? = some p → hv[g]? = some vs →
    p.len = blk.cells.length ∧ p.grow = blk.grow ∧ p.ver = blk.ver ∧ vs.length = p.len ∧ (∀ v ∈ vs, v.oneCell' = true) ∧
    (∃ (cur : Array Value) (e : TypeId), w.heap[p.b]? = some (Obj.cells cur e (0, 0)) ∧ cur.toList.take p.len = vs ∧ p.len ≤ cur.size) ∧
    (blk.fro = false → ∀ i, ¬ S p.b i ∧ ¬ X p.b i) ∧ (blk.fro = true → ∀ i, i < p.len → S p.b i)

end Go.Proofs.Ytgdeoaiakdkhcaa.Am
