/- Operations that lay or write blocks of the activation's own. -/
import Derived.Test.YtgdeoaiakdkhcaaAmK
namespace Go.Proofs.Ytgdeoaiakdkhcaa.Am
set_option linter.unusedVariables false
open Go Go.RowKit

/-- from one tie to the next -/
structure Gs (S X : Pr) (yv : Option Nat) (w : World) (m : List MB) (S' : Pr) (w' : World) (m' : List MB) : Prop where
  ag : Agree (fun b i => S b i ∨ X b i) yv w w'
  up : ∀ b i, S b i → S' b i
  new : ∀ b i, S' b i → S b i ∨ ¬ X b i
  ms : MStep m m'

section
variable {P : Program} {S S' S'' X : Pr} {yv : Option Nat} {w w' w'' : World} {m m' m'' : List MB} {A B : List (AV × Value)} {hp : List Blk} {hv : List (List Value)}

theorem Gs.refl (S X : Pr) (yv : Option Nat) (w : World) (m : List MB) : Gs S X yv w m S w m := ⟨Agree.refl _ _ _, fun _ _ h => h, fun _ _ h => .inl h, MStep.refl m⟩

theorem Gs.trans (h : Gs S X yv w m S' w' m') (k : Gs S' X yv w' m' S'' w'' m'') : Gs S X yv w m S'' w'' m'' :=
  ⟨h.ag.trans (k.ag.mono fun b i hbi => hbi.imp (h.up b i) id), fun b i hs => k.up b i (h.up b i hs),
   fun b i hs => (k.new b i hs).elim (fun h1 => h.new b i h1) .inr, h.ms.trans k.ms⟩

theorem Gs.weaken (h : Gs S X none w m S' w' m') : Gs S X yv w m S' w' m' := ⟨h.ag.weaken, h.up, h.new, h.ms⟩

theorem Gs.below (h : Rel S X yv w m A hp hv) (hb : Below w.heap.size w w') (hs : SStep S X S' w w') : Gs S X none w m S' w' m :=
  ⟨agree_of_below hb _, hs.1, fun b i hbi => (hs.2 b i hbi).imp id (fun h1 hx => by have := h.lt b i (.inr hx); omega), MStep.refl m⟩

/-- what an operation comes to that may turn the activation's blocks -/
def HOk (P : Program) (S X : Pr) (yv : Option Nat) (w : World) (m : List MB) (B : List (AV × Value)) (s : Sem Next) (x : AV) (hp' : List Blk) : Prop :=
  ∃ nx v w' S' m' hv', s.run P w = .ok nx w' ∧ (nx = .value v ∨ (nx = .skip ∧ v = undef)) ∧ Gs S X none w m S' w' m' ∧ Rel S' X yv w' m' ((x, v) :: (B ++ cellPairs hp' hv')) hp' hv'

/-- an operation that lays new blocks alone -/
def HOkN (P : Program) (S X : Pr) (yv : Option Nat) (w : World) (m : List MB) (B : List (AV × Value)) (hv : List (List Value)) (s : Sem Next) (x : AV) (hp' : List Blk) : Prop :=
  ∃ v w' S' m' hv', s.run P w = .ok (.value v) w' ∧ Gs S X none w m S' w' m' ∧ Rel S' X yv w' m' ((x, v) :: (B ++ cellPairs hp' hv')) hp' hv' ∧ ∀ (g : Nat) (vs : List Value), hv[g]? = some vs → hv'[g]? = some vs

theorem HOk.of_quiet {s : Sem Next} {x : AV} (h : Rel S X yv w m (B ++ cellPairs hp hv) hp hv) (hq : QOk P S X yv w m (B ++ cellPairs hp hv) hp hv s x) : HOk P S X yv w m B s x hp := by
  obtain ⟨v, w', S', h1, h2, h3, h4⟩ := hq
  exact ⟨_, v, w', S', m, hv, h1, .inl rfl, Gs.below h h2 h3, h4⟩

/-- a new variable -/
theorem newVar_sound {t : TypeId} {xs : List AV} {us : Array Value} {s : Sem Next} (h : Rel S X yv w m (B ++ cellPairs hp hv) hp hv) (hr : RVs S w m yv xs us.toList) (hone : xs.all AV.one = true)
    (hown : ∀ p ∈ xs.zip us.toList, ownB p = none) (hs : s.run P w = .ok (.value (.pointer (some ⟨w.heap.size, 0, none⟩))) (w.alloc (.cells us t))) :
    HOkN P S X yv w m B hv s (.ptr hp.length 0) (hp ++ [⟨xs, false, false, 0⟩]) := by
  have hall : ∀ u ∈ us.toList, u.oneCell' = true := by
    intro u hu
    obtain ⟨j, hj⟩ := List.mem_iff_getElem?.1 hu
    have hjl : j < xs.length := by rw [hr.1]; exact (List.getElem?_eq_some_iff.1 hj).1
    exact (hr.2 j xs[j] u (by simp [hjl]) hj).one (List.all_eq_true.1 hone _ (List.getElem_mem hjl))
  have key : ∀ (l : List (AV × Value)) , (∀ p ∈ l, RV S w m yv p.1 p.2 ∧ ownB p = none) → Rel S X yv w m (l ++ (B ++ cellPairs hp hv)) hp hv := by
    intro l
    induction l with
    | nil => intro _; exact h
    | cons p l ih =>
      intro hl
      obtain ⟨h1, h2⟩ := hl p (by simp)
      exact (ih (fun q hq => hl q (by simp [hq]))).cons h1 h2
  have h0 := key (xs.zip us.toList) (fun p hp => by
    obtain ⟨j, hj⟩ := List.mem_iff_getElem?.1 hp
    rw [List.getElem?_zip_eq_some] at hj
    exact ⟨hr.2 j _ _ hj.1 hj.2, hown p hp⟩)
  have h1 := h0.newBlock xs us.toList rfl (by simpa using hr.1) t hall false rfl
  have hsz : w.heap.size = w.heap.size := rfl
  refine ⟨.pointer (some ⟨w.heap.size, 0, none⟩), w.alloc (.cells us t), S, m ++ [⟨w.heap.size, xs.length, false, 0⟩], hv ++ [us.toList], hs, ?_, ?_, ?_⟩
  · exact ⟨agree_of_below ((Below.refl _ _).alloc (Nat.le_refl _) _) _, fun _ _ h => h, fun _ _ h => .inl h, MStep.push _ _⟩
  · have h2 : Rel S X yv (w.alloc (.cells us t)) (m ++ [⟨w.heap.size, xs.length, false, 0⟩]) (B ++ cellPairs (hp ++ [⟨xs, false, false, 0⟩]) (hv ++ [us.toList])) (hp ++ [⟨xs, false, false, 0⟩]) (hv ++ [us.toList]) := by
      simpa using h1
    refine h2.cons (.ptr (len := xs.length) (ver := 0) ?_) rfl
    rw [List.getElem?_append_right (by rw [h.ml]; exact Nat.le_refl _), h.ml]; simp
  · intro g vs hg
    rw [List.getElem?_append_left (List.getElem?_eq_some_iff.1 hg).1]; exact hg

theorem own_of_const {zs : List AV} {us : List Value} (h : ∀ x ∈ zs, ∃ v, x = .d (.s v)) : ∀ p ∈ zs.zip us, ownB p = none := by
  intro p hp
  obtain ⟨j, hj⟩ := List.mem_iff_getElem?.1 hp
  rw [List.getElem?_zip_eq_some] at hj
  obtain ⟨v, hv⟩ := h p.1 (List.mem_of_getElem? hj.1)
  obtain ⟨x, u⟩ := p
  simp only at hv; subst hv; rfl

theorem zeroCs_const {i : TypeInfo} {zs : List AV} (h : zeroCs i = some zs) : ∀ x ∈ zs, ∃ v, x = .d (.s v) := by
  simp only [zeroCs, Option.map_eq_some_iff] at h
  obtain ⟨z, _, rfl⟩ := h
  intro x hx
  obtain ⟨v, _, rfl⟩ := List.mem_map.1 hx
  exact ⟨v, rfl⟩

def xAlloc (P : Program) (t : TypeId) : Option (List AV) :=
  match P.info? t with
  | some i => match zeroCs i with
    | some zs => if zs.all AV.one then some zs else none
    | none => none
  | none => none

theorem xAlloc_sound {t : TypeId} {xs : List AV} (h : Rel S X yv w m (B ++ cellPairs hp hv) hp hv) (hx : xAlloc P t = some xs) :
    HOkN P S X yv w m B hv (do pure (.value (← Instr.alloc t true (.tuple #[])))) (.ptr hp.length 0) (hp ++ [⟨xs, false, false, 0⟩]) := by
  unfold xAlloc at hx
  split at hx <;> try (cases hx; done)
  rename_i i hi
  split at hx <;> try (cases hx; done)
  rename_i zs hz
  split at hx <;> try (cases hx; done)
  rename_i hone
  cases hx
  obtain ⟨z, h1, h2⟩ := zero_RVs (S := S) (w := w) (m := m) (yv := yv) hz
  refine newVar_sound (t := t) (us := z.cells) h h2 hone (own_of_const (zeroCs_const hz)) ?_
  simp [Instr.alloc, zeroValue, typeInfo, hi, h1, newVar, newRow]

/-- the cells that a value lays down; the right to the room is not handed on -/
def xCells (x : AV) : Option (List AV) :=
  match x.cellsOf? with
  | some cs => if (cs.map AV.view).all AV.one then some (cs.map AV.view) else none
  | none => none

theorem RVs.view {cs : List AV} {vs : List Value} (h : RVs S w m yv cs vs) : RVs S w m yv (cs.map AV.view) vs := by
  refine ⟨by simp [h.1], fun i c v h1 h2 => ?_⟩
  simp only [List.getElem?_map, Option.map_eq_some_iff] at h1
  obtain ⟨c0, h1, rfl⟩ := h1
  exact (h.2 i c0 v h1 h2).view

theorem own_of_view {cs : List AV} {us : List Value} : ∀ p ∈ (cs.map AV.view).zip us, ownB p = none := by
  intro p hp
  obtain ⟨j, hj⟩ := List.mem_iff_getElem?.1 hp
  rw [List.getElem?_zip_eq_some] at hj
  obtain ⟨x, u⟩ := p
  have := hj.1
  simp only [List.getElem?_map, Option.map_eq_some_iff] at this
  obtain ⟨c, _, rfl⟩ := this
  exact ownB_view c u

theorem xCells_spec {x : AV} {v : Value} {cs : List AV} (h : xCells x = some cs) (hr : RV S w m yv x v) : RVs S w m yv cs v.cells.toList ∧ cs.all AV.one = true ∧ ∀ p ∈ cs.zip v.cells.toList, ownB p = none := by
  unfold xCells at h
  split at h <;> try (cases h; done)
  rename_i cs' hc
  split at h <;> try (cases h; done)
  rename_i hone
  cases h
  exact ⟨(cellsOf?_spec hc hr).view, hone, own_of_view⟩

theorem xBox_sound {t : TypeId} {x : AV} {v : Value} {xs : List AV} (h : Rel S X yv w m (B ++ cellPairs hp hv) hp hv) (hr : RV S w m yv x v) (hx : xCells x = some xs) :
    HOkN P S X yv w m B hv (do pure (.value (← Instr.box t v))) (.ptr hp.length 0) (hp ++ [⟨xs, false, false, 0⟩]) := by
  obtain ⟨h1, h2, h3⟩ := xCells_spec hx hr
  refine newVar_sound (t := t) (us := v.cells) h h1 h2 h3 ?_
  simp [Instr.box, newVar, newRow]

/-- a store of cells -/
def xStore (P : Program) (hp : List Blk) (t : TypeId) (a : AV) (xs : List AV) : Option (List Blk) :=
  match P.info? t, a with
  | some i, .ptr g off => match hp[g]? with
    | some blk => if xs.length = i.size ∧ blk.fro = false ∧ blk.grow = false ∧ off + xs.length ≤ blk.cells.length then
        some (hp.set g { blk with cells := blk.cells.take off ++ xs ++ blk.cells.drop (off + xs.length) }) else none
    | none => none
  | _, _ => none

theorem xStore_sound {t : TypeId} {a : AV} {xs : List AV} {va v : Value} {hp' : List Blk} (h : Rel S X yv w m (xs.zip v.cells.toList ++ (B ++ cellPairs hp hv)) hp hv) (ha : RV S w m yv a va)
    (hl : xs.length = v.cells.toList.length) (h1 : ∀ u ∈ v.cells.toList, u.oneCell' = true) (hx : xStore P hp t a xs = some hp') :
    HOk P S X yv w m B (do Instr.storeAt t va v; pure .skip) .bad hp' := by
  unfold xStore at hx
  split at hx <;> try (cases hx; done)
  rename_i i g off hi
  split at hx <;> try (cases hx; done)
  rename_i blk hg
  split at hx <;> try (cases hx; done)
  rename_i hc
  obtain ⟨hc1, hc2, hc3, hc4⟩ := hc
  cases hx
  cases ha with
  | ptr hm =>
    rename_i b len ver
    obtain ⟨blk', vs, cur, e, g1, g2, g3, g4, g5, g6, g7, g8, g9, g10, _⟩ := h.block hm
    rw [hg] at g1; cases g1
    simp only at g3 g6 g8 g9 g10
    obtain ⟨h2, h3⟩ := h.storeBlock (us := v.cells.toList) (off := off) hl h1 hg hm g2 hc2 (by omega) g8
    rw [← hl] at h2 h3
    have hst := run_storeCells_at P b off e v.cells.toList 0 cur w g8 (by simp only [← hl]; omega) h1
    simp only [Nat.add_zero, ← hl] at hst
    refine ⟨.skip, undef, _, S, m, _, ?_, .inr ⟨rfl, rfl⟩, ⟨h3, fun _ _ h => h, fun _ _ h => .inl h, MStep.refl m⟩, h2.cons .bad rfl⟩
    have hsz : v.cells.size = i.size := by have := hl; simp at this; omega
    simp only [Instr.storeAt, Instr.sureAddr, Sem.run_bind, Sem.run_pure, Result.andThen_ok, storeVar, sizeOf, typeInfo, run_program, hi, hsz, ne_eq, not_true_eq_false, if_false, hst]

/-- make -/
def xMake (P : Program) (t : TypeId) (l c : AV) : Option (Nat × Nat × Nat × List AV) :=
  match l.int?, c.int?, P.underlying t with
  | some (_, l), some (_, c), some (.slice e) => match P.info? e with
    | some i => match zeroCs i with
      | some zs => if 0 ≤ l ∧ l ≤ c ∧ (i.bytes : Int) * c ≤ 281474976710656 ∧ c ≤ 9223372036854775807 ∧ zs.length = i.size ∧ 0 < i.size ∧ zs.all AV.one then
          some (l.toNat, c.toNat, i.size, (List.range (c.toNat * i.size)).map fun j => zs[j % i.size]!) else none
      | none => none
    | none => none
  | _, _, _ => none

theorem xMake_sound {t : TypeId} {l c : AV} {vl vc : Value} {n cap k : Nat} {xs : List AV} (h : Rel S X yv w m (B ++ cellPairs hp hv) hp hv) (hl : RV S w m yv l vl) (hc : RV S w m yv c vc)
    (hx : xMake P t l c = some (n, cap, k, xs)) : HOkN P S X yv w m B hv (do pure (.value (← Instr.makeSlice t vl vc))) (.ref hp.length 0 n cap k) (hp ++ [⟨xs, false, false, 0⟩]) := by
  unfold xMake at hx
  split at hx <;> try (cases hx; done)
  rename_i kl l' kc c' e e1 e2 hu
  split at hx <;> try (cases hx; done)
  rename_i i hi
  split at hx <;> try (cases hx; done)
  rename_i zs hz
  split at hx <;> try (cases hx; done)
  rename_i hcond
  obtain ⟨a1, a2, a3, a4, a5, a6, a7⟩ := hcond
  simp only [Option.some.injEq, Prod.mk.injEq] at hx
  obtain ⟨rfl, rfl, rfl, rfl⟩ := hx
  have hvl := int?_spec e1 hl
  have hvc := int?_spec e2 hc
  subst hvl; subst hvc
  obtain ⟨z, h1, h2⟩ := zero_RVs (S := S) (w := w) (m := m) (yv := yv) hz
  have hzs : z.cells.size = i.size := by have := h2.1; simp at this; omega
  have hr := run_make (P := P) w t e i z hu hi h1 kl kc l' c' a1 a2 a3 a4
  have hmem : ∀ j : Nat, zs[j % i.size]! ∈ zs := by
    intro j
    have hlt : j % i.size < i.size := Nat.mod_lt _ a6
    rw [getElem!_pos zs (j % i.size) (by omega)]
    exact List.getElem_mem _
  have hbase : RVs S w m yv ((List.range (c'.toNat * i.size)).map fun j => zs[j % i.size]!) (madeCells z.cells (c'.toNat * i.size)).toList := by
    refine ⟨by simp [size_madeCells], fun j x v a b => ?_⟩
    simp only [List.getElem?_map, Option.map_eq_some_iff] at a
    obtain ⟨j1, b1, rfl⟩ := a
    have hj1 : j1 = j ∧ j < c'.toNat * i.size := by
      obtain ⟨q1, q2⟩ := List.getElem?_eq_some_iff.1 b1
      simp at q1 q2; omega
    obtain ⟨rfl, hjl⟩ := hj1
    have hlt : j1 % i.size < i.size := Nat.mod_lt _ a6
    simp only [madeCells, Array.toList_map, List.getElem?_map, Array.toList_range, List.getElem?_range hjl, Option.map_some, Option.some.injEq] at b
    subst b
    refine h2.2 (j1 % i.size) _ _ ?_ ?_
    · rw [getElem!_pos zs (j1 % i.size) (by omega)]; simp
    · rw [hzs, getElem!_pos z.cells (j1 % i.size) (by omega)]; simp
  have hone : ((List.range (c'.toNat * i.size)).map fun j => zs[j % i.size]!).all AV.one = true := by
    rw [List.all_eq_true]
    intro x hx
    obtain ⟨j, _, rfl⟩ := List.mem_map.1 hx
    exact List.all_eq_true.1 a7 _ (hmem j)
  have hown := own_of_const (zs := (List.range (c'.toNat * i.size)).map fun j => zs[j % i.size]!) (us := (madeCells z.cells (c'.toNat * i.size)).toList) (fun x hx => by
    obtain ⟨j, _, rfl⟩ := List.mem_map.1 hx
    exact zeroCs_const hz _ (hmem j))
  obtain ⟨v, w', S', m', hv', g1, g3, g4, g5⟩ := newVar_sound (P := P) (t := e) (us := madeCells z.cells (c'.toNat * i.size)) (s := do
    let a ← newRow e (madeCells z.cells (c'.toNat * i.size)); pure (.value (.pointer (some a)))) h hbase hone hown (by simp [newRow])
  have hw' : w' = w.alloc (.cells (madeCells z.cells (c'.toNat * i.size)) e) := by
    simp [newRow] at g1
    exact g1.2.symm
  subst hw'
  have hmm : m'[hp.length]? = some ⟨w.heap.size, c'.toNat * i.size, false, 0⟩ := by
    have hrv := g4.rv (.ptr hp.length 0, v) (by simp)
    have hv1 : v = .pointer (some ⟨w.heap.size, 0, none⟩) := by
      simp [newRow] at g1; exact g1.symm
    subst hv1
    cases hrv with
    | ptr hm' =>
      obtain ⟨blk, vs, cur, e', q1, q2, q3, q4, q5, _⟩ := g4.block hm'
      rw [List.getElem?_append_right (Nat.le_refl _)] at q1
      simp at q1; subst q1
      simp at q3 q5
      rw [hm', q3, q5]
  refine ⟨.slice (some ⟨w.heap.size, 0, none⟩) l'.toNat c'.toNat, _, S', m', hv', by simp [hr], g3, ?_, g5⟩
  exact (g4.sub (List.sublist_cons_self _ _)).cons (.ref hmm (by omega) (by omega)) rfl


/-- the cells that a copy reads, elements of one cell each -/
def srcCells (hp : List Blk) (x : AV) : Option (List AV) :=
  if isNilSlice x then some [] else match x with
  | .ref g off n cap k => match hp[g]? with
    | some blk => if k = 1 ∧ blk.grow = false then some (((blk.cells.drop off).take n).map AV.view) else none
    | none => none
  | _ => match x.rows? with
    | some (k, xs) => if k = 1 then some (xs.map fun r => .d (r.headD (.s undef))) else none
    | none => none

/-- copy -/
def xCopy (P : Program) (hp : List Blk) (ts : Array TypeId) (d s : AV) : Option (AV × List Blk) :=
  match ts[0]? with
  | some t => match P.underlying t with
    | some (.slice e) => match P.info? e, d, srcCells hp s with
      | some i, .ref g off n cap k, some cs => match hp[g]? with
        | some blk => if ts.size = 2 ∧ i.size = 1 ∧ k = 1 ∧ blk.fro = false ∧ blk.grow = false ∧ (cs.take n).all AV.one ∧ off + n ≤ blk.cells.length then
            some (.d (.s (goInt (cs.take n).length)), hp.set g { blk with cells := blk.cells.take off ++ cs.take n ++ blk.cells.drop (off + (cs.take n).length) }) else none
        | none => none
      | _, _, _ => none
    | _ => none
  | none => none

theorem srcCells_spec {x : AV} {v : Value} {cs : List AV} (h : Rel S X yv w m (B ++ cellPairs hp hv) hp hv) (hr : RV S w m yv x v) (hx : srcCells hp x = some cs) :
    (v = .slice none 0 0 ∧ cs = []) ∨ ∃ (a : Option Addr) (cap : Nat) (us : List Value), v = .slice a cs.length cap ∧ (a = none → cs = [] ∧ cap = 0) ∧ (∀ b, a = some b → ∀ (j : Nat) (u : Value), us[j]? = some u → w.cell? (b.add j) = some u) ∧
      (∀ u ∈ us, u.oneCell' = true) ∧ RVs S w m yv cs us ∧ ∀ p ∈ cs.zip us, ownB p = none := by
  unfold srcCells at hx
  split at hx
  · rename_i hn
    cases hx
    exact .inl ⟨isNilSlice_spec hn hr, rfl⟩
  · split at hx
    · rename_i g off n cap k hnn
      split at hx <;> try (cases hx; done)
      rename_i blk hb
      split at hx <;> try (cases hx; done)
      rename_i hc
      obtain ⟨rfl, hgr⟩ := hc
      cases hx
      cases hr with
      | ref hm hfit hn =>
        rename_i b len ver
        have hca : cellsAt hp (.ptr g off) = some (blk.cells.drop off) := by simp [cellsAt, hb, hgr]
        obtain ⟨b', o, us, e1, e2, e3, e4, e5⟩ := cellsAt_sound h (.ptr (off := off) hm) hca
        cases e1
        obtain ⟨blk', vs, cur, e, g1, g2, g3, _⟩ := h.block hm
        rw [hb] at g1; cases g1
        simp only at g3
        have hlen : (((blk.cells.drop off).take n).map AV.view).length = n := by simp; omega
        refine .inr ⟨some ⟨b, off, none⟩, cap, us.take n, by rw [hlen], fun h => (by cases h), fun bb hbb j u hu => ?_, fun u hu => e4 u (List.mem_of_mem_take hu), RVs.view ⟨by simp; simp at e2; omega, fun i c u h1 h2 => ?_⟩, own_of_view⟩
        · cases hbb
          rw [List.getElem?_take] at hu
          split at hu <;> try (cases hu; done)
          rw [add_lit]; exact e3 j u hu
        · rw [List.getElem?_take] at h1 h2
          split at h1 <;> try (cases h1; done)
          rename_i hin
          rw [if_pos hin] at h2
          exact e5 i c u h1 h2
    · split at hx <;> try (cases hx; done)
      rename_i k xs hrows
      split at hx <;> try (cases hx; done)
      rename_i hk
      subst hk
      cases hx
      have hd := rows?_spec hrows hr
      obtain ⟨base, cap, us, e1, e2, e3, e4, e5⟩ := hd.flat
      have hul : us.length = xs.length := by have := e3.len; omega
      refine .inr ⟨base, cap, us, by simp [e1], fun hb => ?_, fun b hb j u hu => ((e4 b hb).1 j u hu).1, e3.one, ⟨by simp [hul], fun i c u h1 h2 => ?_⟩, fun p hp => ?_⟩
      · obtain ⟨q1, q2⟩ := e5 hb; subst q1; exact ⟨rfl, q2⟩
      · simp only [List.getElem?_map, Option.map_eq_some_iff] at h1
        obtain ⟨r, h1, rfl⟩ := h1
        have hrl := e3.row i r h1
        cases r with
        | nil => simp at hrl
        | cons c r =>
          refine .d (e3.rd i (c :: r) 0 c u h1 rfl (by simpa using h2))
      · obtain ⟨j, hj⟩ := List.mem_iff_getElem?.1 hp
        rw [List.getElem?_zip_eq_some] at hj
        simp only [List.getElem?_map, Option.map_eq_some_iff] at hj
        obtain ⟨⟨r, _, hr'⟩, _⟩ := hj
        obtain ⟨p1, p2⟩ := p
        simp only at hr'
        subst hr'
        rfl

theorem Rel.pushAll (h : Rel S X yv w m A hp hv) : ∀ l : List (AV × Value), (∀ p ∈ l, RV S w m yv p.1 p.2 ∧ ownB p = none) → Rel S X yv w m (l ++ A) hp hv
  | [], _ => h
  | p :: l, hl => by
    obtain ⟨h1, h2⟩ := hl p (by simp)
    exact (Rel.pushAll h l (fun q hq => hl q (by simp [hq]))).cons h1 h2

theorem xCopy_sound {ts : Array TypeId} {d s x : AV} {vd vs : Value} {hp' : List Blk} (h : Rel S X yv w m (B ++ cellPairs hp hv) hp hv) (hd : RV S w m yv d vd) (hs : RV S w m yv s vs) (ty : TypeId) (hx : xCopy P hp ts d s = some (x, hp')) :
    HOk P S X yv w m B (do pure (.value (← Builtin.copy_ ts ty #[vd, vs]))) x hp' := by
  unfold xCopy at hx
  split at hx <;> try (cases hx; done)
  rename_i t ht
  split at hx <;> try (cases hx; done)
  rename_i e hu
  split at hx <;> try (cases hx; done)
  rename_i i g off n cap k cs hi hsrc
  split at hx <;> try (cases hx; done)
  rename_i blk hb
  split at hx <;> try (cases hx; done)
  rename_i hc
  obtain ⟨hts, c1, rfl, c3, c4, c5, c6⟩ := hc
  simp only [Option.some.injEq, Prod.mk.injEq] at hx
  obtain ⟨rfl, rfl⟩ := hx
  obtain ⟨t', ht'⟩ : ∃ t', ts[1]? = some t' := ⟨ts[1], by simp [hts]⟩
  have htse : ts = #[t, t'] := by
    apply Array.ext_getElem?
    intro j
    match j with
    | 0 => simpa using ht
    | 1 => simpa using ht'
    | j + 2 => simp [Array.getElem?_eq_none (by omega : ts.size ≤ j + 2)]
  subst htse
  cases hd with
  | ref hm hfit hn =>
    rename_i b len ver
    obtain ⟨blk', cvs, cur, e', g1, g2, g3, g4, g5, g6, g7, g8, g9, g10, _⟩ := h.block hm
    rw [hb] at g1; cases g1
    simp only at g3 g6 g8 g9 g10
    rcases srcCells_spec h hs hsrc with ⟨rfl, rfl⟩ | ⟨a, scap, us, rfl, q1, q2, q3, q4, q5⟩
    · have hrun := run_copy_nil (P := P) w t t' ty e ⟨b, off, none⟩ n cap hu (by rw [hi]; rfl)
      refine ⟨_, goInt 0, w, S, m, hv, by rw [Sem.run_bind, hrun]; rfl, .inl rfl, Gs.refl _ _ _ _ _, ?_⟩
      have e1 : hp.set g { blk with cells := blk.cells.take off ++ ([] : List AV).take n ++ blk.cells.drop (off + (([] : List AV).take n).length) } = hp := by
        simp only [List.take_nil, List.append_nil, List.length_nil, Nat.add_zero, List.take_append_drop]
        apply List.ext_getElem?
        intro j
        by_cases hj : g = j
        · subst hj; rw [List.getElem?_set_self (List.getElem?_eq_some_iff.1 hb).1, hb]
        · rw [List.getElem?_set_ne hj]
      rw [e1]
      have : (([] : List AV).take n).length = 0 := by simp
      rw [this]
      exact h.cons (.d (.s _)) rfl
    · have hxl : (cs.take n).length = (us.take n).length := by simp [q4.1]
      have hone : ∀ u ∈ us.take n, u.oneCell' = true := fun u hu => q3 u (List.mem_of_mem_take hu)
      have hpairs : ∀ p ∈ (cs.take n).zip (us.take n), RV S w m yv p.1 p.2 ∧ ownB p = none := by
        intro p hp
        obtain ⟨j, hj⟩ := List.mem_iff_getElem?.1 hp
        rw [List.getElem?_zip_eq_some, List.getElem?_take, List.getElem?_take] at hj
        obtain ⟨j1, j2⟩ := hj
        split at j1 <;> try (cases j1; done)
        rename_i hjn
        rw [if_pos hjn] at j2
        refine ⟨q4.2 j _ _ j1 j2, q5 p (List.mem_iff_getElem?.2 ⟨j, ?_⟩)⟩
        rw [List.getElem?_zip_eq_some]; exact ⟨j1, j2⟩
      have hr := h.pushAll _ hpairs
      obtain ⟨h2, h3⟩ := hr.storeBlock (us := us.take n) (off := off) hxl hone hb hm g2 c3 (by simp; omega) g8
      rw [← hxl] at h2 h3
      have hcl : cs.length = us.length := q4.1
      have key : (Builtin.copy_ #[t, t'] ty #[.slice (some ⟨b, off, none⟩) n cap, .slice a cs.length scap]).run P w =
          .ok (goInt (us.take n).length) (w.setRow b (cur.toList.take off ++ us.take n ++ cur.toList.drop (off + (us.take n).length)).toArray) := by
        cases ha : a with
        | none =>
          obtain ⟨rfl, rfl⟩ := q1 ha
          have hus : us = [] := by simpa using hcl.symm
          subst hus
          have hrun := run_copy_nil (P := P) w t t' ty e ⟨b, off, none⟩ n cap hu (by rw [hi]; rfl)
          simp only [List.length_nil, List.take_nil, Nat.add_zero, List.append_nil, List.take_append_drop, Array.toArray_toList]
          rw [setRow_self w b cur e' (0, 0) g8]
          exact hrun
        | some a0 =>
          refine run_copy_row (P := P) w t t' ty e b off n cap a0 cs.length scap cur e' (us.take n) hu (by rw [hi]; simp [c1]) g8 (by rw [hcl]; simp [Nat.min_comm]) (fun j v hj => ?_) (by simp; omega) hone
          rw [List.getElem?_take] at hj
          split at hj <;> try (cases hj; done)
          exact q2 a0 ha j v hj
      rw [← hxl] at key
      exact ⟨_, goInt (cs.take n).length, _, S, m, hv.set g (cvs.take off ++ us.take n ++ cvs.drop (off + (cs.take n).length)), by rw [Sem.run_bind, key]; rfl, .inl rfl, ⟨h3, fun _ _ h => h, fun _ _ h => .inl h, MStep.refl m⟩, h2.cons (.d (.s _)) rfl⟩

end
end Go.Proofs.Ytgdeoaiakdkhcaa.Am
