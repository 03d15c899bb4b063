/- Quiet operations: values that are put together; slices; lengths. -/
import Derived.Test.YtgdeoaiakdkhcaaAmF
namespace Go.Proofs.Ytgdeoaiakdkhcaa.Am
set_option linter.unusedVariables false
open Go Go.RowKit

section
variable {P : Program} {S S' X : Pr} {yv : Option Nat} {w w' : World} {m : List MB} {A B : List (AV × Value)} {hp : List Blk} {hv : List (List Value)}

/-- two lists of cells, read place by place -/
def RVs (S : Pr) (w : World) (m : List MB) (yv : Option Nat) (cs : List AV) (vs : List Value) : Prop :=
  cs.length = vs.length ∧ ∀ (i : Nat) (c : AV) (v : Value), cs[i]? = some c → vs[i]? = some v → RV S w m yv c v

theorem RVs.splice {cs xs : List AV} {vs us : List Value} {off : Nat} (h : RVs S w m yv cs vs) (h' : RVs S w m yv xs us) (ho : off + xs.length ≤ cs.length) :
    RVs S w m yv (cs.take off ++ xs ++ cs.drop (off + xs.length)) (vs.take off ++ us ++ vs.drop (off + us.length)) := by
  obtain ⟨h1, h2⟩ := h
  obtain ⟨h3, h4⟩ := h'
  refine ⟨by simp; omega, fun i c v hc hv => ?_⟩
  have e1 : (cs.take off).length = off := by simp; omega
  have e2 : (vs.take off).length = off := by simp; omega
  by_cases hi : i < off
  · rw [List.append_assoc, List.getElem?_append_left (by omega), List.getElem?_take_of_lt hi] at hc hv
    exact h2 i c v hc hv
  · by_cases hi2 : i < off + xs.length
    · rw [List.getElem?_append_left (by simp; omega), List.getElem?_append_right (by omega), e1] at hc
      rw [List.getElem?_append_left (by simp; omega), List.getElem?_append_right (by omega), e2] at hv
      exact h4 _ c v hc hv
    · rw [List.getElem?_append_right (by simp; omega), List.getElem?_drop] at hc
      rw [List.getElem?_append_right (by simp; omega), List.getElem?_drop] at hv
      have f1 : off + xs.length + (i - (cs.take off ++ xs).length) = i := by simp; omega
      have f2 : off + us.length + (i - (vs.take off ++ us).length) = i := by simp; omega
      rw [f1] at hc; rw [f2] at hv
      exact h2 i c v hc hv

/-- the cells of a value -/
def AV.cellsOf? : AV → Option (List AV)
  | .agg cs => some cs
  | .tup _ | .bad => none
  | .d (.s (.agg _)) => none
  | .gref .. | .gptr .. => none
  | x => some [x.view]

theorem cellsOf?_spec {x : AV} {v : Value} {cs : List AV} (h : x.cellsOf? = some cs) (hr : RV S w m yv x v) : RVs S w m yv cs v.cells.toList := by
  cases hr with
  | agg hl hc =>
    simp [AV.cellsOf?] at h; subst h
    exact ⟨by simpa [Value.cells] using hl, fun i c v h1 h2 => hc i c v h1 (by simpa [Value.cells] using h2)⟩
  | tup => simp [AV.cellsOf?] at h
  | bad => simp [AV.cellsOf?] at h
  | gref => simp [AV.cellsOf?] at h
  | gptr => simp [AV.cellsOf?] at h
  | d hd =>
    cases hd with
    | s v =>
      cases v <;> simp [AV.cellsOf?, AV.view] at h <;> subst h <;> exact ⟨rfl, fun i c u h1 h2 => by
        cases i with
        | zero => simp [Value.cells] at h1 h2; subst h1; subst h2; exact .d (.s _)
        | succ i => simp at h1⟩
    | sl k xs a cap vals hk hs hc hr h1 hcap hsp =>
      simp [AV.cellsOf?, AV.view] at h; subst h
      refine ⟨rfl, fun i c u h1' h2 => ?_⟩
      cases i with
      | zero => simp [Value.cells] at h1' h2; subst h1'; subst h2; exact .d (.sl k xs a cap vals hk hs hc hr h1 hcap hsp)
      | succ i => simp at h1'
    | nil k =>
      simp [AV.cellsOf?, AV.view] at h; subst h
      refine ⟨rfl, fun i c u h1' h2 => ?_⟩
      cases i with
      | zero => simp [Value.cells] at h1' h2; subst h1'; subst h2; exact .d (.nil _)
      | succ i => simp at h1'
  | ownNil =>
    simp [AV.cellsOf?, AV.view] at h; subst h
    refine ⟨rfl, fun i c u h1' h2 => ?_⟩
    cases i with
    | zero => simp [Value.cells] at h1' h2; subst h1'; subst h2; exact .d (.nil _)
    | succ i => simp at h1'
  | own h' ho =>
    simp [AV.cellsOf?, AV.view] at h; subst h
    refine ⟨rfl, fun i c u h1 h2 => ?_⟩
    cases i with
    | zero => simp [Value.cells] at h1 h2; subst h1; subst h2; exact .d h'
    | succ i => simp at h1
  | full h' =>
    simp [AV.cellsOf?, AV.view] at h; subst h
    refine ⟨rfl, fun i c u h1 h2 => ?_⟩
    cases i with
    | zero => simp [Value.cells] at h1 h2; subst h1; subst h2; exact .full h'
    | succ i => simp at h1
  | rptr vals hne hsp hs hcc hr h1 =>
    simp [AV.cellsOf?, AV.view] at h; subst h
    refine ⟨rfl, fun i c u h1' h2 => ?_⟩
    cases i with
    | zero => simp [Value.cells] at h1' h2; subst h1'; subst h2; exact .rptr vals hne hsp hs hcc hr h1
    | succ i => simp at h1'
  | ref hm hf hn =>
    simp [AV.cellsOf?, AV.view] at h; subst h
    refine ⟨rfl, fun i c u h1' h2 => ?_⟩
    cases i with
    | zero => simp [Value.cells] at h1' h2; subst h1'; subst h2; exact .ref hm hf hn
    | succ i => simp at h1'
  | ptr hm =>
    simp [AV.cellsOf?, AV.view] at h; subst h
    refine ⟨rfl, fun i c u h1' h2 => ?_⟩
    cases i with
    | zero => simp [Value.cells] at h1' h2; subst h1'; subst h2; exact .ptr hm
    | succ i => simp at h1'
  | fn hf hl hl' h1 h2 =>
    simp [AV.cellsOf?, AV.view] at h; subst h
    refine ⟨rfl, fun i c u h1' h2' => ?_⟩
    cases i with
    | zero => simp [Value.cells] at h1' h2'; subst h1'; subst h2'; exact .fn hf hl hl' h1 h2
    | succ i => simp at h1'
  | yl hy =>
    simp [AV.cellsOf?, AV.view] at h; subst h
    refine ⟨rfl, fun i c u h1' h2 => ?_⟩
    cases i with
    | zero => simp [Value.cells] at h1' h2; subst h1'; subst h2; exact .yl hy
    | succ i => simp at h1'

/-- parts laid into cells -/
def fillA (place : Nat → Option (Nat × Nat)) (cs : List AV) : List (Nat × AV) → Option (List AV)
  | [] => some cs
  | (i, x) :: rest =>
    match place i, x.cellsOf? with
    | some (off, size), some xs => if xs.length = size ∧ off + size ≤ cs.length then fillA place (cs.take off ++ xs ++ cs.drop (off + xs.length)) rest else none
    | _, _ => none

theorem foldl_set (cs : Array Value) (off : Nat) : ∀ (us : List Value) (k : Nat), off + k + us.length ≤ cs.size →
    (us.zipIdx k).foldl (fun cs (p : Value × Nat) => cs.setIfInBounds (off + p.2) p.1) cs = (cs.toList.take (off + k) ++ us ++ cs.toList.drop (off + k + us.length)).toArray := by
  intro us
  induction us generalizing cs with
  | nil => intro k h; simp
  | cons u us ih =>
    intro k h
    simp only [List.zipIdx_cons, List.foldl_cons]
    simp only [List.length_cons] at h
    rw [ih (cs.setIfInBounds (off + k) u) (k + 1) (by simp; omega)]
    congr 1
    have := list_seg_step cs.toList (off + k) u us (by simp; omega)
    simpa [Nat.add_assoc] using this

theorem fillA_sound {place : Nat → Option (Nat × Nat)} : ∀ {pa : List (Nat × AV)} {pv : List (Nat × Value)} {cs cs' : List AV} {vs : Array Value},
    RVs S w m yv cs vs.toList → pa.length = pv.length → (∀ (j : Nat) (p : Nat × AV) (q : Nat × Value), pa[j]? = some p → pv[j]? = some q → p.1 = q.1 ∧ RV S w m yv p.2 q.2) →
    fillA place cs pa = some cs' → ∃ vs', Instr.fill place vs pv = some vs' ∧ RVs S w m yv cs' vs'.toList
  | [], pv, cs, cs', vs, h, hl, hp, hf => by
    cases pv with
    | nil => simp [fillA] at hf; subst hf; exact ⟨vs, by simp [Instr.fill], h⟩
    | cons => simp at hl
  | (i, x) :: pa, pv, cs, cs', vs, h, hl, hp, hf => by
    cases pv with
    | nil => simp at hl
    | cons q pv =>
      obtain ⟨i', v⟩ := q
      obtain ⟨h1, h2⟩ := hp 0 (i, x) (i', v) rfl rfl
      simp only at h1 h2; subst h1
      simp only [fillA] at hf
      split at hf <;> try (cases hf; done)
      rename_i off size xs hpl hxs
      split at hf <;> try (cases hf; done)
      rename_i hcond
      obtain ⟨hc1, hc2⟩ := hcond
      have h3 := cellsOf?_spec hxs h2
      have hsz : v.cells.size = size := by have := h3.1; simp at this; omega
      have hszc : cs.length = vs.size := by have := h.1; simpa using this
      have h4 := h.splice h3 (off := off) (by omega)
      have hfold := foldl_set vs off v.cells.toList 0 (by simp; omega)
      simp only [Nat.add_zero] at hfold
      obtain ⟨vs', h5, h6⟩ := fillA_sound (pa := pa) (pv := pv) (cs := cs.take off ++ xs ++ cs.drop (off + xs.length)) (vs := (vs.toList.take off ++ v.cells.toList ++ vs.toList.drop (off + v.cells.toList.length)).toArray)
        (by simpa using h4) (by simpa using hl) (fun j p q h1 h2 => hp (j + 1) p q (by simpa using h1) (by simpa using h2)) hf
      refine ⟨vs', ?_, h6⟩
      rw [Instr.fill, hpl]
      have n1 : ¬ (v.cells.size ≠ size ∨ off + v.cells.size > vs.size) := by omega
      simp only [ne_eq, Bool.or_eq_true, decide_eq_true_eq, gt_iff_lt]
      rw [if_neg (by simpa using n1)]
      rw [← h5]
      congr 1
      rw [← hfold, ← Array.foldl_toList]
      simp

def zeroCs (i : TypeInfo) : Option (List AV) := i.zero.map fun z => z.cells.toList.map fun v => .d (.s v)

def xBuild (P : Program) (t : TypeId) (parts : List (Nat × AV)) : Option AV :=
  match P.info? t, P.underlying t with
  | some i, some (.struct fields) => match zeroCs i with
    | some zs => if fields.toList.all (fun f => (P.info? f.type).isSome) then
        (fillA (fun k => (fields[k]?).map fun f => (f.offset, P.cellsOf f.type)) zs parts).map .agg else none
    | none => none
  | some i, some (.array _ elem) => match zeroCs i, P.info? elem with
    | some zs, some ie => (fillA (fun k => some (k * ie.size, ie.size)) zs parts).map .agg
    | _, _ => none
  | _, _ => none

theorem zero_RVs {i : TypeInfo} {zs : List AV} (h : zeroCs i = some zs) : ∃ z, i.zero = some z ∧ RVs S w m yv zs z.cells.toList := by
  simp only [zeroCs, Option.map_eq_some_iff] at h
  obtain ⟨z, h1, rfl⟩ := h
  refine ⟨z, h1, by simp, fun i c v h1 h2 => ?_⟩
  simp only [List.getElem?_map, Option.map_eq_some_iff] at h1
  obtain ⟨u, h1, rfl⟩ := h1
  rw [h1] at h2; cases h2
  exact .d (.s _)

theorem run_mapM_list {α β : Type} (g : α → Sem β) (f : α → β) (w : World) : ∀ l : List α, (∀ a ∈ l, (g a).run P w = .ok (f a) w) → (l.mapM g).run P w = .ok (l.map f) w
  | [], _ => by simp
  | a :: l, h => by
    have h1 := h a (by simp)
    have h2 := run_mapM_list g f w l (fun b hb => h b (by simp [hb]))
    rw [List.mapM_cons]
    simp only [Sem.run_bind, h1, Result.andThen_ok, h2, Sem.run_pure, List.map_cons]

theorem run_mapM_array {α β : Type} (g : α → Sem β) (f : α → β) (w : World) (l : Array α) (h : ∀ a ∈ l.toList, (g a).run P w = .ok (f a) w) : (l.mapM g).run P w = .ok (l.map f) w := by
  obtain ⟨l⟩ := l
  rw [List.mapM_toArray]
  simp only [Sem.run_map, run_mapM_list g f w l h, Result.andThen_ok, List.map_toArray]

theorem run_mapM_places (fields : Array Field) (h : fields.toList.all (fun f => (P.info? f.type).isSome) = true) (w : World) :
    (fields.mapM (fun (f : Field) => (do pure (f.offset, ← sizeOf f.type) : Sem (Nat × Nat)))).run P w = .ok (fields.map fun f => (f.offset, P.cellsOf f.type)) w := by
  refine run_mapM_array _ (fun f => (f.offset, P.cellsOf f.type)) w fields fun f hf => ?_
  obtain ⟨i, hi⟩ := Option.isSome_iff_exists.1 (List.all_eq_true.1 h f hf)
  simp [sizeOf, typeInfo, hi, Program.cellsOf]

theorem xBuild_sound {t : TypeId} {pa : List (Nat × AV)} {pv : Array (Nat × Value)} {x : AV} (h : Rel S X yv w m A hp hv) (hl : pa.length = pv.size)
    (hp' : ∀ (j : Nat) (p : Nat × AV) (q : Nat × Value), pa[j]? = some p → pv[j]? = some q → p.1 = q.1 ∧ RV S w m yv p.2 q.2) (hx : xBuild P t pa = some x) :
    QOk P S X yv w m A hp hv (do pure (.value (← Instr.build t pv))) x := by
  unfold xBuild at hx
  split at hx <;> try (cases hx; done)
  · rename_i i fields hi hu
    split at hx <;> try (cases hx; done)
    rename_i zs hz
    split at hx <;> try (cases hx; done)
    rename_i hall
    simp only [Option.map_eq_some_iff] at hx
    obtain ⟨cs, hcs, rfl⟩ := hx
    obtain ⟨z, h1, h2⟩ := zero_RVs (S := S) (w := w) (m := m) (yv := yv) hz
    obtain ⟨vs', h3, h4⟩ := fillA_sound (pv := pv.toList) (vs := z.cells) h2 (by simpa using hl) (fun j p q h1 h2 => hp' j p q h1 (by simpa using h2)) hcs
    refine QOk.same h (v := .agg vs') ?_ (.agg (by simpa using h4.1) (fun j c v h1 h2 => h4.2 j c v h1 (by simpa using h2))) rfl
    have hm := run_mapM_places (P := P) fields hall w
    have hpl : (fun (k : Nat) => (fields.map fun (f : Field) => (f.offset, P.cellsOf f.type))[k]?) = fun (k : Nat) => (fields[k]?).map fun (f : Field) => (f.offset, P.cellsOf f.type) := by
      funext k; simp
    simp only [Instr.build, Sem.run_bind, zeroValue, typeInfo, run_program, hi, h1, Result.andThen_ok, Sem.run_pure, run_underlying hu, hm, hpl, h3]
  · rename_i i n elem hi hu
    split at hx <;> try (cases hx; done)
    rename_i zs ie hz hie
    simp only [Option.map_eq_some_iff] at hx
    obtain ⟨cs, hcs, rfl⟩ := hx
    obtain ⟨z, h1, h2⟩ := zero_RVs (S := S) (w := w) (m := m) (yv := yv) hz
    obtain ⟨vs', h3, h4⟩ := fillA_sound (pv := pv.toList) (vs := z.cells) h2 (by simpa using hl) (fun j p q h1 h2 => hp' j p q h1 (by simpa using h2)) hcs
    refine QOk.same h (v := .agg vs') ?_ (.agg (by simpa using h4.1) (fun j c v h1 h2 => h4.2 j c v h1 (by simpa using h2))) rfl
    simp only [Instr.build, Sem.run_bind, zeroValue, typeInfo, sizeOf, run_program, hi, h1, Result.andThen_ok, Sem.run_pure, run_underlying hu, hie, h3]

/-! ### functions -/
def AV.isYield : Fn → Bool
  | .yield _ => true
  | _ => false

theorem makeFunc_sound {f : Fn} {fa ca : List AV} {fv cv : Array Value} (h : Rel S X yv w m A hp hv) (hf : AV.isYield f = false) (h1 : RVs S w m yv fa fv.toList) (h2 : RVs S w m yv ca cv.toList) :
    QOk P S X yv w m A hp hv (do pure (.value (← Instr.makeFunc f fv cv))) (.fn f fa ca) := by
  refine QOk.same h (v := .func f fv cv) (by simp [Instr.makeFunc]) (.fn (fun l hl => by subst hl; cases hf) (by simpa using h1.1) (by simpa using h2.1)
    (fun i c v h3 h4 => h1.2 i c v h3 (by simpa using h4)) (fun i c v h3 h4 => h2.2 i c v h3 (by simpa using h4))) rfl

end
end Go.Proofs.Ytgdeoaiakdkhcaa.Am
