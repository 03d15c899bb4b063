/- Quiet operations: slice literals, slicing, lengths, appends that make a new row. -/
import Derived.Test.YtgdeoaiakdkhcaaAmG
namespace Go.Proofs.Ytgdeoaiakdkhcaa.Am
set_option linter.unusedVariables false
open Go Go.RowKit

def AV.toD? : AV → Option Dv
  | .d x => some x
  | .own _ k xs => some (.sl k xs)
  | .full k xs => some (.sl k xs)
  | _ => none

def toDs : List AV → Option (List Dv)
  | [] => some []
  | x :: r => match x.toD?, toDs r with
    | some d, some ds => some (d :: ds)
    | _, _ => none

/-- cells in rows of k -/
def chunk (k : Nat) : Nat → List AV → Option (List (List Dv))
  | 0, _ => some []
  | n + 1, cs => if k ≤ cs.length then match toDs (cs.take k), chunk k n (cs.drop k) with
    | some r, some rs => some (r :: rs)
    | _, _ => none
    else none

section
variable {P : Program} {S S' X : Pr} {yv : Option Nat} {w w' : World} {m : List MB} {A B : List (AV × Value)} {hp : List Blk} {hv : List (List Value)}

theorem toD?_spec {x : AV} {d : Dv} {v : Value} (h : x.toD? = some d) (hr : RV S w m yv x v) : DR S w d v := by
  cases hr with
  | d h' => simp [AV.toD?] at h; subst h; exact h'
  | own h' _ => simp [AV.toD?] at h; subst h; exact h'
  | ownNil => simp [AV.toD?] at h; subst h; exact .nil _
  | full h' => simp [AV.toD?] at h; subst h; exact h'
  | _ => simp [AV.toD?] at h

theorem toDs_spec : ∀ {cs : List AV} {ds : List Dv}, toDs cs = some ds → ds.length = cs.length ∧ ∀ (i : Nat) (c : AV) (d : Dv), cs[i]? = some c → ds[i]? = some d → c.toD? = some d
  | [], ds, h => by simp [toDs] at h; subst h; simp
  | x :: r, ds, h => by
    simp only [toDs] at h
    split at h <;> try (cases h; done)
    rename_i d ds' h1 h2
    cases h
    obtain ⟨h3, h4⟩ := toDs_spec h2
    refine ⟨by simp [h3], fun i c d' hc hd => ?_⟩
    cases i with
    | zero => simp at hc hd; subst hc; subst hd; exact h1
    | succ i => simp at hc hd; exact h4 i c d' hc hd

theorem chunk_spec {k : Nat} : ∀ {n : Nat} {cs : List AV} {xs : List (List Dv)} {us : List Value}, chunk k n cs = some xs → RVs S w m yv cs us → us.length = n * k → (∀ u ∈ us, u.oneCell' = true) →
    xs.length = n ∧ Flat S w k xs us
  | 0, cs, xs, us, h, hr, hl, h1 => by
    simp [chunk] at h; subst h
    simp at hl; subst hl
    exact ⟨rfl, ⟨by simp, by simp, by simp, by simp⟩⟩
  | n + 1, cs, xs, us, h, hr, hl, h1 => by
    simp only [chunk] at h
    split at h <;> try (cases h; done)
    rename_i hk
    split at h <;> try (cases h; done)
    rename_i r rs h2 h3
    cases h
    obtain ⟨h4, h5⟩ := toDs_spec h2
    rw [Nat.add_mul, Nat.one_mul] at hl
    have hr' : RVs S w m yv (cs.drop k) (us.drop k) := ⟨by simp [hr.1], fun i c v a b => by rw [List.getElem?_drop] at a b; exact hr.2 _ c v a b⟩
    obtain ⟨h6, h7⟩ := chunk_spec h3 hr' (by simp; omega) (fun u hu => h1 u (List.mem_of_mem_drop hu))
    have hhead : Flat S w k [r] (us.take k) := by
      have hrl : r.length = k := by rw [h4]; simp; omega
      refine ⟨by simp; omega, fun i r' hr' => ?_, fun i r' j c v a b d => ?_, fun v hv => h1 v (List.mem_of_mem_take hv)⟩
      · cases i with
        | zero => simp at hr'; subst hr'; exact hrl
        | succ i => simp at hr'
      · cases i with
        | zero =>
          simp at a; subst a
          simp only [Nat.zero_mul, Nat.zero_add] at d
          have hj : j < k := hrl ▸ (List.getElem?_eq_some_iff.1 b).1
          rw [List.getElem?_take_of_lt hj] at d
          have hcj : (cs.take k)[j]? = some cs[j] := by rw [List.getElem?_take_of_lt hj]; simp
          exact toD?_spec (h5 j cs[j] c hcj b) (hr.2 j cs[j] v (by simp) d)
        | succ i => simp at a
    have := hhead.append h7
    simp only [List.singleton_append, List.take_append_drop] at this
    exact ⟨by simp [h6], this⟩

/-- data laid into a new row -/
theorem newRow_full {k : Nat} {xs : List (List Dv)} {us : List Value} (h : Rel S X yv w m A hp hv) (hf : Flat S w k xs us) (e : TypeId) {s : Sem Next}
    (hs : s.run P w = .ok (.value (.slice (some ⟨w.heap.size, 0, none⟩) xs.length xs.length)) (w.alloc (.cells us.toArray e))) : QOk P S X yv w m A hp hv s (.full k xs) := by
  have hb : Below w.heap.size w (w.alloc (.cells us.toArray e)) := (Below.refl _ _).alloc (Nat.le_refl _) _
  refine ⟨_, _, fun b i => S b i ∨ b = w.heap.size, hs, hb, ⟨fun _ _ h => .inl h, fun b i hbi => hbi.imp id (fun h => by subst h; simp)⟩, ?_⟩
  have h0 := h.below (S' := fun b i => S b i ∨ b = w.heap.size) hb (fun _ _ h => .inl h) (fun b i hbi => hbi.imp id (fun h => by subst h; simp))
  refine h0.cons (.full ?_) rfl
  refine DR.ofFlat (a := ⟨w.heap.size, 0, none⟩) (us := us) (hf.ext (fun _ _ h => .inl h) (agree_of_below (yv := yv) hb S).same) (fun j u hu => ⟨?_, .inr rfl⟩) (Nat.le_refl _) (.inl rfl)
  simp only [Nat.zero_add]
  rw [World.cell?_alloc_new]; simpa using hu

/-! ### slice literals -/
def xBuildSlice (P : Program) (t : TypeId) (len : Nat) (parts : List (Nat × AV)) : Option AV :=
  match P.underlying t with
  | some (.slice elem) => match P.info? elem with
    | some i => match zeroCs i with
      | some zs => if len * i.size ≤ 16777216 ∧ 0 < i.size ∧ zs.length = i.size then
          match fillA (fun k => some (k * i.size, i.size)) ((List.range (len * i.size)).map fun j => zs[j % i.size]!) parts with
          | some cs => if cs.all AV.one then (chunk i.size len cs).map (.full i.size) else none
          | none => none
        else none
      | none => none
    | none => none
  | _ => none

theorem xBuildSlice_sound {t : TypeId} {n : Nat} {pa : List (Nat × AV)} {pv : Array (Nat × Value)} {x : AV} (h : Rel S X yv w m A hp hv) (hl : pa.length = pv.size)
    (hp' : ∀ (j : Nat) (p : Nat × AV) (q : Nat × Value), pa[j]? = some p → pv[j]? = some q → p.1 = q.1 ∧ RV S w m yv p.2 q.2) (hx : xBuildSlice P t n pa = some x) :
    QOk P S X yv w m A hp hv (do pure (.value (← Instr.buildSlice t n pv))) x := by
  unfold xBuildSlice at hx
  split at hx <;> try (cases hx; done)
  rename_i elem hu
  split at hx <;> try (cases hx; done)
  rename_i i hi
  split at hx <;> try (cases hx; done)
  rename_i zs hz
  split at hx <;> try (cases hx; done)
  rename_i hcond
  obtain ⟨hc1, hc2, hc3⟩ := hcond
  split at hx <;> try (cases hx; done)
  rename_i cs hcs
  split at hx <;> try (cases hx; done)
  rename_i hone
  simp only [Option.map_eq_some_iff] at hx
  obtain ⟨xs, hxs, rfl⟩ := hx
  obtain ⟨z, h1, h2⟩ := zero_RVs (S := S) (w := w) (m := m) (yv := yv) hz
  have hzs : z.cells.size = i.size := by have := h2.1; simp at this; omega
  have hbase : RVs S w m yv ((List.range (n * i.size)).map fun j => zs[j % i.size]!) ((List.range (n * i.size)).map fun j => z.cells[j % i.size]!) := by
    refine ⟨by simp, fun j c v a b => ?_⟩
    simp only [List.getElem?_map, Option.map_eq_some_iff] at a b
    obtain ⟨j1, a1, rfl⟩ := a
    obtain ⟨j2, b1, rfl⟩ := b
    rw [a1] at b1; cases b1
    have hlt : j1 % i.size < i.size := Nat.mod_lt _ hc2
    refine h2.2 (j1 % i.size) _ _ ?_ ?_
    · rw [getElem!_pos zs (j1 % i.size) (by omega)]; simp
    · rw [getElem!_pos z.cells (j1 % i.size) (by omega)]; simp
  obtain ⟨vs', h3, h4⟩ := fillA_sound (pv := pv.toList) (vs := ((List.range (n * i.size)).map fun j => z.cells[j % i.size]!).toArray) (by simpa using hbase) (by simpa using hl) (fun j p q h1 h2 => hp' j p q h1 (by simpa using h2)) hcs
  have hlen0 : ∀ {pa : List (Nat × AV)} {cs cs' : List AV}, fillA (fun k => some (k * i.size, i.size)) cs pa = some cs' → cs'.length = cs.length := by
    intro pa
    induction pa with
    | nil => intro cs cs' h; simp [fillA] at h; rw [h]
    | cons p pa ih =>
      intro cs cs' h
      obtain ⟨k, x⟩ := p
      simp only [fillA] at h
      split at h <;> try (cases h; done)
      rename_i off size ys hpl hys
      split at h <;> try (cases h; done)
      rename_i hcc
      rw [ih h]; simp; omega
  have hvl : vs'.toList.length = n * i.size := by rw [← h4.1, hlen0 hcs]; simp
  have hall : ∀ u ∈ vs'.toList, u.oneCell' = true := by
    intro u hu
    obtain ⟨j, hj⟩ := List.mem_iff_getElem?.1 hu
    have hjl : j < cs.length := by rw [h4.1]; exact (List.getElem?_eq_some_iff.1 hj).1
    exact (h4.2 j cs[j] u (by simp [hjl]) hj).one (List.all_eq_true.1 hone _ (List.getElem_mem hjl))
  obtain ⟨h5, h6⟩ := chunk_spec hxs h4 hvl hall
  refine newRow_full h h6 elem ?_
  have e1 : (Array.range (n * i.size)).map (fun x => z.cells[x % z.cells.size]!) = ((List.range (n * i.size)).map fun j => z.cells[j % i.size]!).toArray := by
    apply Array.ext'; simp [hzs]
  have hbig : ¬ (n * i.size > 2 ^ 24) := by
    have h24 : (2 : Nat) ^ 24 = 16777216 := by decide
    omega
  subst h5
  by_cases h0 : xs.length * i.size = 0
  · rw [h0] at h3
    have h3' : Instr.fill (fun k => some (k * i.size, i.size)) #[] pv.toList = some vs' := by simpa using h3
    simp [Instr.buildSlice, run_underlying hu, sizeOf, typeInfo, hi, h0, h3', newRow, Array.range_zero']
  · simp only [Instr.buildSlice, Sem.run_bind, run_underlying hu, sizeOf, typeInfo, run_program, hi, Result.andThen_ok, Sem.run_pure, hbig, if_false, h0, zeroValue, h1, e1, h3]
    simp [newRow]

end
end Go.Proofs.Ytgdeoaiakdkhcaa.Am
