/- Quiet operations: they turn nothing that was there. -/
import Derived.Test.YtgdeoaiakdkhcaaAmD
namespace Go.Proofs.Ytgdeoaiakdkhcaa.Am
set_option linter.unusedVariables false
open Go Go.RowKit

def isAggT (P : Program) (t : TypeId) : Bool :=
  match P.underlying t with
  | some (.struct _) | some (.array _ _) => true
  | _ => false

/-- the cells from a pointer on -/
def cellsAt (hp : List Blk) : AV → Option (List AV)
  | .rptr cs => some (cs.map .d)
  | .ptr g off => match hp[g]? with
    | some blk => if blk.grow then none else some (blk.cells.drop off)
    | none => none
  | .gptr g ver off => match hp[g]? with
    | some blk => if blk.grow && blk.ver == ver then some (blk.cells.drop off) else none
    | none => none
  | _ => none

/-- a value of a type out of cells -/
def takeCs (P : Program) (t : TypeId) (cs : List AV) : Option AV :=
  match P.info? t with
  | none => none
  | some i => if isAggT P t then (if i.size ≤ cs.length then some (.agg ((cs.take i.size).map AV.view)) else none)
    else match P.underlying t with
      | none => none
      | some _ => (cs[0]?).map AV.view

def shiftPtr (hp : List Blk) : AV → Nat → Option AV
  | .rptr cs, n => if n < cs.length then some (.rptr (cs.drop n)) else none
  | .ptr g off, n => match hp[g]? with
    | some blk => if blk.grow then none else some (.ptr g (off + n))
    | none => none
  | .gptr g ver off, n => match hp[g]? with
    | some blk => if blk.grow && blk.ver == ver then some (.gptr g ver (off + n)) else none
    | none => none
  | _, _ => none

section
variable {P : Program} {S S' X : Pr} {yv : Option Nat} {w w' : World} {m : List MB} {A B : List (AV × Value)} {hp : List Blk} {hv : List (List Value)}

/-- the pairs of a block are among all pairs -/
theorem mem_cellPairs {g j : Nat} {blk : Blk} {vs : List Value} {c : AV} {u : Value} (h1 : hp[g]? = some blk) (h2 : hv[g]? = some vs) (h3 : blk.cells[j]? = some c) (h4 : vs[j]? = some u) :
    (c, u) ∈ cellPairs hp hv := by
  obtain ⟨pre, post, h5, _⟩ := cellPairs_split h1 h2
  rw [h5]
  refine List.mem_append_left _ (List.mem_append_right _ (List.mem_iff_getElem?.2 ⟨j, ?_⟩))
  simp [List.getElem?_zip_eq_some, h3, h4]

/-- what a block's table says of it -/
theorem Rel.block (h : Rel S X yv w m A hp hv) {g : Nat} {p : MB} (hm : m[g]? = some p) : ∃ blk vs cur e, hp[g]? = some blk ∧ hv[g]? = some vs ∧
    p.len = blk.cells.length ∧ p.grow = blk.grow ∧ p.ver = blk.ver ∧ vs.length = p.len ∧ (∀ v ∈ vs, v.oneCell' = true) ∧
    w.heap[p.b]? = some (.cells cur e (0, 0)) ∧ cur.toList.take p.len = vs ∧ p.len ≤ cur.size ∧
    (blk.fro = false → ∀ i, ¬ S p.b i ∧ ¬ X p.b i) ∧ (blk.fro = true → ∀ i, i < p.len → S p.b i) := by
  have e0 := (List.getElem?_eq_some_iff.1 hm).1
  have e1 : g < hp.length := by rw [← h.ml]; exact e0
  have e2 : g < hv.length := by rw [h.hl]; exact e1
  obtain ⟨a1, a2, a3, a4, a5, ⟨cur, e, a6, a7, a8⟩, a9, a10⟩ := h.bl g hp[g] p hv[g] (by simp [e1]) hm (by simp [e2])
  exact ⟨hp[g], hv[g], cur, e, by simp [e1], by simp [e2], a1, a2, a3, a4, a5, a6, a7, a8, a9, a10⟩

theorem cells_of_take {cur : Array Value} {e : TypeId} {b n : Nat} {vs : List Value} (h : w.heap[b]? = some (.cells cur e (0, 0))) (ht : cur.toList.take n = vs) :
    ∀ (j : Nat) (u : Value), vs[j]? = some u → w.cell? ⟨b, j, none⟩ = some u := by
  intro j u hu
  rw [← ht, List.getElem?_take] at hu
  split at hu
  · simp [World.cell?, h]; simpa using hu
  · cases hu

theorem cellsAt_sound {x : AV} {v : Value} {cs : List AV} (h : Rel S X yv w m (B ++ cellPairs hp hv) hp hv) (hr : RV S w m yv x v) (hc : cellsAt hp x = some cs) :
    ∃ (b o : Nat) (us : List Value), v = .pointer (some ⟨b, o, none⟩) ∧ us.length = cs.length ∧ (∀ (j : Nat) (u : Value), us[j]? = some u → w.cell? ⟨b, o + j, none⟩ = some u) ∧ (∀ u ∈ us, u.oneCell' = true) ∧
      ∀ (j : Nat) (c : AV) (u : Value), cs[j]? = some c → us[j]? = some u → RV S w m yv c u := by
  have blkcase : ∀ {g off b len ver : Nat} {gr : Bool} {blk : Blk}, m[g]? = some ⟨b, len, gr, ver⟩ → hp[g]? = some blk → cs = blk.cells.drop off →
      ∃ us : List Value, us.length = cs.length ∧ (∀ (j : Nat) (u : Value), us[j]? = some u → w.cell? ⟨b, off + j, none⟩ = some u) ∧ (∀ u ∈ us, u.oneCell' = true) ∧
      ∀ (j : Nat) (c : AV) (u : Value), cs[j]? = some c → us[j]? = some u → RV S w m yv c u := by
    intro g off b len ver gr blk hm hb hcs
    obtain ⟨blk', vs, cur, e, h1, h2, h3, _, _, h4, h5, h6, h7, h8, _⟩ := h.block hm
    rw [hb] at h1; cases h1
    refine ⟨vs.drop off, by simp only at h3 h4; simp [hcs, h4, h3], fun j u hu => ?_, fun u hu => h5 u (List.mem_of_mem_drop hu), fun j c u hcj hu => ?_⟩
    · rw [List.getElem?_drop] at hu
      exact cells_of_take h6 h7 _ u hu
    · rw [hcs, List.getElem?_drop] at hcj
      rw [List.getElem?_drop] at hu
      exact h.rv _ (List.mem_append_right _ (mem_cellPairs hb h2 hcj hu))
  cases hr with
  | rptr vals hne hsp hs hcc hr h1 =>
    rename_i cs0 a
    simp only [cellsAt, Option.some.injEq] at hc
    obtain ⟨b, o, sp⟩ := a
    simp only at hsp; subst hsp
    refine ⟨b, o, (List.range cs0.length).map vals, rfl, by simp [← hc], fun j u hu => ?_, fun u hu => ?_, fun j c u hcj hu => ?_⟩
    · obtain ⟨h2, h3⟩ := List.getElem?_eq_some_iff.1 hu
      simp at h2 h3; subst h3
      exact hcc j cs0[j] (by simp [h2])
    · obtain ⟨j, hj, rfl⟩ := List.mem_map.1 hu
      rw [List.mem_range] at hj
      exact h1 j cs0[j] (by simp [hj])
    · obtain ⟨h2, h3⟩ := List.getElem?_eq_some_iff.1 hu
      simp at h2 h3; subst h3
      rw [← hc] at hcj
      simp [h2] at hcj
      subst hcj
      exact .d (hr j cs0[j] (by simp [h2]))
  | ptr hm =>
    simp only [cellsAt] at hc
    split at hc
    · rename_i blk hb
      split at hc
      · cases hc
      · simp only [Option.some.injEq] at hc
        obtain ⟨us, h1⟩ := blkcase hm hb hc.symm
        exact ⟨_, _, us, rfl, h1⟩
    · cases hc
  | gptr hm hv h1 hcur =>
    simp only [cellsAt] at hc
    split at hc
    · rename_i blk hb
      split at hc
      · rename_i hcond
        simp only [Bool.and_eq_true, beq_iff_eq] at hcond
        simp only [Option.some.injEq] at hc
        obtain ⟨blk', vs, cur, e, g1, g2, g3, g4, g5, _⟩ := h.block hm
        rw [hb] at g1; cases g1
        simp only at g5
        have hvv := hcur (by rw [g5, hcond.2])
        obtain ⟨us, h2⟩ := blkcase hm hb hc.symm
        exact ⟨_, _, us, hvv, h2⟩
      · cases hc
    · cases hc
  | _ => simp [cellsAt] at hc

theorem isAggT_run {t : TypeId} {d : TypeDesc} (h : P.underlying t = some d) (w : World) : (isAgg t).run P w = .ok (isAggT P t) w := by
  unfold isAgg isAggT
  cases d <;> simp [run_underlying h, h]

theorem underlying_of_info {t : TypeId} {d : TypeDesc} (h : P.underlying t = some d) : ∃ i, P.info? t = some i := by
  unfold Program.underlying at h
  cases hi : P.info? t with
  | none => simp [hi] at h
  | some i => exact ⟨i, rfl⟩

/-- a load of a whole variable -/
theorem load_sound {t : TypeId} {cs : List AV} {x : AV} {b o : Nat} {us : List Value} (hl : us.length = cs.length)
    (hc : ∀ (j : Nat) (u : Value), us[j]? = some u → w.cell? ⟨b, o + j, none⟩ = some u) (hr : ∀ (j : Nat) (c : AV) (u : Value), cs[j]? = some c → us[j]? = some u → RV S w m yv c u)
    (hx : takeCs P t cs = some x) : ∃ v, (loadVar t ⟨b, o, none⟩).run P w = .ok v w ∧ RV S w m yv x v ∧ ownB (x, v) = none := by
  unfold takeCs at hx
  cases hi : P.info? t with
  | none => simp [hi] at hx
  | some i =>
    simp only [hi] at hx
    by_cases ha : isAggT P t = true
    · simp only [ha, if_true] at hx
      split at hx
      · rename_i hlen
        cases hx
        obtain ⟨d, hd⟩ : ∃ d, P.underlying t = some d := by
          unfold isAggT at ha
          cases hd : P.underlying t with
          | none => simp [hd] at ha
          | some d => exact ⟨d, rfl⟩
        have hload := run_loadCells_list (P := P) w ⟨b, o, none⟩ (us.take i.size) (fun j u hu => by
          rw [add_lit]
          rw [List.getElem?_take] at hu
          split at hu
          · exact hc j u hu
          · cases hu)
        have hlen' : (us.take i.size).length = i.size := by simp; omega
        rw [hlen'] at hload
        refine ⟨.agg (us.take i.size).toArray, ?_, .agg (by simp; omega) ?_, rfl⟩
        · simp [loadVar, isAggT_run hd, ha, sizeOf, typeInfo, hi, hload]
        · intro j c u h1 h2
          simp only [List.getElem?_map, Option.map_eq_some_iff] at h1
          obtain ⟨c0, h1, rfl⟩ := h1
          simp only [List.getElem?_toArray] at h2
          rw [List.getElem?_take] at h1 h2
          split at h1
          · rename_i hj; simp only [hj, if_true] at h2
            exact (hr j c0 u h1 h2).view
          · cases h1
      · cases hx
    · simp only [ha, Bool.false_eq_true, if_false] at hx
      cases hd : P.underlying t with
      | none => simp [hd] at hx
      | some d =>
        simp only [hd, Option.map_eq_some_iff] at hx
        obtain ⟨c, h1, rfl⟩ := hx
        have h0 : 0 < us.length := by rw [hl]; exact (List.getElem?_eq_some_iff.1 h1).1
        have h2 : us[0]? = some us[0] := by simp [h0]
        refine ⟨us[0], ?_, (hr 0 c us[0] h1 h2).view, ownB_view _ _⟩
        have := hc 0 us[0] h2
        simp only [Nat.add_zero] at this
        simp [loadVar, isAggT_run hd, ha, run_load, this]

theorem shiftPtr_sound {x x' : AV} {v : Value} {n : Nat} (h : Rel S X yv w m (B ++ cellPairs hp hv) hp hv) (hr : RV S w m yv x v) (hc : shiftPtr hp x n = some x') :
    ∃ b o, v = .pointer (some ⟨b, o, none⟩) ∧ RV S w m yv x' (.pointer (some ⟨b, o + n, none⟩)) ∧ ownB (x', Value.pointer (some ⟨b, o + n, none⟩)) = none := by
  cases hr with
  | rptr vals hne hsp hs hcc hr h1 =>
    rename_i cs0 a
    simp only [shiftPtr] at hc
    split at hc
    · rename_i hn
      cases hc
      obtain ⟨b, o, sp⟩ := a
      simp only at hsp; subst hsp
      refine ⟨b, o, rfl, .rptr (fun j => vals (n + j)) (by simp; omega) rfl (fun j c hj => ?_) (fun j c hj => ?_) (fun j c hj => ?_) (fun j c hj => ?_), rfl⟩ <;> rw [List.getElem?_drop] at hj
      · have := hs _ c hj; simpa [Nat.add_assoc] using this
      · have := hcc _ c hj; simpa [Nat.add_assoc] using this
      · exact hr _ c hj
      · exact h1 _ c hj
    · cases hc
  | ptr hm =>
    simp only [shiftPtr] at hc
    split at hc
    · split at hc
      · cases hc
      · cases hc; exact ⟨_, _, rfl, .ptr hm, rfl⟩
    · cases hc
  | gptr hm hv h1 hcur =>
    simp only [shiftPtr] at hc
    split at hc
    · rename_i blk hb
      split at hc
      · rename_i hcond
        simp only [Bool.and_eq_true, beq_iff_eq] at hcond
        cases hc
        obtain ⟨blk', vs, cur, e, g1, g2, g3, g4, g5, _⟩ := h.block hm
        rw [hb] at g1; cases g1
        simp only at g5
        have hvv := hcur (by rw [g5, hcond.2])
        exact ⟨_, _, hvv, .gptr hm hv rfl (fun _ => rfl), rfl⟩
      · cases hc
    · cases hc
  | _ => simp [shiftPtr] at hc

end
end Go.Proofs.Ytgdeoaiakdkhcaa.Am
