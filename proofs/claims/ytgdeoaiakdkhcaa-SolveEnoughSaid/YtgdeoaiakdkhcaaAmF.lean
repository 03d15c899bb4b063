/- Quiet operations, one by one. -/
import Derived.Test.YtgdeoaiakdkhcaaAmE
namespace Go.Proofs.Ytgdeoaiakdkhcaa.Am
set_option linter.unusedVariables false
open Go Go.RowKit

/-- what a quiet operation comes to -/
def QOk (P : Program) (S X : Pr) (yv : Option Nat) (w : World) (m : List MB) (A : List (AV × Value)) (hp : List Blk) (hv : List (List Value)) (s : Sem Next) (x : AV) : Prop :=
  ∃ v w' S', s.run P w = .ok (.value v) w' ∧ Below w.heap.size w w' ∧ SStep S X S' w w' ∧ Rel S' X yv w' m ((x, v) :: A) hp hv

section
variable {P : Program} {S S' X : Pr} {yv : Option Nat} {w w' : World} {m : List MB} {A B : List (AV × Value)} {hp : List Blk} {hv : List (List Value)}

theorem SStep.refl (S X : Pr) (w w' : World) : SStep S X S w w' := ⟨fun _ _ h => h, fun _ _ h => .inl h⟩

theorem QOk.same {s : Sem Next} {x : AV} {v : Value} (h : Rel S X yv w m A hp hv) (hs : s.run P w = .ok (.value v) w) (hr : RV S w m yv x v) (ho : ownB (x, v) = none) :
    QOk P S X yv w m A hp hv s x :=
  ⟨v, w, S, hs, Below.refl _ _, SStep.refl _ _ _ _, h.cons hr ho⟩

/-! ### by the model's own text -/
theorem xVal_sound {ρA : Operand → AV} {ρ : Operand → Value} {o : Oper} {x : AV} (h : Rel S X yv w m A hp hv) (hs : ∀ cs b, o.op ≠ .select cs b)
    (hρ : ∀ y ∈ o.op.operands, RV S w m yv (ρA y) (ρ y)) (hx : xVal P ρA o = some x) : QOk P S X yv w m A hp hv (execOp ρ o) x := by
  unfold xVal at hx
  split at hx
  · rename_i hall
    split at hx
    · rename_i v hrun
      cases hx
      have hcongr : execOp ρ o = execOp (fun x => ((ρA x).toVal?).getD undef) o := execOp_congr o hs (fun y hy => by
        have h1 := hρ y hy
        have h2 := Array.all_eq_true_iff_forall_mem.1 hall y hy
        obtain ⟨u, hu⟩ := Option.isSome_iff_exists.1 h2
        rw [hu, Option.getD_some]
        exact toVal?_spec hu h1)
      rw [hcongr]
      exact QOk.same h (runPure_run P _ _ hrun w) (RV.ofVal v) (ownB_ofVal v)
    · cases hx
  · cases hx

/-! ### loads, addresses -/
def xLoad (P : Program) (hp : List Blk) (t : TypeId) (a : AV) : Option AV :=
  match cellsAt hp a with
  | some cs => takeCs P t cs
  | none => none

theorem xLoad_sound {t : TypeId} {a x : AV} {va : Value} (h : Rel S X yv w m (B ++ cellPairs hp hv) hp hv) (ha : RV S w m yv a va) (hx : xLoad P hp t a = some x) :
    QOk P S X yv w m (B ++ cellPairs hp hv) hp hv (do pure (.value (← Instr.loadAt t va))) x := by
  unfold xLoad at hx
  split at hx
  · rename_i cs hcs
    obtain ⟨b, o, us, rfl, h1, h2, h3, h4⟩ := cellsAt_sound h ha hcs
    obtain ⟨v, h5, h6, h7⟩ := load_sound (P := P) h1 h2 h4 hx
    exact QOk.same h (by simp [Instr.loadAt, Instr.sureAddr, h5]) h6 h7
  · cases hx

def xFieldAddr (P : Program) (hp : List Blk) (s : TypeId) (a : AV) (f : Nat) : Option AV :=
  match P.underlying s with
  | some (.struct fields) => match fields[f]? with
    | some fd => match P.info? fd.type with
      | some i => if i.size = 0 then none else shiftPtr hp a fd.offset
      | none => none
    | none => none
  | _ => none

theorem xFieldAddr_sound {s : TypeId} {f : Nat} {a x : AV} {va : Value} (h : Rel S X yv w m (B ++ cellPairs hp hv) hp hv) (ha : RV S w m yv a va) (hx : xFieldAddr P hp s a f = some x) :
    QOk P S X yv w m (B ++ cellPairs hp hv) hp hv (do pure (.value (← Instr.fieldAt s va f))) x := by
  unfold xFieldAddr at hx
  split at hx <;> try (cases hx; done)
  rename_i fields hu
  split at hx <;> try (cases hx; done)
  rename_i fd hf
  split at hx <;> try (cases hx; done)
  rename_i i hi
  split at hx
  · cases hx
  · rename_i hsz
    obtain ⟨b, o, rfl, h1, h2⟩ := shiftPtr_sound h ha hx
    refine QOk.same h (v := .pointer (some ⟨b, o + fd.offset, none⟩)) ?_ h1 h2
    simp [Instr.fieldAt, run_underlying hu, hf, Instr.sureAddr, fieldPlace, sizeOf, typeInfo, hi, hsz, add_lit]

/-- the number in an integer -/
def AV.int? : AV → Option (IntKind × Int)
  | .d (.s (.int k n)) => some (k, n)
  | _ => none

theorem int?_spec {x : AV} {v : Value} {k : IntKind} {n : Int} (h : x.int? = some (k, n)) (hr : RV S w m yv x v) : v = .int k n := by
  cases hr with
  | d hr => cases hr with
    | s v => cases v <;> simp [AV.int?] at h; rw [h.1, h.2]
    | sl => simp [AV.int?] at h
    | nil => simp [AV.int?] at h
  | _ => simp [AV.int?] at h

/-- the rows of a slice of data -/
def AV.rows? : AV → Option (Nat × List (List Dv))
  | .d (.sl k xs) => some (k, xs)
  | .own _ k xs => some (k, xs)
  | .full k xs => some (k, xs)
  | _ => none

theorem rows?_spec {x : AV} {v : Value} {k : Nat} {xs : List (List Dv)} (h : x.rows? = some (k, xs)) (hr : RV S w m yv x v) : DR S w (.sl k xs) v := by
  cases hr with
  | d hr => cases hr with
    | s v => simp [AV.rows?] at h
    | sl k' xs' a cap vals hk hs hc hr h1 hcap hsp =>
      simp [AV.rows?] at h
      obtain ⟨rfl, rfl⟩ := h
      exact .sl _ _ a cap vals hk hs hc hr h1 hcap hsp
    | nil k' => simp [AV.rows?] at h; obtain ⟨rfl, rfl⟩ := h; exact .nil _
  | ownNil => simp [AV.rows?] at h; obtain ⟨rfl, rfl⟩ := h; exact .nil _
  | own h' _ => simp [AV.rows?] at h; obtain ⟨rfl, rfl⟩ := h; exact h'
  | full h' => simp [AV.rows?] at h; obtain ⟨rfl, rfl⟩ := h; exact h'
  | _ => simp [AV.rows?] at h

def xIndexAddr (P : Program) (hp : List Blk) (t : TypeId) (a ix : AV) : Option AV :=
  match ix.int?, P.underlying t with
  | some (_, n), some (.array len elem) => match P.info? elem with
    | some i => if 0 ≤ n ∧ n < len then shiftPtr hp a (n.toNat * i.size) else none
    | none => none
  | some (_, n), some (.slice elem) => match P.info? elem with
    | some i => (match a with
      | .ref g off len cap k => if 0 ≤ n ∧ n < len ∧ k = i.size then some (.ptr g (off + n.toNat * i.size)) else none
      | .gref g ver len k => (match hp[g]? with
        | some blk => if blk.grow && blk.ver == ver then (if 0 ≤ n ∧ n < len ∧ k = i.size then some (.gptr g ver (n.toNat * i.size)) else none) else none
        | none => none)
      | _ => match a.rows? with
        | some (k, xs) => if 0 ≤ n ∧ n < xs.length ∧ k = i.size ∧ 0 < k then (xs[n.toNat]?).map .rptr else none
        | none => none)
    | none => none
  | _, _ => none

theorem rptr_of_row {k : Nat} {xs : List (List Dv)} {v : Value} {j : Nat} {row : List Dv} (h : DR S w (.sl k xs) v) (hrow : xs[j]? = some row) (hk : 0 < k) :
    ∃ a cap, v = .slice (some a) xs.length cap ∧ a.spot = none ∧ RV S w m yv (.rptr row) (.pointer (some ⟨a.block, a.off + j * k, none⟩)) := by
  cases h with
  | nil k => simp at hrow
  | sl k xs a cap vals hkk hs hc hr h1 hcap hsp =>
    have hl := hkk j row hrow
    have hsp' : a.spot = none := by
      rcases hsp with h | h | h
      · exact h
      · omega
      · subst h; simp at hrow
    refine ⟨a, cap, rfl, hsp', .rptr (vals j) (by intro h0; subst h0; simp at hl; omega) rfl (fun i c hi => ?_) (fun i c hi => ?_) (fun i c hi => hr j row i c hrow hi) (fun i c hi => h1 j row i c hrow hi)⟩
    · have := hs j row i c hrow hi; simpa [Nat.add_assoc] using this
    · have := hc j row i c hrow hi; simpa [Nat.add_assoc] using this

theorem xIndexAddr_sound {t : TypeId} {a ix x : AV} {va vi : Value} (h : Rel S X yv w m (B ++ cellPairs hp hv) hp hv) (ha : RV S w m yv a va) (hix : RV S w m yv ix vi)
    (hx : xIndexAddr P hp t a ix = some x) : QOk P S X yv w m (B ++ cellPairs hp hv) hp hv (do pure (.value (← Instr.indexAt t va vi))) x := by
  unfold xIndexAddr at hx
  split at hx <;> try (cases hx; done)
  · rename_i kk n len elem hn hu
    split at hx <;> try (cases hx; done)
    rename_i i hi
    split at hx <;> try (cases hx; done)
    rename_i hb
    obtain ⟨b, o, rfl, h1, h2⟩ := shiftPtr_sound h ha hx
    have hvi := int?_spec hn hix
    subst hvi
    refine QOk.same h (v := .pointer (some ⟨b, o + n.toNat * i.size, none⟩)) ?_ h1 h2
    simp [Instr.indexAt, asIntOf, run_underlying hu, Instr.sureAddr, hb.1, hb.2, sizeOf, typeInfo, hi, add_lit]
  · rename_i kk n elem hn hu
    have hvi := int?_spec hn hix
    subst hvi
    split at hx <;> try (cases hx; done)
    rename_i i hi
    split at hx
    · split at hx <;> try (cases hx; done)
      rename_i hb
      obtain ⟨hb1, hb2, hb3⟩ := hb
      subst hb3
      cases ha with
      | ref hm hfit hnn =>
        cases hx
        refine QOk.same h (v := .pointer (some ⟨_, _ + n.toNat * i.size, none⟩)) ?_ (.ptr hm) rfl
        simp [Instr.indexAt, asIntOf, run_underlying hu, hb1, hb2, sizeOf, typeInfo, hi, add_lit]
    · split at hx <;> try (cases hx; done)
      rename_i blk hblk
      split at hx <;> try (cases hx; done)
      rename_i hcond
      split at hx <;> try (cases hx; done)
      rename_i hb
      obtain ⟨hb1, hb2, hb3⟩ := hb
      subst hb3
      simp only [Bool.and_eq_true, beq_iff_eq] at hcond
      cases ha with
      | gref hm hv h1 hcur =>
        cases hx
        obtain ⟨blk', vs, cur, e, g1, g2, g3, g4, g5, _⟩ := h.block hm
        rw [hblk] at g1; cases g1
        simp only at g5
        obtain ⟨_, cap, rfl, _⟩ := hcur (by rw [g5, hcond.2])
        refine QOk.same h (v := .pointer (some ⟨_, n.toNat * i.size, none⟩)) ?_ (.gptr hm hv rfl (fun _ => rfl)) rfl
        simp [Instr.indexAt, asIntOf, run_underlying hu, hb1, hb2, sizeOf, typeInfo, hi, add_lit]
    · split at hx <;> try (cases hx; done)
      rename_i k xs hrows
      split at hx <;> try (cases hx; done)
      rename_i hb
      obtain ⟨hb1, hb2, hb3, hb4⟩ := hb
      simp only [Option.map_eq_some_iff] at hx
      obtain ⟨row, hrow, rfl⟩ := hx
      obtain ⟨a, cap, rfl, hsp, hr⟩ := rptr_of_row (m := m) (yv := yv) (rows?_spec hrows ha) hrow hb4
      obtain ⟨b, o, sp⟩ := a
      simp only at hsp; subst hsp
      refine QOk.same h (v := .pointer (some ⟨b, o + n.toNat * k, none⟩)) ?_ hr rfl
      simp [Instr.indexAt, asIntOf, run_underlying hu, hb1, hb2, sizeOf, typeInfo, hi, add_lit, hb3]

/-! ### parts of aggregates -/
theorem part_sound {t : TypeId} {cs : List AV} {vs : Array Value} {off : Nat} {x : AV} (hl : cs.length = vs.size) (hr : ∀ (i : Nat) (c : AV) (v : Value), cs[i]? = some c → vs[i]? = some v → RV S w m yv c v)
    (hx : takeCs P t (cs.drop off) = some x) : ∃ v, (part t vs off).run P w = .ok v w ∧ RV S w m yv x v ∧ ownB (x, v) = none := by
  unfold takeCs at hx
  cases hi : P.info? t with
  | none => simp [hi] at hx
  | some i =>
    simp only [hi] at hx
    by_cases ha : isAggT P t = true
    · simp only [ha, if_true] at hx
      split at hx
      · rename_i hlen
        cases hx
        obtain ⟨d, hd⟩ : ∃ d, P.underlying t = some d := by
          unfold isAggT at ha
          cases hd : P.underlying t with
          | none => simp [hd] at ha
          | some d => exact ⟨d, rfl⟩
        simp only [List.length_drop] at hlen
        refine ⟨.agg (vs.extract off (off + i.size)), by simp [part, isAggT_run hd, ha, sizeOf, typeInfo, hi], .agg (by simp; omega) ?_, rfl⟩
        intro j c u h1 h2
        simp only [List.getElem?_map, Option.map_eq_some_iff] at h1
        obtain ⟨c0, h1, rfl⟩ := h1
        rw [List.getElem?_take] at h1
        split at h1
        · rename_i hj
          rw [List.getElem?_drop] at h1
          rw [Array.getElem?_extract] at h2
          split at h2
          · exact (hr _ c0 u h1 h2).view
          · cases h2
        · cases h1
      · cases hx
    · simp only [ha, Bool.false_eq_true, if_false] at hx
      cases hd : P.underlying t with
      | none => simp [hd] at hx
      | some d =>
        simp only [hd, Option.map_eq_some_iff] at hx
        obtain ⟨c, h1, rfl⟩ := hx
        rw [List.getElem?_drop, Nat.add_zero] at h1
        have h0 : off < vs.size := by rw [← hl]; exact (List.getElem?_eq_some_iff.1 h1).1
        refine ⟨vs[off], by simp [part, isAggT_run hd, ha, h0], (hr off c vs[off] h1 (by simp [h0])).view, ownB_view _ _⟩

def xField (P : Program) (t : TypeId) (cs : List AV) (f : Nat) : Option AV :=
  match P.underlying t with
  | some (.struct fields) => match fields[f]? with
    | some fd => takeCs P fd.type (cs.drop fd.offset)
    | none => none
  | _ => none

theorem xField_sound {t : TypeId} {f : Nat} {cs : List AV} {x : AV} {va : Value} (h : Rel S X yv w m A hp hv) (ha : RV S w m yv (.agg cs) va) (hx : xField P t cs f = some x) :
    QOk P S X yv w m A hp hv (do pure (.value (← Instr.field t va f))) x := by
  unfold xField at hx
  split at hx <;> try (cases hx; done)
  rename_i fields hu
  split at hx <;> try (cases hx; done)
  rename_i fd hf
  cases ha with
  | agg hl hr =>
    obtain ⟨v, h1, h2, h3⟩ := part_sound hl hr hx
    exact QOk.same h (by simp [Instr.field, run_underlying hu, hf, asAgg, h1]) h2 h3

def xIndex (P : Program) (t : TypeId) (cs : List AV) (ix : AV) : Option AV :=
  match ix.int?, P.underlying t with
  | some (_, n), some (.array len elem) => match P.info? elem with
    | some i => if 0 ≤ n ∧ n < len then takeCs P elem (cs.drop (n.toNat * i.size)) else none
    | none => none
  | _, _ => none

theorem xIndex_sound {t : TypeId} {ix : AV} {cs : List AV} {x : AV} {va vi : Value} (h : Rel S X yv w m A hp hv) (ha : RV S w m yv (.agg cs) va) (hi : RV S w m yv ix vi) (hx : xIndex P t cs ix = some x) :
    QOk P S X yv w m A hp hv (do pure (.value (← Instr.index t va vi))) x := by
  unfold xIndex at hx
  split at hx <;> try (cases hx; done)
  rename_i kk n len elem hn hu
  split at hx <;> try (cases hx; done)
  rename_i i hinf
  split at hx <;> try (cases hx; done)
  rename_i hb
  have hvi := int?_spec hn hi
  subst hvi
  cases ha with
  | agg hl hr =>
    obtain ⟨v, h1, h2, h3⟩ := part_sound hl hr hx
    exact QOk.same h (by simp [Instr.index, asIntOf, run_underlying hu, hb.1, hb.2, sizeOf, typeInfo, hinf, h1]) h2 h3

end
end Go.Proofs.Ytgdeoaiakdkhcaa.Am
