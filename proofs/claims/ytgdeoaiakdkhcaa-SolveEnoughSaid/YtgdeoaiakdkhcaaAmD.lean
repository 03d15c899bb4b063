/- Slices of data, read flat; pure operations; loads. -/
import Derived.Test.YtgdeoaiakdkhcaaAmC
namespace Go.Proofs.Ytgdeoaiakdkhcaa.Am
set_option linter.unusedVariables false
open Go Go.RowKit

/-- rows of data, read at a list of cells' values -/
structure Flat (S : Pr) (w : World) (k : Nat) (xs : List (List Dv)) (us : List Value) : Prop where
  len : us.length = xs.length * k
  row : ∀ (i : Nat) (r : List Dv), xs[i]? = some r → r.length = k
  rd : ∀ (i : Nat) (r : List Dv) (j : Nat) (c : Dv) (v : Value), xs[i]? = some r → r[j]? = some c → us[i * k + j]? = some v → DR S w c v
  one : ∀ v ∈ us, v.oneCell' = true

theorem idx_lt {i j n k : Nat} (hi : i < n) (hj : j < k) : i * k + j < n * k := by
  have : (i + 1) * k ≤ n * k := Nat.mul_le_mul_right k hi
  rw [Nat.add_mul] at this
  omega

theorem add_lit (b o n : Nat) : (⟨b, o, none⟩ : Addr).add n = ⟨b, o + n, none⟩ := by
  unfold Addr.add; split <;> simp_all

theorem Flat.ext {S S' : Pr} {w w' : World} {k : Nat} {xs : List (List Dv)} {us : List Value} (h : Flat S w k xs us) (hS : ∀ b i, S b i → S' b i)
    (hc : ∀ b i v, S b i → w.cell? ⟨b, i, none⟩ = some v → w'.cell? ⟨b, i, none⟩ = some v) : Flat S' w' k xs us :=
  ⟨h.len, h.row, fun i r j c v h1 h2 h3 => (h.rd i r j c v h1 h2 h3).ext hS hc, h.one⟩

theorem Flat.append {S : Pr} {w : World} {k : Nat} {xs ys : List (List Dv)} {us vs : List Value} (h : Flat S w k xs us) (h' : Flat S w k ys vs) : Flat S w k (xs ++ ys) (us ++ vs) := by
  refine ⟨by simp [h.len, h'.len, Nat.add_mul], fun i r hr => ?_, fun i r j c v h1 h2 h3 => ?_, fun v hv => ?_⟩
  · by_cases hi : i < xs.length
    · rw [List.getElem?_append_left hi] at hr; exact h.row i r hr
    · rw [List.getElem?_append_right (by omega)] at hr; exact h'.row _ r hr
  · by_cases hi : i < xs.length
    · rw [List.getElem?_append_left hi] at h1
      have hj := h.row i r h1 ▸ (List.getElem?_eq_some_iff.1 h2).1
      rw [List.getElem?_append_left (by rw [h.len]; exact idx_lt hi hj)] at h3
      exact h.rd i r j c v h1 h2 h3
    · rw [List.getElem?_append_right (by omega)] at h1
      have e : i * k + j - xs.length * k = (i - xs.length) * k + j := by
        rw [Nat.mul_sub_right_distrib]
        have : xs.length * k ≤ i * k := Nat.mul_le_mul_right k (by omega)
        omega
      rw [List.getElem?_append_right (by rw [h.len]; have : xs.length * k ≤ i * k := Nat.mul_le_mul_right k (by omega); omega), h.len, e] at h3
      exact h'.rd _ r j c v h1 h2 h3
  · rcases List.mem_append.1 hv with hv | hv
    · exact h.one v hv
    · exact h'.one v hv

/-- a slice of data, as flat cells from an address on -/
theorem DR.flat {S : Pr} {w : World} {k : Nat} {xs : List (List Dv)} {v : Value} (h : DR S w (.sl k xs) v) :
    ∃ (base : Option Addr) (cap : Nat) (us : List Value), v = .slice base xs.length cap ∧ xs.length ≤ cap ∧ Flat S w k xs us ∧
      (∀ a, base = some a → (∀ (j : Nat) (u : Value), us[j]? = some u → w.cell? (a.add j) = some u ∧ S a.block (a.off + j)) ∧ (a.spot = none ∨ us = [])) ∧ (base = none → xs = [] ∧ cap = 0) := by
  cases h with
  | nil k => exact ⟨none, 0, [], rfl, Nat.le_refl _, ⟨by simp, by simp, by simp, by simp⟩, (fun a h => by cases h), fun _ => ⟨rfl, rfl⟩⟩
  | sl k xs a cap vals hk hs hc hr h1 hcap hsp =>
    refine ⟨some a, cap, (List.range (xs.length * k)).map fun n => vals (n / k) (n % k), rfl, hcap, ⟨by simp, hk, ?_, ?_⟩, fun a' ha' => (Option.some.inj ha') ▸ ⟨?_, ?_⟩, (fun h => by cases h)⟩
    · intro i r j c v h1 h2 h3
      have hj := hk i r h1 ▸ (List.getElem?_eq_some_iff.1 h2).1
      have hk0 : 0 < k := by omega
      obtain ⟨h4, h5⟩ := List.getElem?_eq_some_iff.1 h3
      simp only [List.getElem_map, List.getElem_range] at h5
      rw [Nat.mul_comm i k, Nat.mul_add_div hk0, Nat.div_eq_of_lt hj, Nat.mul_add_mod, Nat.mod_eq_of_lt hj, Nat.add_zero] at h5
      rw [← h5]
      exact hr i r j c h1 h2
    · intro v hv
      obtain ⟨n, hn, rfl⟩ := List.mem_map.1 hv
      rw [List.mem_range] at hn
      have hk0 : 0 < k := by
        rcases Nat.eq_zero_or_pos k with h | h
        · subst h; simp at hn
        · exact h
      have hi : n / k < xs.length := by rw [Nat.div_lt_iff_lt_mul hk0]; exact hn
      have hj : n % k < k := Nat.mod_lt _ hk0
      have hrow := hk (n / k) xs[n / k] (by simp [hi])
      exact h1 (n / k) xs[n / k] (n % k) (xs[n / k])[n % k] (by simp [hi]) (by simp [hrow, hj])
    · intro n u hu
      obtain ⟨hn, h5⟩ := List.getElem?_eq_some_iff.1 hu
      simp only [List.getElem_map, List.getElem_range] at h5
      simp only [List.length_map, List.length_range] at hn
      have hk0 : 0 < k := by
        rcases Nat.eq_zero_or_pos k with h | h
        · subst h; simp at hn
        · exact h
      have hi : n / k < xs.length := by rw [Nat.div_lt_iff_lt_mul hk0]; exact hn
      have hj : n % k < k := Nat.mod_lt _ hk0
      have hrow := hk (n / k) xs[n / k] (by simp [hi])
      have e : n / k * k + n % k = n := by rw [Nat.mul_comm]; exact Nat.div_add_mod n k
      have hcc := hc (n / k) xs[n / k] (n % k) (xs[n / k])[n % k] (by simp [hi]) (by simp [hrow, hj])
      have hss := hs (n / k) xs[n / k] (n % k) (xs[n / k])[n % k] (by simp [hi]) (by simp [hrow, hj])
      rw [e] at hcc hss
      have hsp' : a.spot = none := by
        rcases hsp with h | h | h
        · exact h
        · omega
        · subst h; simp at hi
      obtain ⟨b, o, sp⟩ := a
      simp only at hsp'
      subst hsp'
      rw [add_lit, ← h5]
      exact ⟨hcc, hss⟩
    · rcases hsp with h | h | h
      · exact .inl h
      · subst h; exact .inr (by simp)
      · subst h; exact .inr (by simp)

/-- and back -/
theorem DR.ofFlat {S : Pr} {w : World} {k : Nat} {xs : List (List Dv)} {us : List Value} {a : Addr} {cap : Nat} (h : Flat S w k xs us)
    (hc : ∀ (j : Nat) (u : Value), us[j]? = some u → w.cell? ⟨a.block, a.off + j, none⟩ = some u ∧ S a.block (a.off + j)) (hcap : xs.length ≤ cap) (hsp : a.spot = none ∨ k = 0 ∨ xs = []) :
    DR S w (.sl k xs) (.slice (some a) xs.length cap) := by
  have key : ∀ (i : Nat) (row : List Dv) (j : Nat) (c : Dv), xs[i]? = some row → row[j]? = some c → us[i * k + j]? = some (us.getD (i * k + j) default) := by
    intro i row j c h1 h2
    have hi := (List.getElem?_eq_some_iff.1 h1).1
    have hj := h.row i row h1 ▸ (List.getElem?_eq_some_iff.1 h2).1
    have : i * k + j < us.length := by rw [h.len]; exact idx_lt hi hj
    simp [List.getD, this]
  refine .sl k xs a cap (fun i j => us.getD (i * k + j) default) h.row (fun i row j c h1 h2 => (hc _ _ (key i row j c h1 h2)).2) (fun i row j c h1 h2 => (hc _ _ (key i row j c h1 h2)).1)
    (fun i row j c h1 h2 => h.rd i row j c _ h1 h2 (key i row j c h1 h2)) (fun i row j c h1 h2 => h.one _ (List.mem_of_getElem? (key i row j c h1 h2))) hcap hsp

/-! ### operations that look at no memory -/

/-- a value that means the same in every world -/
def toVals : List AV → Option (List Value)
  | [] => some []
  | .d (.s v) :: r => (toVals r).map (v :: ·)
  | _ :: _ => none

def AV.toVal? : AV → Option Value
  | .d (.s v) => some v
  | .agg cs => (toVals cs).map fun vs => .agg vs.toArray
  | .fn f [] [] => some (.func f #[] #[])
  | _ => none

def ofVal : Value → AV
  | .agg cs => .agg (cs.toList.map fun v => .d (.s v))
  | .tuple vs => .tup (vs.toList.map fun v => .d (.s v))
  | v => .d (.s v)

section
variable {S : Pr} {w : World} {m : List MB} {yv : Option Nat}

theorem toVals_spec : ∀ {cs : List AV} {us : List Value}, toVals cs = some us → us.length = cs.length ∧ ∀ (i : Nat) (c : AV) (v : Value), cs[i]? = some c → RV S w m yv c v → us[i]? = some v
  | [], us, h => by simp [toVals] at h; subst h; simp
  | c :: cs, us, h => by
    cases c with
    | d x => cases x with
      | s v =>
        simp only [toVals, Option.map_eq_some_iff] at h
        obtain ⟨us', h1, rfl⟩ := h
        obtain ⟨h2, h3⟩ := toVals_spec h1
        refine ⟨by simp [h2], fun i c u hc hr => ?_⟩
        cases i with
        | zero =>
          simp at hc; subst hc
          cases hr with | d hr => cases hr; simp
        | succ i => simp at hc ⊢; exact h3 i c u hc hr
      | sl => simp [toVals] at h
    | _ => simp [toVals] at h

theorem toVal?_spec {x : AV} {u v : Value} (h : x.toVal? = some u) (hr : RV S w m yv x v) : v = u := by
  cases hr with
  | d hr => cases hr with
    | s => simpa [AV.toVal?] using h
    | sl => simp [AV.toVal?] at h
    | nil => simp [AV.toVal?] at h
  | agg hl hc =>
    rename_i cs vs
    simp only [AV.toVal?, Option.map_eq_some_iff] at h
    obtain ⟨us, h1, rfl⟩ := h
    obtain ⟨h2, h3⟩ := toVals_spec (S := S) (w := w) (m := m) (yv := yv) h1
    congr 1
    apply Array.ext'
    simp only
    apply List.ext_getElem? 
    intro i
    by_cases hi : i < vs.size
    · have := h3 i cs[i] vs[i] (by simp [hl, hi]) (hc i _ _ (by simp [hl, hi]) (by simp [hi]))
      rw [this]; simp [hi]
    · rw [List.getElem?_eq_none (by simpa using hi), List.getElem?_eq_none (by omega)]
  | fn hf hl hl' h1 h2 =>
    rename_i f first caps fs cs
    cases first <;> cases caps <;> simp [AV.toVal?] at h
    simp at hl hl'
    rw [← h, Array.eq_empty_of_size_eq_zero hl.symm, Array.eq_empty_of_size_eq_zero hl'.symm]
  | _ => simp [AV.toVal?] at h

theorem RV.ofVal (v : Value) : RV S w m yv (ofVal v) v := by
  cases v with
  | agg cs => exact .agg (by simp) (fun i c v h1 h2 => by
      simp at h1; obtain ⟨u, h1, rfl⟩ := h1
      rw [h1] at h2; cases h2; exact .d (.s _))
  | tuple cs => exact .tup (by simp) (fun i c v h1 h2 => by
      simp at h1; obtain ⟨u, h1, rfl⟩ := h1
      rw [h1] at h2; cases h2; exact .d (.s _))
  | _ => exact .d (.s _)

theorem ownB_ofVal (v : Value) : ownB (ofVal v, v) = none := by cases v <;> rfl

end

/-- the run of a computation that looks at the program alone -/
def runPure {α : Type} (P : Program) : Sem α → Option α
  | .pure a => some a
  | .program k => runPure P (k P)
  | .mark _ k => runPure P k
  | _ => none

theorem runPure_run {α : Type} (P : Program) : ∀ (s : Sem α) (a : α), runPure P s = some a → ∀ w, s.run P w = .ok a w
  | .pure a, b, h, w => by simp [runPure] at h; subst h; rfl
  | .program k, b, h, w => runPure_run P (k P) b h w
  | .mark _ k, b, h, w => runPure_run P k b h w
  | .load .., _, h, _ => by simp [runPure] at h
  | .store .., _, h, _ => by simp [runPure] at h
  | .new .., _, h, _ => by simp [runPure] at h
  | .shape .., _, h, _ => by simp [runPure] at h
  | .freeze .., _, h, _ => by simp [runPure] at h
  | .frozen .., _, h, _ => by simp [runPure] at h
  | .getObj .., _, h, _ => by simp [runPure] at h
  | .setObj .., _, h, _ => by simp [runPure] at h
  | .choose .., _, h, _ => by simp [runPure] at h
  | .sys .., _, h, _ => by simp [runPure] at h
  | .halt .., _, h, _ => by simp [runPure] at h

/-- an operation whose operands mean the same in every world, by the model's own text -/
def xVal (P : Program) (ρ : Operand → AV) (o : Oper) : Option AV :=
  if o.op.operands.all (fun x => (ρ x).toVal?.isSome) then
    match runPure P (execOp (fun x => ((ρ x).toVal?).getD undef) o) with
    | some (.value v) => some (ofVal v)
    | _ => none
  else none

end Go.Proofs.Ytgdeoaiakdkhcaa.Am
