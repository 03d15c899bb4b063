/- What a given argument reads as, told by abstract values. -/
import Derived.Test.YtgdeoaiakdkhcaaAmZf
import Derived.ChangeArms
import Derived.OpenShut
import Derived.ChangeShapes
import Derived.Carry
namespace Go.Proofs.Ytgdeoaiakdkhcaa.Am
set_option linter.unusedVariables false
open Go Go.RowKit

inductive Ty where
  | int (k : IntKind)
  | bool
  | str
  | sl (r : List Ty)

mutual
inductive HasTy : Ty → Dv → Prop
  | int (k : IntKind) (n : Int) (h : (Lit.int k n).wf = true) : HasTy (.int k) (.s (.int k n))
  | bool (b : Bool) : HasTy .bool (.s (.bool b))
  | str (s : ByteArray) (h : s.size ≤ maxLen) : HasTy .str (.s (.string s))
  | sl (r : List Ty) (xs : List (List Dv)) (hl : xs.length ≤ maxLen) (h : ∀ row, row ∈ xs → HasTys r row) : HasTy (.sl r) (.sl r.length xs)
inductive HasTys : List Ty → List Dv → Prop
  | nil : HasTys [] []
  | cons {t : Ty} {x : Dv} {ts : List Ty} {xs : List Dv} (h : HasTy t x) (hs : HasTys ts xs) : HasTys (t :: ts) (x :: xs)
end

def flatFs (P : Program) (g : TypeId → Option (List Ty)) : List Field → Nat → Option (List Ty)
  | [], _ => some []
  | f :: fs, off => if f.offset = off then match g f.type with
      | some r => if P.cellsOf f.type = r.length then (flatFs P g fs (off + r.length)).map (r ++ ·) else none
      | none => none
    else none
/-- a type's cells -/
def flat (P : Program) : Nat → TypeId → Option (List Ty)
  | 0, _ => none
  | n + 1, t => match P.underlying t with
    | some .bool => some [.bool]
    | some (.int k) => some [.int k]
    | some .string => some [.str]
    | some (.slice e) => match flat P n e with
      | some r => if P.cellsOf e = r.length then some [.sl r] else none
      | none => none
    | some (.struct fs) => match flatFs P (flat P n) fs.toList 0 with
      | some r => if P.cellsOf t = r.length then some r else none
      | none => none
    | some (.array k e) => match flat P n e with
      | some r => if P.cellsOf e = r.length ∧ P.cellsOf t = k * r.length then some (List.replicate k r).flatten else none
      | none => none
    | _ => none

/-- cells that are told -/
inductive Rw (S : Pr) (w : World) : List Ty → List Dv → List Value → Prop
  | nil : Rw S w [] [] []
  | cons {t : Ty} {x : Dv} {v : Value} {ts : List Ty} {xs : List Dv} {vs : List Value} (h : HasTy t x) (hr : DR S w x v) (h1 : v.oneCell' = true) (hs : Rw S w ts xs vs) : Rw S w (t :: ts) (x :: xs) (v :: vs)

section
variable {S : Pr} {w : World}
theorem Rw.tys {ts : List Ty} {xs : List Dv} {vs : List Value} (h : Rw S w ts xs vs) : HasTys ts xs := by
  induction h with
  | nil => exact .nil
  | cons h _ _ _ ih => exact .cons h ih
theorem Rw.len {ts : List Ty} {xs : List Dv} {vs : List Value} (h : Rw S w ts xs vs) : xs.length = ts.length ∧ vs.length = ts.length := by
  induction h with
  | nil => exact ⟨rfl, rfl⟩
  | cons _ _ _ _ ih => simp [ih.1, ih.2]
theorem Rw.append {ts ts' : List Ty} {xs xs' : List Dv} {vs vs' : List Value} (h : Rw S w ts xs vs) (h' : Rw S w ts' xs' vs') : Rw S w (ts ++ ts') (xs ++ xs') (vs ++ vs') := by
  induction h with
  | nil => exact h'
  | cons h hr h1 _ ih => exact .cons h hr h1 ih
theorem Rw.at {ts : List Ty} {xs : List Dv} {vs : List Value} (h : Rw S w ts xs vs) : ∀ (j : Nat) (c : Dv), xs[j]? = some c → ∃ v, vs[j]? = some v ∧ DR S w c v ∧ v.oneCell' = true := by
  induction h with
  | nil => intro j c h; simp at h
  | cons h hr h1 _ ih =>
    intro j c hc
    cases j with
    | zero => simp at hc; subst hc; exact ⟨_, rfl, hr, h1⟩
    | succ j => simpa using ih j c (by simpa using hc)
end

theorem pickRows {α : Type} {Q : Nat → α → Prop} : ∀ (n : Nat), (∀ i, i < n → ∃ x, Q i x) → ∃ xs : List α, xs.length = n ∧ ∀ (i : Nat) (x : α), xs[i]? = some x → Q i x
  | 0, _ => ⟨[], rfl, fun i x h => by simp at h⟩
  | n + 1, h => by
    obtain ⟨xs, h1, h2⟩ := pickRows n fun i hi => h i (by omega)
    obtain ⟨x, hx⟩ := h n (by omega)
    refine ⟨xs ++ [x], by simp [h1], fun i y hy => ?_⟩
    rcases Nat.lt_or_ge i n with hi | hi
    · rw [List.getElem?_append_left (by omega)] at hy; exact h2 i y hy
    · rw [List.getElem?_append_right (by omega)] at hy
      cases hk : i - xs.length with
      | zero =>
        rw [hk] at hy; simp at hy; subst hy
        have : i = n := by omega
        subst this; exact hx
      | succ k => rw [hk] at hy; simp at hy

theorem cell_block {w : World} {a : Addr} {v : Value} (h : w.cell? a = some v) : a.block < w.heap.size := by
  unfold World.cell? at h
  cases hh : w.heap[a.block]? with
  | none => rw [hh] at h; cases h
  | some o => exact (Array.getElem?_eq_some_iff.1 hh).1

section
variable {H : Type} {enc : TypeId × Value → H} {P : Program} {w : World} {spare : Nat → Bool} {held : Bool}

theorem read_flatFs {g : TypeId → Option (List Ty)} {fuel : Nat} (ih : ∀ (t : TypeId) (cs : List Value) (x : DataW H × List MemPlace) (tys : List Ty), g t = some tys → DataW.trod enc P w 0 spare held fuel t cs = some x → ∃ row, Rw (fun b _ => b < w.heap.size) w tys row cs) :
    ∀ (fs : List Field) (off : Nat) (cs : List Value) (tys : List Ty), flatFs P g fs off = some tys →
    (∀ f, f ∈ fs → ∃ x, DataW.trod enc P w 0 spare held fuel f.type ((cs.drop f.offset).take (P.cellsOf f.type)) = some x) → cs.length = off + tys.length →
    ∃ row, Rw (fun b _ => b < w.heap.size) w tys row (cs.drop off)
  | [], off, cs, tys, h, _, hl => by
    rw [flatFs] at h; cases h
    rw [List.drop_eq_nil_of_le (by simp at hl; omega)]
    exact ⟨[], .nil⟩
  | f :: fs, off, cs, tys, h, hf, hl => by
    rw [flatFs] at h
    split at h <;> try (cases h; done)
    rename_i ho
    split at h <;> try (cases h; done)
    rename_i r hr
    split at h <;> try (cases h; done)
    rename_i hc
    simp only [Option.map_eq_some_iff] at h
    obtain ⟨tys', h1, rfl⟩ := h
    obtain ⟨x, hx⟩ := hf f (List.mem_cons_self ..)
    obtain ⟨row, h2⟩ := ih f.type _ _ r hr hx
    obtain ⟨row', h3⟩ := read_flatFs ih fs (off + r.length) cs tys' h1 (fun f hm => hf f (List.mem_cons_of_mem _ hm)) (by simp at hl; omega)
    refine ⟨row ++ row', ?_⟩
    have e : cs.drop off = (cs.drop off).take r.length ++ cs.drop (off + r.length) := by
      rw [← List.drop_drop, List.take_append_drop]
    rw [e]
    rw [ho, hc] at h2
    exact h2.append h3

theorem read_flat : ∀ (n fuel : Nat) (t : TypeId) (cs : List Value) (x : DataW H × List MemPlace) (tys : List Ty), flat P n t = some tys → DataW.trod enc P w 0 spare held fuel t cs = some x →
    ∃ row, Rw (fun b _ => b < w.heap.size) w tys row cs
  | 0, _, _, _, _, _, h, _ => by simp [flat] at h
  | n + 1, fuel, t, cs, x, tys, h, ht => by
    rw [flat] at h
    split at h
    · rename_i hu
      cases h
      obtain ⟨b, rfl, rfl⟩ := DataW.trod_bool hu ht
      exact ⟨_, .cons (.bool b) (.s _) rfl .nil⟩
    · rename_i k hu
      cases h
      obtain ⟨m, rfl, rfl, hw⟩ := DataW.trod_int hu ht
      exact ⟨_, .cons (.int k m hw) (.s _) rfl .nil⟩
    · rename_i hu
      cases h
      obtain ⟨s, rfl, rfl, hw⟩ := DataW.trod_string hu ht
      exact ⟨_, .cons (.str s hw) (.s _) rfl .nil⟩
    · rename_i e hu
      split at h <;> try (cases h; done)
      rename_i r hr
      split at h <;> try (cases h; done)
      rename_i hc
      cases h
      rcases DataW.trod_slice hu ht with ⟨rfl, rfl⟩ | ⟨a, len, cap, elems, rest, m, rfl, rfl, rfl, _, hlc, hcm, hel, hes, _, _⟩
      · exact ⟨[.sl r.length []], .cons (.sl r [] (Nat.zero_le _) (fun row hr => by cases hr)) (.nil _) rfl .nil⟩
      · have hrow : ∀ i, i < len → ∃ row, ∃ cs' : List Value, (∀ j, j < r.length → w.cell? ((a.add (i * r.length)).add j) = cs'[j]?) ∧ cs'.length = r.length ∧ Rw (fun b _ => b < w.heap.size) w r row cs' := by
          intro i hi
          have h1 := hes i hi
          have h2 : ∃ y, elems[i]? = some y := ⟨elems[i]'(by omega), by simp⟩
          obtain ⟨y, hy⟩ := h2
          rw [hy, hc] at h1
          simp only [Option.bind_eq_some_iff] at h1
          obtain ⟨cs', h3, h4⟩ := h1
          obtain ⟨row, h5⟩ := read_flat n m e cs' y r hr h4
          have h6 := World.cells?_some h3
          exact ⟨row, cs', h6.2.2, h6.2.1, h5⟩
        obtain ⟨xs, hxl, hxs⟩ := pickRows len hrow
        refine ⟨[.sl r.length xs], .cons (.sl r xs (by omega) fun row hm => ?_) ?_ rfl .nil⟩
        · obtain ⟨i, hi⟩ := List.mem_iff_getElem?.1 hm
          obtain ⟨_, _, _, h⟩ := hxs i row hi
          exact h.tys
        · subst hxl
          have key : ∀ (i : Nat) (row : List Dv) (j : Nat) (c : Dv), xs[i]? = some row → row[j]? = some c → a.spot = none ∧ ∃ v, w.cell? ⟨a.block, a.off + (i * r.length + j), none⟩ = some v ∧ DR (fun b _ => b < w.heap.size) w c v ∧ v.oneCell' = true := by
            intro i row j c hi hj
            have hil : i < xs.length := (List.getElem?_eq_some_iff.1 hi).1
            obtain ⟨cs', g1, g2, g3⟩ := hxs i row hi
            obtain ⟨v, g4, g5, g6⟩ := g3.at j c hj
            have hjl : j < r.length := by
              have := (List.getElem?_eq_some_iff.1 hj).1
              have := g3.len.1; omega
            have g7 := g1 j hjl
            rw [g4] at g7
            have hsp : a.spot = none := by
              cases hx0 : xs[0]? with
              | none => rw [List.getElem?_eq_none_iff] at hx0; omega
              | some row0 =>
                obtain ⟨cs0, e1, e2, e3⟩ := hxs 0 row0 hx0
                have e4 := e1 0 (by omega)
                have e5 : ∃ v0, cs0[0]? = some v0 := ⟨cs0[0]'(by omega), by simp⟩
                obtain ⟨v0, e5⟩ := e5
                rw [e5] at e4
                have := World.cell?_spot e4
                simpa [Addr.add] using this
            refine ⟨hsp, v, ?_, g5, g6⟩
            obtain ⟨ab, ao, as⟩ := a
            simp only at hsp
            subst hsp
            rw [WideShapes.add_plain, WideShapes.add_plain] at g7
            rw [← g7, Nat.add_assoc]
          refine .sl r.length xs a cap (fun i j => (w.cell? ⟨a.block, a.off + (i * r.length + j), none⟩).getD default) ?_ ?_ ?_ ?_ ?_ hlc ?_
          · intro i row hi
            obtain ⟨_, _, _, h⟩ := hxs i row hi
            exact h.len.1
          · intro i row j c hi hj
            obtain ⟨_, v, hv, _⟩ := key i row j c hi hj
            exact cell_block (a := ⟨a.block, a.off + (i * r.length + j), none⟩) hv
          · intro i row j c hi hj
            obtain ⟨_, v, hv, _⟩ := key i row j c hi hj
            rw [hv]; rfl
          · intro i row j c hi hj
            obtain ⟨_, v, hv, h, _⟩ := key i row j c hi hj
            rw [hv]; exact h
          · intro i row j c hi hj
            obtain ⟨_, v, hv, _, h⟩ := key i row j c hi hj
            rw [hv]; exact h
          · cases hx : xs with
            | nil => exact .inr (.inr rfl)
            | cons row0 xs0 =>
              cases hrl : r with
              | nil => exact .inr (.inl rfl)
              | cons r0 rs =>
                left
                have h0 : xs[0]? = some row0 := by rw [hx]; rfl
                obtain ⟨_, _, _, h⟩ := hxs 0 row0 h0
                have hl := h.len.1
                have : ∃ c, row0[0]? = some c := ⟨row0[0]'(by rw [hl, hrl]; simp), by simp⟩
                obtain ⟨c, hc'⟩ := this
                exact (key 0 row0 0 c h0 hc').1
    · rename_i fs hu
      split at h <;> try (cases h; done)
      rename_i r hr
      split at h <;> try (cases h; done)
      rename_i hc
      cases h
      obtain ⟨xs, m, rfl, rfl, hl, hxl, hf⟩ := DataW.trod_struct hu ht
      have := read_flatFs (fun t cs x tys h1 h2 => read_flat n m t cs x tys h1 h2) fs.toList 0 cs tys hr (fun f hm => by
        obtain ⟨i, hi⟩ := List.mem_iff_getElem?.1 hm
        have h1 := hf i f (by simpa using hi)
        have hil : i < fs.size := by
          have := (List.getElem?_eq_some_iff.1 hi).1
          simpa using this
        exact ⟨xs[i]'(by omega), by rw [h1]; simp⟩) (by omega)
      simpa using this
    · rename_i k e hu
      split at h <;> try (cases h; done)
      rename_i r hr
      split at h <;> try (cases h; done)
      rename_i hc
      cases h
      obtain ⟨xs, m, rfl, rfl, hl, hxl, hf⟩ := DataW.trod_array hu ht
      have key : ∀ k', k' ≤ k → ∃ row, Rw (fun b _ => b < w.heap.size) w (List.replicate k' r).flatten row (cs.take (k' * r.length)) := by
        intro k'
        induction k' with
        | zero => intro _; exact ⟨[], by simpa using Rw.nil⟩
        | succ k' ih =>
          intro hk
          obtain ⟨row, h1⟩ := ih (by omega)
          have h2 := hf k' (by omega)
          rw [hc.1] at h2
          have h3 : xs[k']? = some (xs[k']'(by omega)) := by simp
          rw [h3] at h2
          obtain ⟨row2, h4⟩ := read_flat n m e _ _ r hr h2
          refine ⟨row ++ row2, ?_⟩
          have e1 : (List.replicate (k' + 1) r).flatten = (List.replicate k' r).flatten ++ r := by
            rw [List.replicate_succ']; simp
          have e2 : cs.take ((k' + 1) * r.length) = cs.take (k' * r.length) ++ (cs.drop (k' * r.length)).take r.length := by
            rw [Nat.succ_mul, List.take_add]
          rw [e1, e2]
          exact h1.append h4
      obtain ⟨row, h1⟩ := key k (Nat.le_refl _)
      refine ⟨row, ?_⟩
      rwa [List.take_of_length_le (by omega)] at h1
    · cases h
end
end Go.Proofs.Ytgdeoaiakdkhcaa.Am
