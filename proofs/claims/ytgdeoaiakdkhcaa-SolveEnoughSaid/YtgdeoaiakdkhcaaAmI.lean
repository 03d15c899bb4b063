/- Quiet operations: slicing, lengths, tests against nil. -/
import Derived.Test.YtgdeoaiakdkhcaaAmH
namespace Go.Proofs.Ytgdeoaiakdkhcaa.Am
set_option linter.unusedVariables false
open Go Go.RowKit

/-- an optional operand's number -/
def optInt : Option AV → Option (Option (IntKind × Int))
  | none => some none
  | some x => match x.int? with
    | some p => some (some p)
    | none => none

def numOr (o : Option (IntKind × Int)) (d : Int) : Int :=
  match o with
  | some p => p.2
  | none => d

/-- the bounds of a slice expression: low, high, and the capacity's end -/
def bnds (len cap : Nat) (lo hi mx : Option (IntKind × Int)) : Option (Nat × Nat × Nat) :=
  if 0 ≤ numOr lo 0 ∧ numOr lo 0 ≤ numOr hi len ∧ numOr hi len ≤ numOr mx cap ∧ numOr mx cap ≤ cap ∧ (mx.isSome = true → hi.isSome = true) then
    some ((numOr lo 0).toNat, (numOr hi len).toNat, (numOr mx cap).toNat) else none

section
variable {P : Program} {S S' X : Pr} {yv : Option Nat} {w w' : World} {m : List MB} {A B : List (AV × Value)} {hp : List Blk} {hv : List (List Value)}

theorem run_bnds (isSlice : Bool) {len cap : Nat} {lo hi mx : Option (IntKind × Int)} {l h c : Nat} (hb : bnds len cap lo hi mx = some (l, h, c)) (w : World) :
    (Instr.sliceBounds isSlice len cap (lo.map fun p => .int p.1 p.2) (hi.map fun p => .int p.1 p.2) (mx.map fun p => .int p.1 p.2)).run P w = .ok (l, h, c) w ∧ l ≤ h ∧ h ≤ c ∧ c ≤ cap := by
  unfold bnds at hb
  split at hb <;> try (cases hb; done)
  rename_i hc
  obtain ⟨h1, h2, h3, h4, h5⟩ := hc
  simp only [Option.some.injEq, Prod.mk.injEq] at hb
  obtain ⟨rfl, rfl, rfl⟩ := hb
  rcases lo with _ | ⟨kl, x⟩ <;> rcases hi with _ | ⟨kh, y⟩ <;> rcases mx with _ | ⟨km, z⟩ <;> simp only [numOr] at h1 h2 h3 h4 h5 ⊢ <;> try (simp at h5; done)
  all_goals refine ⟨?_, by omega, by omega, by omega⟩
  all_goals simp only [Instr.sliceBounds, Option.map_none, Option.map_some, Sem.run_bind, Sem.run_pure, Result.andThen_ok, Instr.sliceBound, asIntOf]
  · simp
  · have a1 : 0 ≤ y ∧ y ≤ cap := by omega
    simp [a1]
  · obtain ⟨y, rfl⟩ := Int.eq_ofNat_of_zero_le (show 0 ≤ y by omega)
    obtain ⟨z, rfl⟩ := Int.eq_ofNat_of_zero_le (show 0 ≤ z by omega)
    have a1 : z ≤ cap := by omega
    have a2 : y ≤ z := by omega
    simp [a1, a2]
  · obtain ⟨x, rfl⟩ := Int.eq_ofNat_of_zero_le (show 0 ≤ x by omega)
    have a1 : x ≤ len := by omega
    simp [a1]
  · obtain ⟨x, rfl⟩ := Int.eq_ofNat_of_zero_le (show 0 ≤ x by omega)
    obtain ⟨y, rfl⟩ := Int.eq_ofNat_of_zero_le (show 0 ≤ y by omega)
    have a1 : y ≤ cap := by omega
    have a2 : x ≤ y := by omega
    simp [a1, a2]
  · obtain ⟨x, rfl⟩ := Int.eq_ofNat_of_zero_le (show 0 ≤ x by omega)
    obtain ⟨y, rfl⟩ := Int.eq_ofNat_of_zero_le (show 0 ≤ y by omega)
    obtain ⟨z, rfl⟩ := Int.eq_ofNat_of_zero_le (show 0 ≤ z by omega)
    have a1 : z ≤ cap := by omega
    have a2 : y ≤ z := by omega
    have a3 : x ≤ y := by omega
    simp [a1, a2, a3]

theorem bnds_cap {len cap cap' : Nat} {lo hi mx : Option (IntKind × Int)} {l h c : Nat} (hb : bnds len cap lo hi mx = some (l, h, c)) (hc : cap ≤ cap') :
    bnds len cap' lo hi mx = some (l, h, if mx.isSome = true then c else cap') := by
  unfold bnds at *
  split at hb <;> try (cases hb; done)
  rename_i hcond
  obtain ⟨h1, h2, h3, h4, h5⟩ := hcond
  simp only [Option.some.injEq, Prod.mk.injEq] at hb
  obtain ⟨rfl, rfl, rfl⟩ := hb
  rcases mx with _ | ⟨km, z⟩
  · have h3' : numOr hi len ≤ (cap : Int) := h3
    show (if 0 ≤ numOr lo 0 ∧ numOr lo 0 ≤ numOr hi len ∧ numOr hi len ≤ (cap' : Int) ∧ (cap' : Int) ≤ cap' ∧ ((none : Option (IntKind × Int)).isSome = true → hi.isSome = true) then
      some ((numOr lo 0).toNat, (numOr hi len).toNat, (cap' : Int).toNat) else none) = some ((numOr lo 0).toNat, (numOr hi len).toNat, cap')
    rw [if_pos ⟨h1, h2, by omega, by omega, fun h => by cases h⟩, Int.toNat_natCast]
  · have h3' : numOr hi len ≤ z := h3
    have h4' : z ≤ (cap : Int) := h4
    show (if 0 ≤ numOr lo 0 ∧ numOr lo 0 ≤ numOr hi len ∧ numOr hi len ≤ z ∧ z ≤ cap' ∧ ((some (km, z)).isSome = true → hi.isSome = true) then
      some ((numOr lo 0).toNat, (numOr hi len).toNat, z.toNat) else none) = some ((numOr lo 0).toNat, (numOr hi len).toNat, z.toNat)
    rw [if_pos ⟨h1, h2, h3', by omega, h5⟩]

/-- a part of a slice of data -/
theorem DR.sub {k n cap l h c : Nat} {xs : List (List Dv)} {base : Option Addr} (hd : DR S w (.sl k xs) (.slice base n cap)) (h1 : l ≤ h) (h2 : h ≤ n) (h3 : h ≤ c) (h4 : c ≤ cap) :
    DR S w (.sl k ((xs.drop l).take (h - l))) (.slice (if c = l then base else base.map fun a => a.add (l * k)) (h - l) (c - l)) := by
  generalize hv : Value.slice base n cap = v at hd
  cases hd with
  | nil k =>
    simp only [Value.slice.injEq] at hv
    obtain ⟨rfl, rfl, rfl⟩ := hv
    obtain rfl : h = 0 := by omega
    obtain rfl : l = 0 := by omega
    obtain rfl : c = 0 := by omega
    exact .nil k
  | sl k xs a cap' vals hk hs hc hr h1' hcap hsp =>
    simp only [Value.slice.injEq] at hv
    obtain ⟨rfl, rfl, rfl⟩ := hv
    have hlen : ((xs.drop l).take (h - l)).length = h - l := by simp; omega
    by_cases hcl : c = l
    · subst hcl
      have he : h - c = 0 := by omega
      simp only [he, List.take_zero, if_true]
      have := DR.ofFlat (S := S) (w := w) (k := k) (xs := []) (us := []) (a := a) (cap := c - c) ⟨by simp, by simp, by simp, by simp⟩ (by simp) (by simp) (.inr (.inr rfl))
      simpa using this
    · simp only [hcl, if_false, Option.map_some]
      have hrow : ∀ (i : Nat) (row : List Dv), ((xs.drop l).take (h - l))[i]? = some row → xs[l + i]? = some row := by
        intro i row hi
        rw [List.getElem?_take] at hi
        split at hi
        · rwa [List.getElem?_drop] at hi
        · cases hi
      by_cases hlk : l * k = 0
      · rw [hlk]
        have hadd : a.add 0 = a := by simp [Addr.add]
        rw [hadd]
        have := DR.sl (S := S) (w := w) k ((xs.drop l).take (h - l)) a (c - l) (fun i j => vals (l + i) j) (fun i row hi => hk _ row (hrow i row hi))
          (fun i row j d hi hj => by have := hs _ row j d (hrow i row hi) hj; rw [Nat.add_mul, hlk, Nat.zero_add] at this; exact this)
          (fun i row j d hi hj => by have := hc _ row j d (hrow i row hi) hj; rw [Nat.add_mul, hlk, Nat.zero_add] at this; exact this)
          (fun i row j d hi hj => hr _ row j d (hrow i row hi) hj) (fun i row j d hi hj => h1' _ row j d (hrow i row hi) hj) (by rw [hlen]; omega)
          (by rcases hsp with h | h | h
              · exact .inl h
              · exact .inr (.inl h)
              · subst h; exact .inr (.inr (by simp)))
        rw [hlen] at this
        exact this
      · have hadd : a.add (l * k) = ⟨a.block, a.off + l * k, none⟩ := by simp [Addr.add, hlk]
        rw [hadd]
        have := DR.sl (S := S) (w := w) k ((xs.drop l).take (h - l)) ⟨a.block, a.off + l * k, none⟩ (c - l) (fun i j => vals (l + i) j) (fun i row hi => hk _ row (hrow i row hi))
          (fun i row j d hi hj => by have := hs _ row j d (hrow i row hi) hj; simpa [Nat.add_mul, Nat.add_assoc] using this)
          (fun i row j d hi hj => by have := hc _ row j d (hrow i row hi) hj; simpa [Nat.add_mul, Nat.add_assoc] using this)
          (fun i row j d hi hj => hr _ row j d (hrow i row hi) hj) (fun i row j d hi hj => h1' _ row j d (hrow i row hi) hj) (by rw [hlen]; omega) (.inl rfl)
        rw [hlen] at this
        exact this

theorem DR.mkFull {k n : Nat} {xs : List (List Dv)} {a : Option Addr} (hd : DR S w (.sl k xs) (.slice a n n)) : RV S w m yv (.full k xs) (.slice a n n) := by
  have hn : n = xs.length := by
    generalize hv : Value.slice a n n = v at hd
    cases hd <;> simp at hv
    · exact hv.2.1
    · exact hv.2
  subst hn; exact .full hd

/-- a slice expression over rows of data; c0: the capacity, if it is known -/
def xSliceRows (k : Nat) (xs : List (List Dv)) (known : Bool) (lo hi mx : Option (IntKind × Int)) : Option AV :=
  match bnds xs.length xs.length lo hi mx with
  | some (l, h, c) => if (known || mx.isSome) && h == c then some (.full k ((xs.drop l).take (h - l))) else some (.d (.sl k ((xs.drop l).take (h - l))))
  | none => none

def xSlice (P : Program) (hp : List Blk) (t : TypeId) (x : AV) (lo hi mx : Option AV) : Option AV :=
  match optInt lo, optInt hi, optInt mx, P.underlying t with
  | some lo, some hi, some mx, some (.slice elem) => match P.info? elem with
    | some i => (match x with
      | .d (.sl k xs) => if k = i.size then xSliceRows k xs false lo hi mx else none
      | .own _ k xs => if k = i.size then xSliceRows k xs false lo hi mx else none
      | .full k xs => if k = i.size then xSliceRows k xs true lo hi mx else none
      | .ref g off n cap k => if k = i.size then
          match bnds n cap lo hi mx with
          | some (l, h, c) => some (.ref g (if c = l then off else off + l * k) (h - l) (c - l) k)
          | none => none
          else none
      | .d (.s (.slice none 0 0)) => match bnds 0 0 lo hi mx with
          | some _ => some (.d (.s (.slice none 0 0)))
          | none => none
      | _ => none)
    | none => none
  | some lo, some hi, some mx, some (.array n elem) => match P.info? elem with
    | some i => (match x with
      | .ptr g off => match hp[g]? with
        | some blk => if blk.grow = false ∧ off + n * i.size ≤ blk.cells.length then
            match bnds n n lo hi mx with
            | some (l, h, c) => some (.ref g (if c = l then off else off + l * i.size) (h - l) (c - l) i.size)
            | none => none
            else none
        | none => none
      | _ => none)
    | none => none
  | _, _, _, _ => none

theorem optInt_spec {x : Option AV} {v : Option Value} {p : Option (IntKind × Int)} (h : optInt x = some p) (hr : ∀ a, x = some a → ∃ b, v = some b ∧ RV S w m yv a b) (hn : x = none → v = none) :
    v = p.map fun q => .int q.1 q.2 := by
  cases x with
  | none => simp [optInt] at h; subst h; simp [hn]
  | some a =>
    obtain ⟨b, rfl, hb⟩ := hr a rfl
    simp only [optInt] at h
    split at h <;> try (cases h; done)
    rename_i q hq
    cases h
    simp [int?_spec hq hb]

theorem xSliceRows_sound {k : Nat} {xs : List (List Dv)} {known : Bool} {lo hi mx : Option (IntKind × Int)} {x : AV} {a : Option Addr} {cap : Nat} {s : Sem Next} (h : Rel S X yv w m A hp hv)
    (hd : DR S w (.sl k xs) (.slice a xs.length cap)) (hk : known = true → cap = xs.length) (hx : xSliceRows k xs known lo hi mx = some x)
    (hs : ∀ l h c, (Instr.sliceBounds true xs.length cap (lo.map fun p => .int p.1 p.2) (hi.map fun p => .int p.1 p.2) (mx.map fun p => .int p.1 p.2)).run P w = .ok (l, h, c) w →
      s.run P w = .ok (.value (.slice (if c = l then a else a.map fun a => a.add (l * k)) (h - l) (c - l))) w) : QOk P S X yv w m A hp hv s x := by
  unfold xSliceRows at hx
  split at hx <;> try (cases hx; done)
  rename_i l hh c hb
  have hcap : xs.length ≤ cap := by
    obtain ⟨b, c', us, hv, h1, _⟩ := hd.flat
    cases hv; exact h1
  have hb' := bnds_cap hb hcap
  obtain ⟨hrun, h1, h2, h3⟩ := run_bnds (P := P) true hb' w
  obtain ⟨_, g1, g2, g3⟩ := run_bnds (P := P) true hb w
  have hval := hs _ _ _ hrun
  have hsub := DR.sub hd (l := l) (h := hh) (c := if mx.isSome = true then c else cap) h1 (by omega) h2 h3
  split at hx
  · rename_i hcond
    cases hx
    simp only [Bool.and_eq_true, Bool.or_eq_true, beq_iff_eq] at hcond
    obtain ⟨hc1, rfl⟩ := hcond
    have he : (if mx.isSome = true then hh else cap) = hh := by
      by_cases hm : mx.isSome = true
      · simp [hm]
      · simp only [hm, Bool.false_eq_true, if_false]
        have hmx : mx = none := by cases mx <;> simp_all
        have hcc : hh = xs.length := by
          subst hmx
          unfold bnds at hb
          split at hb <;> try (cases hb; done)
          rename_i hq
          simp only [Option.some.injEq, Prod.mk.injEq, numOr] at hb hq
          omega
        rw [hcc]; exact hk (hc1.resolve_right hm)
    rw [he] at hval hsub
    exact QOk.same h hval hsub.mkFull rfl
  · cases hx
    exact QOk.same h hval (.d hsub) rfl

theorem xSlice_sound {t : TypeId} {x x' : AV} {lo hi mx : Option AV} {v : Value} {vlo vhi vmx : Option Value} (h : Rel S X yv w m A hp hv) (hr : RV S w m yv x v)
    (hlo : ∀ a, lo = some a → ∃ b, vlo = some b ∧ RV S w m yv a b) (hlo' : lo = none → vlo = none) (hhi : ∀ a, hi = some a → ∃ b, vhi = some b ∧ RV S w m yv a b) (hhi' : hi = none → vhi = none)
    (hmx : ∀ a, mx = some a → ∃ b, vmx = some b ∧ RV S w m yv a b) (hmx' : mx = none → vmx = none) (hx : xSlice P hp t x lo hi mx = some x') :
    QOk P S X yv w m A hp hv (do pure (.value (← Instr.sliceAt t v vlo vhi vmx))) x' := by
  unfold xSlice at hx
  split at hx <;> try (cases hx; done)
  · rename_i lo' hi' mx' elem e1 e2 e3 hu
    have f1 := optInt_spec e1 hlo hlo'
    have f2 := optInt_spec e2 hhi hhi'
    have f3 := optInt_spec e3 hmx hmx'
    subst f1; subst f2; subst f3
    split at hx <;> try (cases hx; done)
    rename_i i hinf
    have hrun : ∀ {a : Option Addr} {n cap : Nat} (l h c : Nat), (Instr.sliceBounds true n cap (lo'.map fun p => .int p.1 p.2) (hi'.map fun p => .int p.1 p.2) (mx'.map fun p => .int p.1 p.2)).run P w = .ok (l, h, c) w →
        (do pure (Next.value (← Instr.sliceAt t (.slice a n cap) (lo'.map fun p => .int p.1 p.2) (hi'.map fun p => .int p.1 p.2) (mx'.map fun p => .int p.1 p.2))) : Sem Next).run P w =
          .ok (.value (.slice (if c = l then a else a.map fun a => a.add (l * i.size)) (h - l) (c - l))) w := by
      intro a n cap l h c hb
      simp only [Instr.sliceAt, Sem.run_bind, run_underlying hu, Result.andThen_ok, Instr.slice, hb, sizeOf, typeInfo, run_program, hinf, Sem.run_pure]
    split at hx
    · split at hx <;> try (cases hx; done)
      rename_i hk
      subst hk
      cases hr with
      | d hd =>
        obtain ⟨a, cap, us, rfl, _⟩ := hd.flat
        exact xSliceRows_sound h hd (by simp) hx (fun l hh c hb => hrun l hh c hb)
    · split at hx <;> try (cases hx; done)
      rename_i hk
      subst hk
      cases hr with
      | ownNil => exact xSliceRows_sound h (.nil _) (by simp) hx (fun l hh c hb => hrun l hh c hb)
      | own hd ho => exact xSliceRows_sound h hd (by simp) hx (fun l hh c hb => hrun l hh c hb)
    · split at hx <;> try (cases hx; done)
      rename_i hk
      subst hk
      cases hr with
      | full hd => exact xSliceRows_sound h hd (fun _ => rfl) hx (fun l hh c hb => hrun l hh c hb)
    · rename_i g off n cap k
      split at hx <;> try (cases hx; done)
      rename_i hk
      subst hk
      split at hx <;> try (cases hx; done)
      rename_i l hh c hb
      cases hx
      cases hr with
      | ref hm hfit hn =>
        rename_i b len ver
        obtain ⟨hb1, hb2, hb3, hb4⟩ := run_bnds (P := P) true hb w
        have hv1 := hrun (a := some ⟨b, off, none⟩) l hh c hb1
        by_cases hcl : c = l
        · simp only [hcl, if_true] at hv1 ⊢
          exact QOk.same h hv1 (.ref hm (by simp; have := hfit; omega) (by omega)) rfl
        · simp only [hcl, if_false, Option.map_some, add_lit] at hv1 ⊢
          refine QOk.same h hv1 (.ref hm ?_ (by omega)) rfl
          have e : (c - l) * i.size + l * i.size = c * i.size := by rw [← Nat.add_mul]; congr 1; omega
          have e2 : c * i.size ≤ cap * i.size := Nat.mul_le_mul_right i.size hb4
          omega
    · split at hx <;> try (cases hx; done)
      rename_i bb hb
      cases hx
      cases hr with
      | d hd =>
        cases hd
        obtain ⟨l, hh, c⟩ := bb
        obtain ⟨hb1, hb2, hb3, hb4⟩ := run_bnds (P := P) true hb w
        obtain rfl : c = 0 := by omega
        obtain rfl : hh = 0 := by omega
        obtain rfl : l = 0 := by omega
        refine QOk.same h (v := .slice none 0 0) ?_ (.d (.s _)) rfl
        simp [Instr.sliceAt, run_underlying hu, Instr.slice, hb1, sizeOf, typeInfo, hinf]
    · cases hx
  · rename_i lo' hi' mx' n elem e1 e2 e3 hu
    have f1 := optInt_spec e1 hlo hlo'
    have f2 := optInt_spec e2 hhi hhi'
    have f3 := optInt_spec e3 hmx hmx'
    subst f1; subst f2; subst f3
    split at hx <;> try (cases hx; done)
    rename_i i hinf
    split at hx <;> try (cases hx; done)
    split at hx <;> try (cases hx; done)
    rename_i blk hblk
    split at hx <;> try (cases hx; done)
    rename_i hcond
    split at hx <;> try (cases hx; done)
    rename_i l hh c hb
    cases hx
    cases hr with
    | ptr hm =>
      obtain ⟨blk', vs, cur, e, g1, g2, g3, _⟩ := h.block hm
      rw [hblk] at g1; cases g1
      simp only at g3
      obtain ⟨hb1, hb2, hb3, hb4⟩ := run_bnds (P := P) false hb w
      by_cases hcl : c = l
      · simp only [hcl, if_true]
        refine QOk.same h (v := .slice (some ⟨_, _, none⟩) (hh - l) (l - l)) ?_ (.ref hm (by simp; omega) (by omega)) rfl
        simp [Instr.sliceAt, run_underlying hu, Instr.sureAddr, hb1, sizeOf, typeInfo, hinf, hcl]
      · simp only [hcl, if_false]
        refine QOk.same h (v := .slice (some ⟨_, _ + l * i.size, none⟩) (hh - l) (c - l)) ?_ (.ref hm ?_ (by omega)) rfl
        · simp [Instr.sliceAt, run_underlying hu, Instr.sureAddr, hb1, sizeOf, typeInfo, hinf, hcl, add_lit]
        · have e : (c - l) * i.size + l * i.size = c * i.size := by rw [← Nat.add_mul]; congr 1; omega
          have e2 : c * i.size ≤ n * i.size := Nat.mul_le_mul_right i.size hb4
          omega

end
end Go.Proofs.Ytgdeoaiakdkhcaa.Am
