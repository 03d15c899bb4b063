/- Others' steps: what they may turn, and what stays tied. -/
import Derived.Test.YtgdeoaiakdkhcaaAmP
import Derived.RangeFuncNested
namespace Go.Proofs.Ytgdeoaiakdkhcaa.Am
set_option linter.unusedVariables false
open Go Go.RowKit

/-- a loop's record, before and after a round -/
def LoopLike (o o' : Obj) : Prop := ∃ (r : Loop) (st : LoopState) (pd : Option Code), o = .loop r ∧ o' = .loop { r with state := st, pending := pd }

theorem LoopLike.trans {a b c : Obj} (h : LoopLike a b) (k : LoopLike b c) : LoopLike a c := by
  obtain ⟨r, st, pd, rfl, rfl⟩ := h
  obtain ⟨r', st', pd', h1, rfl⟩ := k
  cases h1
  exact ⟨r, st', pd', rfl, rfl⟩

/-- from one moment to a later one: cells outside of Z stay, and records outside of L -/
structure Tr (Z : Pr) (L : Nat → Prop) (S : Pr) (w : World) (S' : Pr) (w' : World) : Prop where
  os : w'.os = w.os
  tape : w'.tape = w.tape
  output : w'.output = w.output
  size : w.heap.size ≤ w'.heap.size
  cells : ∀ (b : Nat) (c : Array Value) (e : TypeId) (f : Nat × Nat), w.heap[b]? = some (Obj.cells c e f) → ∃ c' : Array Value, w'.heap[b]? = some (Obj.cells c' e f) ∧ c'.size = c.size
  objs : ∀ (b : Nat) (o : Obj), w.heap[b]? = some o → o.isCells = false → w'.heap[b]? = some o ∨ (L b ∧ ∃ o', w'.heap[b]? = some o' ∧ LoopLike o o')
  same : ∀ b i v, (S b i ∨ ¬ Z b i) → w.cell? ⟨b, i, none⟩ = some v → w'.cell? ⟨b, i, none⟩ = some v
  up : ∀ b i, S b i → S' b i
  new : ∀ b i, S' b i → S b i ∨ Z b i ∨ w.heap.size ≤ b
  lt : ∀ b i, S' b i → b < w'.heap.size

/-- of it: what concerns cells -/
structure Tr0 (Z : Pr) (S : Pr) (w : World) (S' : Pr) (w' : World) : Prop where
  size : w.heap.size ≤ w'.heap.size
  cells : ∀ (b : Nat) (c : Array Value) (e : TypeId) (f : Nat × Nat), w.heap[b]? = some (Obj.cells c e f) → ∃ c' : Array Value, w'.heap[b]? = some (Obj.cells c' e f) ∧ c'.size = c.size
  same : ∀ b i v, (S b i ∨ ¬ Z b i) → w.cell? ⟨b, i, none⟩ = some v → w'.cell? ⟨b, i, none⟩ = some v
  up : ∀ b i, S b i → S' b i
  new : ∀ b i, S' b i → S b i ∨ Z b i ∨ w.heap.size ≤ b
  lt : ∀ b i, S' b i → b < w'.heap.size

theorem Tr.tr0 {Z : Pr} {L : Nat → Prop} {S S' : Pr} {w w' : World} (h : Tr Z L S w S' w') : Tr0 Z S w S' w' := ⟨h.size, h.cells, h.same, h.up, h.new, h.lt⟩

section
variable {P : Program} {S S' S'' X X' Z Z' : Pr} {L L' : Nat → Prop} {yv : Option Nat} {w w' w'' : World} {m m' m'' : List MB} {A B : List (AV × Value)} {hp hp' : List Blk} {hv : List (List Value)}

theorem Tr.refl (Z : Pr) (L : Nat → Prop) (hS : ∀ b i, S b i → b < w.heap.size) : Tr Z L S w S w :=
  ⟨rfl, rfl, rfl, Nat.le_refl _, fun _ c _ _ h => ⟨c, h, rfl⟩, fun _ _ h _ => .inl h, fun _ _ _ _ h => h, fun _ _ h => h, fun _ _ h => .inl h, hS⟩

theorem Tr.trans (h : Tr Z L S w S' w') (k : Tr Z' L' S' w' S'' w'') (hZ : ∀ b i, b < w.heap.size → Z' b i → Z b i) (hL : ∀ b, b < w.heap.size → L' b → L b) : Tr Z L S w S'' w'' := by
  refine ⟨k.os.trans h.os, k.tape.trans h.tape, k.output.trans h.output, Nat.le_trans h.size k.size, fun b c e f hb => ?_, fun b o hb ho => ?_, fun b i v hs hv => ?_, fun b i hs => k.up b i (h.up b i hs), fun b i hs => ?_, k.lt⟩
  · obtain ⟨c', h1, h2⟩ := h.cells b c e f hb
    obtain ⟨c'', h3, h4⟩ := k.cells b c' e f h1
    exact ⟨c'', h3, h4.trans h2⟩
  · have hbl : b < w.heap.size := (Array.getElem?_eq_some_iff.1 hb).1
    rcases h.objs b o hb ho with h1 | ⟨h1, o', h2, h3⟩
    · rcases k.objs b o h1 ho with h4 | ⟨h4, h5⟩
      · exact .inl h4
      · exact .inr ⟨hL b hbl h4, h5⟩
    · have ho' : o'.isCells = false := by obtain ⟨_, _, _, _, rfl⟩ := h3; rfl
      rcases k.objs b o' h2 ho' with h4 | ⟨_, o'', h5, h6⟩
      · exact .inr ⟨h1, o', h4, h3⟩
      · exact .inr ⟨h1, o'', h5, h3.trans h6⟩
  · have hbl : b < w.heap.size := World.block_lt_of_cell? w ⟨b, i, none⟩ hv
    exact k.same b i v (hs.imp (h.up b i) fun hz hz' => hz (hZ b i hbl hz')) (h.same b i v hs hv)
  · rcases k.new b i hs with h1 | h1 | h1
    · exact h.new b i h1
    · by_cases hb : b < w.heap.size
      · exact .inr (.inl (hZ b i hb h1))
      · exact .inr (.inr (by omega))
    · exact .inr (.inr (Nat.le_trans h.size h1))

theorem Tr.mono' (h : Tr Z L S w S' w') (hZ : ∀ b i, b < w.heap.size → Z b i → Z' b i) (hL : ∀ b, L b → L' b) : Tr Z' L' S w S' w' :=
  ⟨h.os, h.tape, h.output, h.size, h.cells, fun b o hb ho => (h.objs b o hb ho).imp id fun h1 => ⟨hL b h1.1, h1.2⟩,
   fun b i v hs hv => h.same b i v (hs.imp id fun hz hz' => hz (hZ b i (World.block_lt_of_cell? w ⟨b, i, none⟩ hv) hz')) hv,
   h.up, fun b i hs => (h.new b i hs).imp id fun h1 => if hb : b < w.heap.size then h1.imp (hZ b i hb) id else .inr (Nat.le_of_not_lt hb), h.lt⟩

theorem Tr.mono (h : Tr Z L S w S' w') (hZ : ∀ b i, Z b i → Z' b i) (hL : ∀ b, L b → L' b) : Tr Z' L' S w S' w' := h.mono' (fun b i _ => hZ b i) hL

/-- a loop's record turns -/
theorem Tr.putLoop (h : Tr Z L S w S' w') {l : Nat} {rc : Loop} (st : LoopState) (pd : Option Code) (hl : w'.heap[l]? = some (.loop rc)) : Tr Z (fun x => x = l ∨ L x) S w S' (w'.putObj l (.loop { rc with state := st, pending := pd })) := by
  have hll : l < w'.heap.size := (Array.getElem?_eq_some_iff.1 hl).1
  have hcell : ∀ (b i : Nat) (v : Value), w'.cell? ⟨b, i, none⟩ = some v → (w'.putObj l (.loop { rc with state := st, pending := pd })).cell? ⟨b, i, none⟩ = some v := by
    intro b i v hv
    have hbd : b ≠ l := by
      rintro rfl
      obtain ⟨o1, h1, h2⟩ := cells_of_cell hv
      simp only at h1
      rw [hl] at h1; cases h1; cases h2
    rw [World.cell?_of_block (w := w') (a := ⟨b, i, none⟩) (World.putObj_heap_other hbd)]; exact hv
  refine ⟨h.os, h.tape, h.output, by simpa using h.size, fun b c e f hb => ?_, fun b o hb ho => ?_, fun b i v hs hv => hcell b i v (h.same b i v hs hv), h.up, h.new, fun b i hs => by simpa using h.lt b i hs⟩
  · obtain ⟨c', h1, h2⟩ := h.cells b c e f hb
    have hbd : b ≠ l := by rintro rfl; rw [hl] at h1; cases h1
    exact ⟨c', by rw [World.putObj_heap_other hbd]; exact h1, h2⟩
  · by_cases hbl : b = l
    · subst hbl
      refine .inr ⟨.inl rfl, _, World.putObj_heap_same hll, ?_⟩
      rcases h.objs b o hb ho with h1 | ⟨_, o', h1, h2⟩
      · rw [hl] at h1; cases h1; exact ⟨rc, st, pd, rfl, rfl⟩
      · rw [hl] at h1; cases h1; exact h2.trans ⟨rc, st, pd, rfl, rfl⟩
    · rw [World.putObj_heap_other hbl]
      exact (h.objs b o hb ho).imp id fun h1 => ⟨.inr h1.1, h1.2⟩

theorem Gs.tr (h : Gs S X none w m S' w' m') (hlt : ∀ b i, S' b i → b < w'.heap.size) : Tr (fun b i => ¬ X b i) (fun _ => False) S w S' w' :=
  ⟨h.ag.os, h.ag.tape, h.ag.output, h.ag.size, h.ag.cells, fun b o hb ho => .inl (h.ag.objs b o hb ho (by simp)), fun b i v hs hv => h.ag.same b i v (hs.imp id fun hx => Classical.not_not.1 hx) hv,
   h.up, fun b i hs => (h.new b i hs).imp id .inl, hlt⟩

theorem RV.tr0 (h : Tr0 Z S w S' w') {x : AV} {v : Value} (hr : RV S w m yv x v) : RV S' w' m yv x v := by
  have hdr : ∀ {x v}, DR S w x v → DR S' w' x v := fun hd => hd.ext h.up fun b i v hs hv => h.same b i v (.inl hs) hv
  induction hr with
  | d h1 => exact .d (hdr h1)
  | agg hl _ ih => exact .agg hl (fun i c v h h' => ih i c v h h')
  | tup hl _ ih => exact .tup hl (fun i c v h h' => ih i c v h h')
  | own h1 ho =>
    obtain ⟨cur, h2, h3, h4⟩ := ho
    obtain ⟨cur', h5, h6⟩ := h.cells _ _ _ _ h2
    exact .own (hdr h1) ⟨cur', h5, h3, h6.trans h4⟩
  | ownNil => exact .ownNil
  | full h1 => exact .full (hdr h1)
  | rptr vals hne hsp hs hc hr h1 =>
    exact .rptr vals hne hsp (fun j c h' => h.up _ _ (hs j c h')) (fun j c h' => h.same _ _ _ (.inl (hs j c h')) (hc j c h')) (fun j c h' => hdr (hr j c h')) h1
  | ref h1 hfit hn => exact .ref h1 hfit hn
  | ptr h1 => exact .ptr h1
  | gref h1 hv' h2 hc =>
    refine .gref h1 hv' h2 fun he => ?_
    obtain ⟨hl, cap, h1', h2, h3, cur, e, h4, h5⟩ := hc he
    obtain ⟨cur', h6, h7⟩ := h.cells _ _ _ _ h4
    exact ⟨hl, cap, h1', h2, h3, cur', e, h6, h7.trans h5⟩
  | gptr h1 hv' h2 hc => exact .gptr h1 hv' h2 hc
  | fn hf hl hl' _ _ ih ih' => exact .fn hf hl hl' (fun i c v h h' => ih i c v h h') (fun i c v h h' => ih' i c v h h')
  | yl h1 => exact .yl h1
  | bad => exact .bad

theorem RV.tr (h : Tr Z L S w S' w') {x : AV} {v : Value} (hr : RV S w m yv x v) : RV S' w' m yv x v := hr.tr0 h.tr0

theorem own_lt {x : AV} {v : Value} {b : Nat} (hr : RV S w m yv x v) (ho : ownB (x, v) = some b) : b < w.heap.size := by
  cases hr <;> simp only [ownB] at ho <;> try (cases ho)
  rename_i ho
  obtain ⟨cur, h1, _⟩ := ho
  exact (Array.getElem?_eq_some_iff.1 h1).1

/-- what stays tied over others' steps -/
theorem Rel.still0 (h : Rel S X yv w m A hp hv) (ht : Tr0 Z S w S' w') (hZm : ∀ (g : Nat) (blk : Blk) (p : MB), hp[g]? = some blk → m[g]? = some p → blk.fro = false → ∀ i, ¬ Z p.b i)
    (hZo : ∀ p ∈ A, ∀ b, ownB p = some b → ∀ i, ¬ Z b i) (hX : ∀ b i, X' b i → X b i ∨ (w.heap.size ≤ b ∧ b < w'.heap.size)) : Rel S' X' yv w' m A hp hv := by
  refine ⟨?_, fun p hp => (h.rv p hp).tr0 ht, h.pw, h.nm, ?_, h.mnd, h.ml, h.hl, ?_⟩
  · intro b i hbi
    rcases hbi with h1 | h1
    · exact ht.lt b i h1
    · rcases hX b i h1 with h2 | ⟨_, h2⟩
      · exact Nat.lt_of_lt_of_le (h.lt b i (.inr h2)) ht.size
      · exact h2
  · intro p hp b hb
    have hbl := own_lt (h.rv p hp) (x := p.1) (v := p.2) hb
    refine ⟨fun i hx => ?_, fun i hi hs => ?_⟩
    · rcases hX b i hx with h2 | ⟨h2, _⟩
      · exact (h.sp p hp b hb).1 i h2
      · omega
    · rcases ht.new b i hs with h2 | h2 | h2
      · exact (h.sp p hp b hb).2 i hi h2
      · exact hZo p hp b hb i h2
      · omega
  · intro g blk p vs h1 h2 h3
    obtain ⟨a1, a2, a3, a4, a5, ⟨cur, e, a6, a7, a8⟩, a9, a10⟩ := h.bl g blk p vs h1 h2 h3
    have hlt : p.b < w.heap.size := (Array.getElem?_eq_some_iff.1 a6).1
    obtain ⟨cur', c1, c2⟩ := ht.cells _ _ _ _ a6
    refine ⟨a1, a2, a3, a4, a5, ⟨cur', e, c1, ?_, by omega⟩, fun hf i => ⟨fun hs => ?_, fun hx => ?_⟩, fun hf i hi => ht.up _ _ (a10 hf i hi)⟩
    · rw [← a7]
      apply List.ext_getElem?
      intro i
      simp only [List.getElem?_take]
      split
      · rename_i hi
        have hcur : i < cur.size := by omega
        have hce : w.cell? ⟨p.b, i, none⟩ = some cur[i] := by simp [World.cell?, a6, hcur]
        have hs : S p.b i ∨ ¬ Z p.b i := by
          cases hfr : blk.fro with
          | true => exact .inl (a10 hfr i hi)
          | false => exact .inr (hZm g blk p h1 h2 hfr i)
        have hce' := ht.same _ _ _ hs hce
        have hcur' : i < cur'.size := by omega
        simp only [World.cell?, c1] at hce'
        simp [hcur'] at hce'
        simp [hcur, hcur', hce']
      · rfl
    · rcases ht.new _ _ hs with h4 | h4 | h4
      · exact (a9 hf i).1 h4
      · exact hZm g blk p h1 h2 hf i h4
      · omega
    · rcases hX _ _ hx with h4 | ⟨h4, _⟩
      · exact (a9 hf i).2 h4
      · omega

theorem Rel.still (h : Rel S X yv w m A hp hv) (ht : Tr Z L S w S' w') (hZm : ∀ (g : Nat) (blk : Blk) (p : MB), hp[g]? = some blk → m[g]? = some p → blk.fro = false → ∀ i, ¬ Z p.b i)
    (hZo : ∀ p ∈ A, ∀ b, ownB p = some b → ∀ i, ¬ Z b i) (hX : ∀ b i, X' b i → X b i ∨ (w.heap.size ≤ b ∧ b < w'.heap.size)) : Rel S' X' yv w' m A hp hv := h.still0 ht.tr0 hZm hZo hX

/-- an object that is no cells turns -/
theorem tr0_putObj {d : Nat} {o o' : Obj} (hd : w.heap[d]? = some o) (ho : o.isCells = false) (hS : ∀ b i, S b i → b < w.heap.size) : Tr0 Z S w S (w.putObj d o') := by
  have hcell : ∀ (b i : Nat) (v : Value), w.cell? ⟨b, i, none⟩ = some v → (w.putObj d o').cell? ⟨b, i, none⟩ = some v := by
    intro b i v hv
    have hbd : b ≠ d := by
      rintro rfl
      obtain ⟨o1, h1, h2⟩ := cells_of_cell hv
      simp only at h1
      rw [hd] at h1; cases h1; rw [ho] at h2; cases h2
    rw [World.cell?_of_block (w := w) (a := ⟨b, i, none⟩) (World.putObj_heap_other hbd)]; exact hv
  refine ⟨by simp, fun b c e f hb => ⟨c, ?_, rfl⟩, fun b i v _ hv => hcell b i v hv, fun _ _ h => h, fun _ _ h => .inl h, fun b i h => by simpa using hS b i h⟩
  have hbd : b ≠ d := by rintro rfl; rw [hd] at hb; cases hb; cases ho
  rw [World.putObj_heap_other hbd]; exact hb

theorem Rel.putObj (h : Rel S X yv w m A hp hv) {d : Nat} {o o' : Obj} (hd : w.heap[d]? = some o) (ho : o.isCells = false) : Rel S X yv (w.putObj d o') m A hp hv :=
  h.still0 (Z := fun _ _ => False) (tr0_putObj hd ho fun b i hs => h.lt b i (.inl hs)) (fun _ _ _ _ _ _ _ h => h) (fun _ _ _ _ _ h => h) (fun _ _ h => .inl h)

/-- a run of an activation: it keeps away from X (V: what yields may turn) -/
structure Went (L : Nat → Prop) (S X V : Pr) (w : World) (S' X' V' : Pr) (w' : World) : Prop where
  tr : Tr (fun b i => ¬ X b i ∨ V b i) L S w S' w'
  xs : ∀ b i, X b i → X' b i
  vs : ∀ b i, V' b i → V b i ∨ w.heap.size ≤ b

theorem Went.refl {V : Pr} (hS : ∀ b i, S b i → b < w.heap.size) : Went L S X V w S X V w := ⟨Tr.refl _ _ hS, fun _ _ h => h, fun _ _ h => .inl h⟩

theorem Went.trans {V V' V'' X'' : Pr} (h : Went L S X V w S' X' V' w') (k : Went L S' X' V' w' S'' X'' V'' w'') : Went L S X V w S'' X'' V'' w'' :=
  ⟨h.tr.trans k.tr (fun b i hb hz => hz.elim (fun h1 => .inl fun h2 => h1 (h.xs b i h2)) fun h1 => (h.vs b i h1).elim .inr fun h2 => absurd h2 (by omega)) (fun _ _ h => h),
   fun b i hx => k.xs b i (h.xs b i hx), fun b i hv => (k.vs b i hv).elim (h.vs b i) fun h1 => .inr (Nat.le_trans h.tr.size h1)⟩

theorem Gs.went {V : Pr} (h : Gs S X none w m S' w' m') (hlt : ∀ b i, S' b i → b < w'.heap.size) : Went L S X V w S' X V w' :=
  ⟨(h.tr hlt).mono (fun _ _ h => .inl h) (fun _ h => h.elim), fun _ _ h => h, fun _ _ h => .inl h⟩

/-- fewer cells to keep away from -/
theorem Rel.lessX (h : Rel S X yv w m A hp hv) (hX : ∀ b i, X' b i → X b i) : Rel S X' yv w m A hp hv :=
  ⟨fun b i hbi => h.lt b i (hbi.imp id (hX b i)), h.rv, h.pw, h.nm, fun p hp b hb => ⟨fun i hx => (h.sp p hp b hb).1 i (hX b i hx), (h.sp p hp b hb).2⟩, h.mnd, h.ml, h.hl,
   fun g blk p vs h1 h2 h3 => let ⟨a1, a2, a3, a4, a5, a6, a9, a10⟩ := h.bl g blk p vs h1 h2 h3; ⟨a1, a2, a3, a4, a5, a6, fun hf i => ⟨(a9 hf i).1, fun hx => (a9 hf i).2 (hX _ _ hx)⟩, a10⟩⟩

end
end Go.Proofs.Ytgdeoaiakdkhcaa.Am
