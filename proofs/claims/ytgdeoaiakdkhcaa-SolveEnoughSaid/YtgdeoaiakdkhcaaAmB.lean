/- What turns a tie between an abstract state and a world into the next one. -/
import Derived.Test.YtgdeoaiakdkhcaaAmA
namespace Go.Proofs.Ytgdeoaiakdkhcaa.Am
set_option linter.unusedVariables false
open Go Go.RowKit

section
variable {S S' X : Pr} {yv : Option Nat} {w w' : World} {m : List MB} {A B : List (AV × Value)} {hp : List Blk} {hv : List (List Value)}

theorem keep_of_below (h : Below w.heap.size w w') : Keep yv w w' := by
  refine ⟨h.os, h.tape, h.output, h.size, fun b c e f hb => ⟨c, ?_, rfl⟩, fun b o hb _ _ => ?_⟩
  · rw [h.block b (Array.getElem?_eq_some_iff.1 hb).1]; exact hb
  · rw [h.block b (Array.getElem?_eq_some_iff.1 hb).1]; exact hb

theorem agree_of_below (h : Below w.heap.size w w') (X : Pr) : Agree X yv w w' :=
  ⟨keep_of_below h, fun b i v _ hv => by rw [h.cell (World.block_lt_of_cell? w ⟨b, i, none⟩ hv)]; exact hv⟩

/-- the cells that may be read grow by new ones alone -/
def SStep (S X S' : Pr) (w w' : World) : Prop := (∀ b i, S b i → S' b i) ∧ (∀ b i, S' b i → S b i ∨ (w.heap.size ≤ b ∧ b < w'.heap.size))

theorem Rel.below (h : Rel S X yv w m A hp hv) (hb : Below w.heap.size w w') (hS : ∀ b i, S b i → S' b i) (hS' : ∀ b i, S' b i → S b i ∨ (w.heap.size ≤ b ∧ b < w'.heap.size)) :
    Rel S' X yv w' m A hp hv := by
  have hown : ∀ p ∈ A, ∀ b, ownB p = some b → b < w.heap.size := by
    intro p hp b hb'
    have := h.rv p hp
    obtain ⟨x, v⟩ := p
    cases this <;> simp only [ownB] at hb' <;> try (cases hb')
    rename_i ho
    obtain ⟨cur, h1, _⟩ := ho
    exact (Array.getElem?_eq_some_iff.1 h1).1
  refine ⟨?_, fun p hp => (h.rv p hp).ext hS (agree_of_below hb _), h.pw, h.nm, ?_, h.mnd, h.ml, h.hl, ?_⟩
  · intro b i hbi
    rcases hbi with h1 | h1
    · rcases hS' b i h1 with h2 | ⟨_, h2⟩
      · exact Nat.lt_of_lt_of_le (h.lt b i (.inl h2)) hb.size
      · exact h2
    · exact Nat.lt_of_lt_of_le (h.lt b i (.inr h1)) hb.size
  · intro p hp b hb'
    refine ⟨(h.sp p hp b hb').1, fun i hi hs => ?_⟩
    rcases hS' b i hs with h2 | ⟨h2, _⟩
    · exact (h.sp p hp b hb').2 i hi h2
    · exact absurd (hown p hp b hb') (by omega)
  · intro g blk p vs h1 h2 h3
    obtain ⟨a1, a2, a3, a4, a5, ⟨cur, e, a6, a7, a8⟩, a9, a10⟩ := h.bl g blk p vs h1 h2 h3
    have hlt : p.b < w.heap.size := (Array.getElem?_eq_some_iff.1 a6).1
    refine ⟨a1, a2, a3, a4, a5, ⟨cur, e, by rw [hb.block _ hlt]; exact a6, a7, a8⟩, fun hf i => ⟨fun hs => ?_, (a9 hf i).2⟩, fun hf i hi => hS _ _ (a10 hf i hi)⟩
    rcases hS' _ _ hs with h4 | ⟨h4, _⟩
    · exact (a9 hf i).1 h4
    · omega

theorem Rel.perm (h : Rel S X yv w m A hp hv) (hp' : A.Perm B) : Rel S X yv w m B hp hv :=
  ⟨h.lt, fun p hq => h.rv p (hp'.mem_iff.2 hq), hp'.pairwise h.pw (fun hpq => hpq.symm), fun p hq => h.nm p (hp'.mem_iff.2 hq), fun p hq => h.sp p (hp'.mem_iff.2 hq), h.mnd, h.ml, h.hl, h.bl⟩

theorem Rel.sub (h : Rel S X yv w m A hp hv) (hs : B.Sublist A) : Rel S X yv w m B hp hv :=
  ⟨h.lt, fun p hq => h.rv p (hs.subset hq), h.pw.sublist hs, fun p hq => h.nm p (hs.subset hq), fun p hq => h.sp p (hs.subset hq), h.mnd, h.ml, h.hl, h.bl⟩

theorem Rel.cons (h : Rel S X yv w m A hp hv) {x : AV} {v : Value} (hr : RV S w m yv x v) (ho : ownB (x, v) = none) : Rel S X yv w m ((x, v) :: A) hp hv := by
  refine ⟨h.lt, ?_, ?_, ?_, ?_, h.mnd, h.ml, h.hl, h.bl⟩
  · intro p hq
    rcases List.mem_cons.1 hq with rfl | hq
    · exact hr
    · exact h.rv p hq
  · exact List.pairwise_cons.2 ⟨fun q _ b hb => (by rw [ho] at hb; cases hb), h.pw⟩
  · intro p hq b hb
    rcases List.mem_cons.1 hq with rfl | hq
    · rw [ho] at hb; cases hb
    · exact h.nm p hq b hb
  · intro p hq b hb
    rcases List.mem_cons.1 hq with rfl | hq
    · rw [ho] at hb; cases hb
    · exact h.sp p hq b hb

/-- a fresh accumulator -/
theorem Rel.consOwn (h : Rel S X yv w m A hp hv) {x : AV} {v : Value} {b : Nat} (hr : RV S w m yv x v) (ho : ownB (x, v) = some b)
    (hf : ∀ p ∈ A, ownB p ≠ some b) (hm : ∀ q ∈ m, q.b ≠ b) (hX : ∀ i, ¬ X b i) (hS : ∀ i, ownLen x ≤ i → ¬ S b i) : Rel S X yv w m ((x, v) :: A) hp hv := by
  refine ⟨h.lt, ?_, ?_, ?_, ?_, h.mnd, h.ml, h.hl, h.bl⟩
  · intro p hq
    rcases List.mem_cons.1 hq with rfl | hq
    · exact hr
    · exact h.rv p hq
  · refine List.pairwise_cons.2 ⟨fun q hq b' hb => ?_, h.pw⟩
    rw [ho] at hb; cases hb; exact hf q hq
  · intro p hq b' hb
    rcases List.mem_cons.1 hq with rfl | hq
    · rw [ho] at hb; cases hb; exact hm
    · exact h.nm p hq b' hb
  · intro p hq b' hb
    rcases List.mem_cons.1 hq with rfl | hq
    · rw [ho] at hb; cases hb; exact ⟨hX, hS⟩
    · exact h.sp p hq b' hb

/-- the head loses the right to its room -/
theorem Rel.viewHead {x : AV} {v : Value} (h : Rel S X yv w m ((x, v) :: A) hp hv) : Rel S X yv w m ((x.view, v) :: A) hp hv :=
  (h.sub (List.sublist_cons_self _ _)).cons (h.rv (x, v) (by simp)).view (ownB_view x v)

/-- a second reading of a pair, without its right -/
theorem Rel.copy (h : Rel S X yv w m A hp hv) {x : AV} {v : Value} (hq : (x, v) ∈ A) : Rel S X yv w m ((x.view, v) :: A) hp hv :=
  h.cons (h.rv (x, v) hq).view (ownB_view x v)

theorem perm_set {α : Type} (l : List α) (d : Nat) (y : α) (hd : d < l.length) : (y :: l.eraseIdx d).Perm (l.set d y) := by
  induction l generalizing d with
  | nil => simp at hd
  | cons a l ih =>
    cases d with
    | zero => simp
    | succ d =>
      simp only [List.eraseIdx_cons_succ, List.set_cons_succ]
      exact (List.Perm.swap a y _).trans ((ih d (by simpa using hd)).cons a)

/-- the head is laid into a place of the list; what lay there is dropped -/
theorem Rel.put {p : AV × Value} (h : Rel S X yv w m (p :: A) hp hv) (d : Nat) : Rel S X yv w m (A.set d p) hp hv := by
  by_cases hd : d < A.length
  · exact (h.sub ((List.eraseIdx_sublist A d).cons_cons p)).perm (perm_set A d p hd)
  · rw [List.set_eq_of_length_le (by omega)]
    exact h.sub (List.sublist_cons_self _ _)

/-- the cells' pairs of one block, apart from the others' -/
theorem cellPairs_split {g : Nat} {blk : Blk} {vs : List Value} (h1 : hp[g]? = some blk) (h2 : hv[g]? = some vs) :
    ∃ pre post, cellPairs hp hv = pre ++ (blk.cells.zip vs) ++ post ∧ ∀ (blk' : Blk) (vs' : List Value), cellPairs (hp.set g blk') (hv.set g vs') = pre ++ (blk'.cells.zip vs') ++ post := by
  unfold cellPairs
  induction g generalizing hp hv with
  | zero =>
    cases hp with
    | nil => simp at h1
    | cons b0 hp => cases hv with
      | nil => simp at h2
      | cons v0 hv =>
        simp only [List.getElem?_cons_zero, Option.some.injEq] at h1 h2
        subst h1; subst h2
        exact ⟨[], (hp.zip hv).flatMap fun p => p.1.cells.zip p.2, by simp, fun blk' vs' => by simp⟩
  | succ g ih =>
    cases hp with
    | nil => simp at h1
    | cons b0 hp => cases hv with
      | nil => simp at h2
      | cons v0 hv =>
        simp only [List.getElem?_cons_succ] at h1 h2
        obtain ⟨pre, post, h3, h4⟩ := ih h1 h2
        refine ⟨b0.cells.zip v0 ++ pre, post, by simp [h3], fun blk' vs' => ?_⟩
        have := h4 blk' vs'
        simp [this]

theorem cellPairs_push (hl : hv.length = hp.length) (blk : Blk) (vs : List Value) : cellPairs (hp ++ [blk]) (hv ++ [vs]) = cellPairs hp hv ++ blk.cells.zip vs := by
  unfold cellPairs
  rw [List.zip_append hl.symm]
  simp

/-- a new block, filled with pairs -/
theorem Rel.newBlock (h : Rel S X yv w m (A ++ (B ++ cellPairs hp hv)) hp hv) (xs : List AV) (vs : List Value) (hA : A = xs.zip vs) (hxl : xs.length = vs.length) (e : TypeId)
    (h1 : ∀ v ∈ vs, v.oneCell' = true) (fro : Bool) (hfr : fro = false) :
    Rel S X yv (w.alloc (.cells vs.toArray e)) (m ++ [⟨w.heap.size, xs.length, false, 0⟩]) (B ++ cellPairs (hp ++ [⟨xs, fro, false, 0⟩]) (hv ++ [vs])) (hp ++ [⟨xs, fro, false, 0⟩]) (hv ++ [vs]) := by
  subst hfr
  have hb : Below w.heap.size w (w.alloc (.cells vs.toArray e)) := (Below.refl _ _).alloc (Nat.le_refl _) _
  have h0 := h.below (S' := S) hb (fun _ _ h => h) (fun _ _ h => .inl h)
  have hmlt : ∀ q ∈ m, q.b < w.heap.size := by
    intro q hq
    obtain ⟨g, hg⟩ := List.mem_iff_getElem?.1 hq
    have hgl : g < m.length := (List.getElem?_eq_some_iff.1 hg).1
    have e1 : g < hp.length := by rw [← h.ml]; exact hgl
    have e2 : g < hv.length := by rw [h.hl]; exact e1
    obtain ⟨_, _, _, _, _, ⟨cur, e', h6, _⟩, _⟩ := h.bl g hp[g] q hv[g] (by simp [e1]) hg (by simp [e2])
    exact (Array.getElem?_eq_some_iff.1 h6).1
  have hownlt : ∀ p ∈ A ++ (B ++ cellPairs hp hv), ∀ b, ownB p = some b → b < w.heap.size := by
    intro p hp b hb'
    have := h.rv p hp
    obtain ⟨x, v⟩ := p
    cases this <;> simp only [ownB] at hb' <;> try (cases hb')
    rename_i ho
    obtain ⟨cur, h1, _⟩ := ho
    exact (Array.getElem?_eq_some_iff.1 h1).1
  have hperm : (A ++ (B ++ cellPairs hp hv)).Perm (B ++ cellPairs (hp ++ [⟨xs, false, false, 0⟩]) (hv ++ [vs])) := by
    rw [cellPairs_push h.hl, ← List.append_assoc B, hA]
    exact List.perm_append_comm
  have h2 := h0.perm hperm
  refine ⟨h2.lt, fun p hp => (h2.rv p hp).blocks (MStep.push _ _), h2.pw, ?_, h2.sp, ?_, by simp [h.ml], by simp [h.hl], ?_⟩
  · intro p hp b hbo x hx
    rcases List.mem_append.1 hx with hx | hx
    · exact h2.nm p hp b hbo x hx
    · simp only [List.mem_singleton] at hx; subst hx
      have := hownlt p (hperm.mem_iff.2 hp) b hbo
      simp only; omega
  · rw [List.map_append, List.nodup_append]
    refine ⟨h.mnd, by simp, fun a ha b hb' => ?_⟩
    simp only [List.map_cons, List.map_nil, List.mem_singleton] at hb'
    subst hb'
    obtain ⟨q, hq, rfl⟩ := List.mem_map.1 ha
    have := hmlt q hq
    omega
  · intro g blk p vs' g1 g2 g3
    by_cases hg : g < hp.length
    · rw [List.getElem?_append_left hg] at g1
      rw [List.getElem?_append_left (by rw [h.ml]; exact hg)] at g2
      rw [List.getElem?_append_left (by rw [h.hl]; exact hg)] at g3
      exact h2.bl g blk p vs' g1 g2 g3
    · obtain rfl : g = hp.length := by
        have := (List.getElem?_eq_some_iff.1 g1).1
        simp at this; omega
      rw [List.getElem?_append_right (Nat.le_refl _)] at g1
      rw [List.getElem?_append_right (by rw [h.ml]; exact Nat.le_refl _)] at g2
      rw [List.getElem?_append_right (by rw [h.hl]; exact Nat.le_refl _)] at g3
      simp [h.ml, h.hl] at g1 g2 g3
      subst g1; subst g2; subst g3
      refine ⟨rfl, rfl, rfl, hxl.symm, h1, ⟨vs.toArray, e, Array.getElem?_push_size, by simp [hxl], by simp [hxl]⟩, fun _ i => ⟨fun hs => ?_, fun hx => ?_⟩, fun hf => by cases hf⟩
      · have := h.lt _ _ (.inl hs); simp at this
      · have := h.lt _ _ (.inr hx); simp at this

end
end Go.Proofs.Ytgdeoaiakdkhcaa.Am
