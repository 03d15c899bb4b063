/- Writing into a block of the activation's own; blocks that turn no more. -/
import Derived.Test.YtgdeoaiakdkhcaaAmB
namespace Go.Proofs.Ytgdeoaiakdkhcaa.Am
set_option linter.unusedVariables false
open Go Go.RowKit

section
variable {S S' X : Pr} {yv : Option Nat} {w w' : World} {m : List MB} {A B : List (AV × Value)} {hp : List Blk} {hv : List (List Value)}

theorem keep_setRow {g : Nat} {cur cs : Array Value} {e : TypeId} {f : Nat × Nat} (hg : w.heap[g]? = some (.cells cur e f)) (hs : cs.size = cur.size) : Keep yv w (w.setRow g cs) := by
  refine ⟨rfl, rfl, rfl, by simp, fun b c e' f' hb => ?_, fun b o hb ho _ => ?_⟩
  · by_cases hbg : b = g
    · subst hbg
      rw [hg] at hb; cases hb
      exact ⟨cs, setRow_heap w b cur cs e f hg, hs⟩
    · exact ⟨c, by rw [setRow_other w g b cs hbg]; exact hb, rfl⟩
  · by_cases hbg : b = g
    · subst hbg; rw [hg] at hb; cases hb; cases ho
    · rw [setRow_other w g b cs hbg]; exact hb

theorem agree_setRow {g : Nat} {cur cs : Array Value} {e : TypeId} {f : Nat × Nat} (hg : w.heap[g]? = some (.cells cur e f)) (hs : cs.size = cur.size) (hX : ∀ i, ¬ X g i) : Agree X yv w (w.setRow g cs) :=
  ⟨keep_setRow hg hs, fun b i v hx hv => by
    have hbg : b ≠ g := fun h => hX i (h ▸ hx)
    rw [World.cell?_of_block (w := w) (a := ⟨b, i, none⟩) (setRow_other w g b cs hbg)]; exact hv⟩

theorem set_take_drop {α : Type} (l us : List α) (off : Nat) (h : off + us.length ≤ l.length) : (l.take off ++ us ++ l.drop (off + us.length)).length = l.length := by
  simp; omega

theorem take_splice {α : Type} (l us : List α) (off n : Nat) (h : off + us.length ≤ n) (hn : n ≤ l.length) :
    (l.take off ++ us ++ l.drop (off + us.length)).take n = (l.take n).take off ++ us ++ (l.take n).drop (off + us.length) := by
  have c1 : (List.take off l).length = off := by simp; omega
  have c2 : (List.take off l ++ us).length = off + us.length := by simp; omega
  have e1 : min n off = off := by omega
  have e2 : min off n = off := by omega
  rw [List.take_append, List.take_append, c1, c2]
  simp only [List.take_take, List.drop_take, e1, e2]
  rw [List.take_of_length_le (l := us) (by omega)]

theorem MB_ne {g g' : Nat} {p p' : MB} (hnd : (m.map (·.b)).Nodup) (e2 : m[g']? = some p') (hm : m[g]? = some p) (hgg : g' ≠ g) : p'.b ≠ p.b := by
  intro heq
  have i1 := (List.getElem?_eq_some_iff.1 e2).1
  have i2 := (List.getElem?_eq_some_iff.1 hm).1
  refine hgg ((List.getElem_inj (xs := m.map (·.b)) (i := g') (j := g) (h₀ := by simpa using i1) (h₁ := by simpa using i2) hnd).1 ?_)
  simp only [List.getElem_map]
  rw [(List.getElem?_eq_some_iff.1 e2).2, (List.getElem?_eq_some_iff.1 hm).2]; exact heq

/-- pairs are laid into a block of the activation's own, from a place on -/
theorem Rel.storeBlock {xs : List AV} {us : List Value} {g off : Nat} {blk : Blk} {p : MB} {vs : List Value} {cur : Array Value} {e : TypeId}
    (h : Rel S X yv w m (xs.zip us ++ (B ++ cellPairs hp hv)) hp hv) (hl : xs.length = us.length) (h1 : ∀ u ∈ us, u.oneCell' = true)
    (hg : hp[g]? = some blk) (hm : m[g]? = some p) (hvs : hv[g]? = some vs) (hf : blk.fro = false) (hoff : off + us.length ≤ blk.cells.length)
    (hcur : w.heap[p.b]? = some (.cells cur e (0, 0))) :
    Rel S X yv (w.setRow p.b (cur.toList.take off ++ us ++ cur.toList.drop (off + us.length)).toArray) m
      (B ++ cellPairs (hp.set g { blk with cells := blk.cells.take off ++ xs ++ blk.cells.drop (off + us.length) }) (hv.set g (vs.take off ++ us ++ vs.drop (off + us.length))))
      (hp.set g { blk with cells := blk.cells.take off ++ xs ++ blk.cells.drop (off + us.length) }) (hv.set g (vs.take off ++ us ++ vs.drop (off + us.length))) ∧
    Agree (fun b i => S b i ∨ X b i) none w (w.setRow p.b (cur.toList.take off ++ us ++ cur.toList.drop (off + us.length)).toArray) := by
  obtain ⟨a1, a2, a3, a4, a5, ⟨cur', e', a6, a7, a8⟩, a9, a10⟩ := h.bl g blk p vs hg hm hvs
  rw [hcur] at a6; cases a6
  have hsz : (cur.toList.take off ++ us ++ cur.toList.drop (off + us.length)).toArray.size = cur.size := by
    have := set_take_drop cur.toList us off (by simp; omega)
    simpa using this
  have hnS := fun i => (a9 hf i).1
  have hnX := fun i => (a9 hf i).2
  have hagree : Agree (fun b i => S b i ∨ X b i) none w (w.setRow p.b (cur.toList.take off ++ us ++ cur.toList.drop (off + us.length)).toArray) :=
    agree_setRow hcur hsz (fun i hi => hi.elim (hnS i) (hnX i))
  refine ⟨?_, hagree⟩
  have hlt' : vs.length = blk.cells.length := by omega
  obtain ⟨pre, post, hc1, hc2⟩ := cellPairs_split (hp := hp) (hv := hv) hg hvs
  -- the pairs, put in order
  have hz : (blk.cells.take off ++ xs ++ blk.cells.drop (off + us.length)).zip (vs.take off ++ us ++ vs.drop (off + us.length)) =
      ((blk.cells.zip vs).take off) ++ xs.zip us ++ (blk.cells.zip vs).drop (off + us.length) := by
    rw [List.zip_append (by simp; omega), List.zip_append (by simp; omega)]
    simp [List.zip, List.take_zipWith, List.drop_zipWith]
  have hcells : (blk.cells.zip vs).length = blk.cells.length := by simp; omega
  have hnew := hc2 { blk with cells := blk.cells.take off ++ xs ++ blk.cells.drop (off + us.length) } (vs.take off ++ us ++ vs.drop (off + us.length))
  simp only [hz] at hnew
  have hsub : (xs.zip us ++ (B ++ (pre ++ ((blk.cells.zip vs).take off ++ (blk.cells.zip vs).drop (off + us.length)) ++ post))).Sublist (xs.zip us ++ (B ++ cellPairs hp hv)) := by
    rw [hc1]
    refine List.Sublist.append (List.Sublist.refl _) (List.Sublist.append (List.Sublist.refl _) (List.Sublist.append (List.Sublist.append (List.Sublist.refl _) ?_) (List.Sublist.refl _)))
    conv => rhs; rw [← List.take_append_drop off (blk.cells.zip vs)]
    refine List.Sublist.append (List.Sublist.refl _) ?_
    rw [← List.drop_drop]
    exact List.drop_sublist _ _
  have hperm : (xs.zip us ++ (B ++ (pre ++ ((blk.cells.zip vs).take off ++ (blk.cells.zip vs).drop (off + us.length)) ++ post))).Perm
      (B ++ cellPairs (hp.set g { blk with cells := blk.cells.take off ++ xs ++ blk.cells.drop (off + us.length) }) (hv.set g (vs.take off ++ us ++ vs.drop (off + us.length)))) := by
    rw [hnew]
    refine (List.perm_append_comm_assoc _ _ _).trans (List.Perm.append_left B ?_)
    simp only [List.append_assoc]
    refine (List.perm_append_comm_assoc _ _ _).trans (List.Perm.append_left pre ?_)
    refine (List.perm_append_comm_assoc _ _ _).trans (List.Perm.append_left _ ?_)
    exact List.Perm.refl _
  have h2 := (h.sub hsub).perm hperm
  have hS' : ∀ b i, S b i → S b i := fun _ _ h => h
  have hAg : Agree S yv w (w.setRow p.b (cur.toList.take off ++ us ++ cur.toList.drop (off + us.length)).toArray) := (hagree.mono (fun _ _ h => .inl h)).weaken
  refine ⟨fun b i hbi => by simpa using h2.lt b i hbi, fun q hq => (h2.rv q hq).ext hS' hAg, h2.pw, h2.nm, h2.sp, h2.mnd, by simp [h2.ml], by simp [h.hl], ?_⟩
  intro g' blk' p' vs' e1 e2 e3
  by_cases hgg : g' = g
  · subst hgg
    have hgl := (List.getElem?_eq_some_iff.1 hg).1
    have hvl := (List.getElem?_eq_some_iff.1 hvs).1
    rw [List.getElem?_set_self hgl] at e1
    rw [List.getElem?_set_self hvl] at e3
    rw [hm] at e2
    cases e1; cases e2; cases e3
    refine ⟨by simp only [a1]; rw [← hl] at hoff ⊢; exact (set_take_drop blk.cells xs off hoff).symm, a2, a3, by rw [set_take_drop vs us off (by omega)]; exact a4, ?_, ?_, fun _ i => ⟨hnS i, hnX i⟩, fun hc => by rw [hf] at hc; cases hc⟩
    · intro v hv'
      simp only [List.mem_append] at hv'
      rcases hv' with (hv' | hv') | hv'
      · exact a5 v (List.mem_of_mem_take hv')
      · exact h1 v hv'
      · exact a5 v (List.mem_of_mem_drop hv')
    · refine ⟨_, e, setRow_heap w p.b cur _ e (0, 0) hcur, ?_, by rw [hsz]; exact a8⟩
      rw [← a7]
      exact take_splice cur.toList us off p.len (by omega) (by simpa using a8)
  · rw [List.getElem?_set_ne (Ne.symm hgg)] at e1 e3
    obtain ⟨b1, b2, b3, b4, b5, ⟨cur2, e2', b6, b7, b8⟩, b9, b10⟩ := h.bl g' blk' p' vs' e1 e2 e3
    have hne : p'.b ≠ p.b := MB_ne h.mnd e2 hm hgg
    exact ⟨b1, b2, b3, b4, b5, ⟨cur2, e2', by rw [setRow_other _ _ _ _ hne]; exact b6, b7, b8⟩, b9, b10⟩

/-- a block turns no more: its cells may be read as data from now on -/
theorem Rel.freeze (h : Rel S X yv w m A hp hv) {g : Nat} {blk : Blk} {p : MB} (hg : hp[g]? = some blk) (hm : m[g]? = some p) :
    Rel (fun b i => S b i ∨ (b = p.b ∧ i < p.len)) X yv w m A (hp.set g { blk with fro := true }) hv := by
  have hgl := (List.getElem?_eq_some_iff.1 hg).1
  have hvl : g < hv.length := by rw [h.hl]; exact hgl
  obtain ⟨a1, a2, a3, a4, a5, ⟨cur, e, a6, a7, a8⟩, a9, a10⟩ := h.bl g blk p hv[g] hg hm (by simp [hvl])
  refine ⟨?_, fun q hq => (h.rv q hq).ext (fun _ _ h => .inl h) (Agree.refl _ _ _), h.pw, h.nm, ?_, h.mnd, by simp [h.ml], by simp [h.hl], ?_⟩
  · intro b i hbi
    rcases hbi with (h1 | ⟨rfl, _⟩) | h1
    · exact h.lt b i (.inl h1)
    · exact (Array.getElem?_eq_some_iff.1 a6).1
    · exact h.lt b i (.inr h1)
  · intro q hq b hb
    refine ⟨(h.sp q hq b hb).1, fun i hi hs => ?_⟩
    rcases hs with hs | ⟨rfl, _⟩
    · exact (h.sp q hq b hb).2 i hi hs
    · exact h.nm q hq _ hb p (List.mem_of_getElem? hm) rfl
  · intro g' blk' p' vs' e1 e2 e3
    by_cases hgg : g' = g
    · subst hgg
      rw [List.getElem?_set_self hgl] at e1
      rw [hm] at e2
      cases e1; cases e2
      obtain ⟨b1, b2, b3, b4, b5, b6, b7, b8⟩ := h.bl g' blk p vs' hg hm e3
      exact ⟨b1, b2, b3, b4, b5, b6, (fun hc => by cases hc), fun _ i hi => .inr ⟨rfl, hi⟩⟩
    · rw [List.getElem?_set_ne (Ne.symm hgg)] at e1
      obtain ⟨b1, b2, b3, b4, b5, b6, b7, b8⟩ := h.bl g' blk' p' vs' e1 e2 e3
      refine ⟨b1, b2, b3, b4, b5, b6, fun hf i => ⟨fun hs => ?_, (b7 hf i).2⟩, fun hf i hi => .inl (b8 hf i hi)⟩
      rcases hs with hs | ⟨hs, _⟩
      · exact (b7 hf i).1 hs
      · exact MB_ne h.mnd e2 hm hgg hs


end
end Go.Proofs.Ytgdeoaiakdkhcaa.Am
