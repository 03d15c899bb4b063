/- append; len; tests against nil. -/
import Derived.Test.YtgdeoaiakdkhcaaAmI
namespace Go.Proofs.Ytgdeoaiakdkhcaa.Am
set_option linter.unusedVariables false
open Go Go.RowKit

section
variable {P : Program} {S S' X : Pr} {yv : Option Nat} {w w' : World} {m : List MB} {A B : List (AV × Value)} {hp : List Blk} {hv : List (List Value)}

/-- nothing is appended -/
theorem run_append_zero (w : World) (t e : TypeId) (i : TypeInfo) (ty : TypeId) (ht : P.underlying t = some (.slice e)) (hi : P.info? e = some i) (base b : Option Addr) (n cap c : Nat) (hn : n ≤ cap) :
    (Builtin.append_ #[t, t] ty #[.slice base n cap, .slice b 0 c]).run P w = .ok (.slice base n cap) w := by
  have hf : ∀ b : Option Addr, (Builtin.firstCells i.size 0 (.slice b 0 c)).run P w = .ok #[] w := by
    intro b
    cases b <;> simp [Builtin.firstCells, loadCells, loadCellsFrom]
  cases base <;> simp [Builtin.append_, run_underlying ht, sizeOf, typeInfo, hi, Builtin.lenOf, hn, hf, storeCells]

/-- what an append of rows comes to, the right to the room handed on -/
theorem append_own {t e : TypeId} {i : TypeInfo} {ty : TypeId} {z : Value} (ht : P.underlying t = some (.slice e)) (hi : P.info? e = some i) (hz : i.zero = some z) (hzs : z.cells.size = i.size) (hsz : 0 < i.size) (hby : 0 < i.bytes)
    {xs ys : List (List Dv)} {v u : Value} (h : Rel S X yv w m ((.own e i.size xs, v) :: A) hp hv) (hu : DR S w (.sl i.size ys) u) (hfit : (xs.length + ys.length) * i.bytes ≤ 140737488355328) :
    ∃ v' w' S', (Builtin.append_ #[t, t] ty #[v, u]).run P w = .ok v' w' ∧ Agree (fun b i => S b i ∨ X b i) none w w' ∧ (∀ b i, S b i → S' b i) ∧ (∀ b i, S' b i → S b i ∨ ¬ X b i) ∧
      Rel S' X yv w' m ((.own e i.size (xs ++ ys), v') :: (.d (.sl i.size xs), v) :: A) hp hv := by
  have hrv := h.rv (.own e i.size xs, v) (by simp)
  obtain ⟨ub, uc, news, rfl, huc, hfl, hucell, hunil⟩ := hu.flat
  have hview := h.viewHead
  simp only [AV.view] at hview
  have h63 : xs.length + ys.length ≤ 140737488355328 := Nat.le_trans (Nat.le_mul_of_pos_right _ hby) hfit
  have hml : (140737488355328 : Nat) ≤ maxLen := by decide
  by_cases hy : ys = []
  · subst hy
    have hcap0 : ∃ base cap, v = .slice base xs.length cap ∧ xs.length ≤ cap := by
      have hd : DR S w (.sl i.size xs) v := rows?_spec (x := .own e i.size xs) rfl hrv
      obtain ⟨base, cap, us, rfl, h1, _⟩ := hd.flat
      exact ⟨base, cap, rfl, h1⟩
    obtain ⟨base, cap, rfl, hc⟩ := hcap0
    refine ⟨_, w, S, run_append_zero w t e i ty ht hi base ub xs.length cap uc hc, Agree.refl _ _ _, fun _ _ h => h, fun _ _ h => .inl h, ?_⟩
    simp only [List.append_nil]
    exact (h.copy (x := .own e i.size xs) (v := .slice base xs.length cap) (by simp)).perm (List.Perm.swap _ _ _)
  · have hyl : 0 < ys.length := List.length_pos_iff.2 hy
    obtain ⟨ua, rfl⟩ : ∃ ua, ub = some ua := by
      cases ub with
      | none => exact absurd (hunil rfl).1 hy
      | some ua => exact ⟨ua, rfl⟩
    have hnews : ∀ (j : Nat) (x : Value), news[j]? = some x → w.cell? (ua.add j) = some x := fun j x hx => ((hucell ua rfl).1 j x hx).1
    have hone : ∀ x ∈ news, x.oneCell' = true := hfl.one
    -- a new row
    have grow : ∀ (us : List Value) (old : Nat) , us.length = xs.length * i.size → Flat S w i.size xs us → old < xs.length + ys.length →
        Rel (fun b j => S b j ∨ (b = w.heap.size ∧ j < (xs.length + ys.length) * i.size)) X yv
          (w.drew.alloc (.cells (us.toArray ++ news.toArray ++ Builtin.zeroCells z.cells (grownCap w (xs.length + ys.length) old e - (xs.length + ys.length))) e)) m
          ((.own e i.size (xs ++ ys), .slice (some ⟨w.heap.size, 0, none⟩) (xs.length + ys.length) (grownCap w (xs.length + ys.length) old e)) :: (.d (.sl i.size xs), v) :: A) hp hv := by
      intro us old hul hus hold
      have hge := grownCap_ge w (xs.length + ys.length) old e
      have hcm := grownCap_le_maxLen w (xs.length + ys.length) old e (by omega)
      have hb : Below w.heap.size w (w.drew.alloc (.cells (us.toArray ++ news.toArray ++ Builtin.zeroCells z.cells (grownCap w (xs.length + ys.length) old e - (xs.length + ys.length))) e)) :=
        ((Below.refl _ _).drew).alloc (Nat.le_refl _) _
      have h1 := hview.below (S' := fun b j => S b j ∨ (b = w.heap.size ∧ j < (xs.length + ys.length) * i.size)) hb (fun _ _ h => .inl h)
        (fun b j hbj => hbj.imp id (fun h => by obtain ⟨rfl, _⟩ := h; simp))
      have hflat : Flat (fun b j => S b j ∨ (b = w.heap.size ∧ j < (xs.length + ys.length) * i.size)) (w.drew.alloc (.cells (us.toArray ++ news.toArray ++ Builtin.zeroCells z.cells (grownCap w (xs.length + ys.length) old e - (xs.length + ys.length))) e)) i.size (xs ++ ys) (us ++ news) :=
        (hus.append hfl).ext (fun _ _ h => .inl h) (agree_of_below (yv := yv) hb S).same
      have hcell : ∀ (j : Nat) (x : Value), (us ++ news)[j]? = some x → (w.drew.alloc (.cells (us.toArray ++ news.toArray ++ Builtin.zeroCells z.cells (grownCap w (xs.length + ys.length) old e - (xs.length + ys.length))) e)).cell? ⟨w.heap.size, 0 + j, none⟩ = some x ∧
          (S w.heap.size (0 + j) ∨ (w.heap.size = w.heap.size ∧ 0 + j < (xs.length + ys.length) * i.size)) := by
        intro j x hj
        have hjl : j < (us ++ news).length := (List.getElem?_eq_some_iff.1 hj).1
        refine ⟨?_, .inr ⟨rfl, by simp only [List.length_append, hul, hfl.len, ← Nat.add_mul] at hjl; omega⟩⟩
        rw [Nat.zero_add]
        have := World.cell?_alloc_new w.drew (us.toArray ++ news.toArray ++ Builtin.zeroCells z.cells (grownCap w (xs.length + ys.length) old e - (xs.length + ys.length))) e j
        simp only [World.size_drew] at this
        rw [this, Array.getElem?_append_left (by simpa using hjl)]
        simpa using hj
      have hdr := DR.ofFlat (a := ⟨w.heap.size, 0, none⟩) (cap := grownCap w (xs.length + ys.length) old e) hflat hcell (by simpa using hge) (.inl rfl)
      simp only [List.length_append] at hdr
      have hrv' : RV (fun b j => S b j ∨ (b = w.heap.size ∧ j < (xs.length + ys.length) * i.size)) (w.drew.alloc (.cells (us.toArray ++ news.toArray ++ Builtin.zeroCells z.cells (grownCap w (xs.length + ys.length) old e - (xs.length + ys.length))) e)) m yv
          (.own e i.size (xs ++ ys)) (.slice (some ⟨w.heap.size, 0, none⟩) (xs.length + ys.length) (grownCap w (xs.length + ys.length) old e)) := by
        have := RV.own (m := m) (yv := yv) (e := e) (k := i.size) (xs := xs ++ ys) (g := w.heap.size) (cap := grownCap w (xs.length + ys.length) old e) (by simpa using hdr)
          ⟨_, heap_alloc_new w.drew _, hcm, by simp [size_zeroCells, hzs, hul, hfl.len, ← Nat.add_mul]; congr 1; omega⟩
        simpa using this
      refine h1.consOwn hrv' rfl (fun p hp hpb => ?_) (fun q hq hqb => ?_) (fun j hx => ?_) (fun j hj hs => ?_)
      · have := h1.rv p hp
        obtain ⟨x, v⟩ := p
        have hlt : w.heap.size < w.heap.size := by
          have hrp := hview.rv (x, v) hp
          cases hrp <;> simp only [ownB] at hpb <;> try (cases hpb)
          rename_i ho
          obtain ⟨cur, g1, _⟩ := ho
          exact (Array.getElem?_eq_some_iff.1 g1).1
        omega
      · obtain ⟨g, hg⟩ := List.mem_iff_getElem?.1 hq
        obtain ⟨blk, vs, cur, e', _, _, _, _, _, _, _, g6, _⟩ := h.block hg
        have := (Array.getElem?_eq_some_iff.1 g6).1
        have hqb' : q.b = w.heap.size := hqb
        omega
      · have := h.lt w.heap.size j (.inr hx); omega
      · rcases hs with hs | ⟨_, hs⟩
        · have := h.lt w.heap.size j (.inl hs); omega
        · simp only [ownLen, List.length_append] at hj; omega
    have hSX : ∀ b j, (S b j ∨ (b = w.heap.size ∧ j < (xs.length + ys.length) * i.size)) → S b j ∨ ¬ X b j := by
      intro b j hbj
      rcases hbj with hs | ⟨rfl, _⟩
      · exact .inl hs
      · exact .inr fun hx => by have := h.lt _ _ (.inr hx); omega
    cases hrv with
    | ownNil =>
      simp only [List.length_nil, Nat.zero_add] at hfit h63
      have hr := run_append_nil (P := P) w t ty e i z ht hi hz ua ys.length uc news hfl.len hnews hyl (by omega) (by omega)
      have hg := grow [] 0 (by simp) ⟨by simp, by simp, by simp, by simp⟩ (by simpa using hyl)
      simp only [List.length_nil, Nat.zero_add, List.nil_append] at hg hr ⊢
      have e0 : (([] : List Value).toArray ++ news.toArray) = news.toArray := by simp
      rw [e0] at hg
      refine ⟨_, _, _, hr, agree_of_below (((Below.refl _ _).drew).alloc (Nat.le_refl _) _) _, fun _ _ h => .inl h, ?_, hg⟩
      simpa using hSX
    | own hd ho =>
      rename_i g cap
      obtain ⟨cur, ho1, ho2, ho3⟩ := ho
      obtain ⟨base, cap', us, hv1, hc1, hflx, hcx, _⟩ := hd.flat
      cases hv1
      have husc := (hcx ⟨g, 0, none⟩ rfl).1
      have hus : cur.toList.take (xs.length * i.size) = us := by
        apply List.ext_getElem?
        intro j
        by_cases hj : j < us.length
        · have := (husc j us[j] (by simp [hj])).1
          rw [add_lit] at this
          simp only [World.cell?, ho1, Nat.zero_add] at this
          rw [List.getElem?_take_of_lt (by rw [← hflx.len]; exact hj), List.getElem?_eq_getElem hj]
          simpa using this
        · rw [List.getElem?_eq_none (by simp [← hflx.len]; omega), List.getElem?_eq_none (by omega)]
      by_cases hroom : xs.length + ys.length ≤ cap
      · have hfitc : xs.length * i.size + news.length ≤ cur.size := by rw [hfl.len, ho3, ← Nat.add_mul]; exact Nat.mul_le_mul_right _ hroom
        have hr := run_append_room (P := P) w t ty e i ht hi g xs.length cap cur ho1 ua ys.length uc news hfl.len hnews hone hroom hfitc
        obtain ⟨hspX, hspS⟩ := h.sp (.own e i.size xs, .slice (some ⟨g, 0, none⟩) xs.length cap) (by simp) g rfl
        simp only [ownLen] at hspS
        generalize hcs : (cur.toList.take (xs.length * i.size) ++ news ++ cur.toList.drop (xs.length * i.size + news.length)).toArray = cs at hr
        have hsz' : cs.size = cur.size := by
          rw [← hcs]
          have := set_take_drop cur.toList news (xs.length * i.size) (by simpa using hfitc)
          simpa using this
        have hheap := setRow_heap w g cur cs e (0, 0) ho1
        -- cells of S are as they were
        have hsame : ∀ b j x, S b j → w.cell? ⟨b, j, none⟩ = some x → (w.setRow g cs).cell? ⟨b, j, none⟩ = some x := by
          intro b j x hs hx
          by_cases hbg : b = g
          · subst hbg
            have hj : j < xs.length * i.size := by
              rcases Nat.lt_or_ge j (xs.length * i.size) with h' | h'
              · exact h'
              · exact absurd hs (hspS j h')
            have hj2 : j < us.length := by rw [hflx.len]; exact hj
            simp only [World.cell?, ho1, Option.isSome_none, Bool.false_eq_true, if_false] at hx
            simp only [World.cell?, hheap, Option.isSome_none, Bool.false_eq_true, if_false]
            rw [← hcs, hus]
            simp only [List.append_assoc, List.getElem?_toArray]
            rw [List.getElem?_append_left hj2, ← hus, List.getElem?_take_of_lt hj]
            simpa using hx
          · rw [World.cell?_of_block (w := w) (a := ⟨b, j, none⟩) (setRow_other w g b cs hbg)]; exact hx
        have hkeep : Keep yv w (w.setRow g cs) := keep_setRow ho1 hsz'
        have hAS : Agree S yv w (w.setRow g cs) := ⟨hkeep, hsame⟩
        have hASX : Agree (fun b i => S b i ∨ X b i) none w (w.setRow g cs) := ⟨keep_setRow ho1 hsz', fun b j x hbj hx => by
          rcases hbj with hs | hxx
          · exact hsame b j x hs hx
          · have hbg : b ≠ g := fun hh => hspX j (hh ▸ hxx)
            rw [World.cell?_of_block (w := w) (a := ⟨b, j, none⟩) (setRow_other w g b cs hbg)]; exact hx⟩
        refine ⟨_, _, fun b j => S b j ∨ (b = g ∧ j < (xs.length + ys.length) * i.size), hr, hASX, fun _ _ h => .inl h, ?_, ?_⟩
        · intro b j hbj
          rcases hbj with hs | ⟨rfl, _⟩
          · exact .inl hs
          · exact .inr (hspX j)
        · have hothers : ∀ p ∈ A, ownB p ≠ some g := fun p hp => (List.pairwise_cons.1 h.pw).1 p hp g rfl
          have hbase : Rel (fun b j => S b j ∨ (b = g ∧ j < (xs.length + ys.length) * i.size)) X yv (w.setRow g cs) m ((.d (.sl i.size xs), .slice (some ⟨g, 0, none⟩) xs.length cap) :: A) hp hv := by
            refine ⟨fun b j hbj => ?_, fun p hp => (hview.rv p hp).ext (fun _ _ h => .inl h) hAS, hview.pw, hview.nm, fun p hp b hb => ⟨(hview.sp p hp b hb).1, fun j hj hs => ?_⟩, hview.mnd, hview.ml, hview.hl, ?_⟩
            · have hszw : (w.setRow g cs).heap.size = w.heap.size := by simp
              rw [hszw]
              rcases hbj with (hs | ⟨rfl, _⟩) | hx
              · exact h.lt b j (.inl hs)
              · exact (Array.getElem?_eq_some_iff.1 ho1).1
              · exact h.lt b j (.inr hx)
            · rcases hs with hs | ⟨rfl, _⟩
              · exact (hview.sp p hp b hb).2 j hj hs
              · rcases List.mem_cons.1 hp with rfl | hp'
                · cases hb
                · exact hothers p hp' hb
            · intro g' blk p vs e1 e2 e3
              obtain ⟨b1, b2, b3, b4, b5, ⟨cur2, e2', b6, b7, b8⟩, b9, b10⟩ := h.bl g' blk p vs e1 e2 e3
              have hne : p.b ≠ g := h.nm (.own e i.size xs, .slice (some ⟨g, 0, none⟩) xs.length cap) (by simp) g rfl p (List.mem_of_getElem? e2)
              refine ⟨b1, b2, b3, b4, b5, ⟨cur2, e2', by rw [setRow_other _ _ _ _ hne]; exact b6, b7, b8⟩, fun hf j => ⟨fun hs => ?_, (b9 hf j).2⟩, fun hf j hj => .inl (b10 hf j hj)⟩
              rcases hs with hs | ⟨hs, _⟩
              · exact (b9 hf j).1 hs
              · exact hne hs
          have hflat : Flat (fun b j => S b j ∨ (b = g ∧ j < (xs.length + ys.length) * i.size)) (w.setRow g cs) i.size (xs ++ ys) (us ++ news) :=
            (hflx.append hfl).ext (fun _ _ h => .inl h) hsame
          have hdr := DR.ofFlat (a := ⟨g, 0, none⟩) (cap := cap) hflat (fun j x hj => by
            have hjl : j < (us ++ news).length := (List.getElem?_eq_some_iff.1 hj).1
            refine ⟨?_, .inr ⟨rfl, by simp only [List.length_append, hflx.len, hfl.len, ← Nat.add_mul] at hjl; simp only [Nat.zero_add]; exact hjl⟩⟩
            simp only [World.cell?, hheap, Option.isSome_none, Bool.false_eq_true, if_false, Nat.zero_add]
            rw [← hcs, hus]
            simp only [List.getElem?_toArray]
            rw [List.getElem?_append_left hjl]; exact hj) (by simpa using hroom) (.inl rfl)
          have hrv' : RV (fun b j => S b j ∨ (b = g ∧ j < (xs.length + ys.length) * i.size)) (w.setRow g cs) m yv (.own e i.size (xs ++ ys)) (.slice (some ⟨g, 0, none⟩) (xs.length + ys.length) cap) := by
            have := RV.own (m := m) (yv := yv) (e := e) (k := i.size) (xs := xs ++ ys) (g := g) (cap := cap) hdr ⟨cs, hheap, ho2, hsz'.trans ho3⟩
            simpa using this
          refine hbase.consOwn hrv' rfl (fun p hp => ?_) (fun q hq => h.nm (.own e i.size xs, .slice (some ⟨g, 0, none⟩) xs.length cap) (by simp) g rfl q hq) hspX (fun j hj hs => ?_)
          · rcases List.mem_cons.1 hp with rfl | hp'
            · simp [ownB]
            · exact hothers p hp'
          · simp only [ownLen, List.length_append] at hj
            rcases hs with hs | ⟨_, hs⟩
            · refine hspS j ?_ hs
              rw [Nat.add_mul] at hj; omega
            · omega
      · have hr := run_append_grow (P := P) w t ty e i z ht hi hz ⟨g, 0, none⟩ xs.length cap us hflx.len (fun j x hj => (husc j x hj).1) ua ys.length uc news hfl.len hnews (by omega) (by omega)
          (growslice_fits (by omega) hfit)
        exact ⟨_, _, _, hr, agree_of_below (((Below.refl _ _).drew).alloc (Nat.le_refl _) _) _, fun _ _ h => .inl h, hSX, grow us cap hflx.len hflx (by omega)⟩

/-- a new row behind an append -/
theorem growRel {e : TypeId} {i : TypeInfo} {z : Value} (hzs : z.cells.size = i.size) {xs ys : List (List Dv)} {us news : List Value} (h : Rel S X yv w m A hp hv)
    (hus : Flat S w i.size xs us) (hfl : Flat S w i.size ys news) (h63 : xs.length + ys.length ≤ maxLen) (old : Nat) :
    Rel (fun b j => S b j ∨ (b = w.heap.size ∧ j < (xs.length + ys.length) * i.size)) X yv
      (w.drew.alloc (.cells (us.toArray ++ news.toArray ++ Builtin.zeroCells z.cells (grownCap w (xs.length + ys.length) old e - (xs.length + ys.length))) e)) m
      ((.own e i.size (xs ++ ys), .slice (some ⟨w.heap.size, 0, none⟩) (xs.length + ys.length) (grownCap w (xs.length + ys.length) old e)) :: A) hp hv := by
  have hge := grownCap_ge w (xs.length + ys.length) old e
  have hcm := grownCap_le_maxLen w (xs.length + ys.length) old e (by omega)
  have hul := hus.len
  have hb : Below w.heap.size w (w.drew.alloc (.cells (us.toArray ++ news.toArray ++ Builtin.zeroCells z.cells (grownCap w (xs.length + ys.length) old e - (xs.length + ys.length))) e)) :=
    ((Below.refl _ _).drew).alloc (Nat.le_refl _) _
  have h1 := h.below (S' := fun b j => S b j ∨ (b = w.heap.size ∧ j < (xs.length + ys.length) * i.size)) hb (fun _ _ h => .inl h)
    (fun b j hbj => hbj.imp id (fun h => by obtain ⟨rfl, _⟩ := h; simp))
  have hflat : Flat (fun b j => S b j ∨ (b = w.heap.size ∧ j < (xs.length + ys.length) * i.size)) (w.drew.alloc (.cells (us.toArray ++ news.toArray ++ Builtin.zeroCells z.cells (grownCap w (xs.length + ys.length) old e - (xs.length + ys.length))) e)) i.size (xs ++ ys) (us ++ news) :=
    (hus.append hfl).ext (fun _ _ h => .inl h) (agree_of_below (yv := yv) hb S).same
  have hcell : ∀ (j : Nat) (x : Value), (us ++ news)[j]? = some x → (w.drew.alloc (.cells (us.toArray ++ news.toArray ++ Builtin.zeroCells z.cells (grownCap w (xs.length + ys.length) old e - (xs.length + ys.length))) e)).cell? ⟨w.heap.size, 0 + j, none⟩ = some x ∧
      (S w.heap.size (0 + j) ∨ (w.heap.size = w.heap.size ∧ 0 + j < (xs.length + ys.length) * i.size)) := by
    intro j x hj
    have hjl : j < (us ++ news).length := (List.getElem?_eq_some_iff.1 hj).1
    refine ⟨?_, .inr ⟨rfl, by simp only [List.length_append, hul, hfl.len, ← Nat.add_mul] at hjl; omega⟩⟩
    rw [Nat.zero_add]
    have := World.cell?_alloc_new w.drew (us.toArray ++ news.toArray ++ Builtin.zeroCells z.cells (grownCap w (xs.length + ys.length) old e - (xs.length + ys.length))) e j
    simp only [World.size_drew] at this
    rw [this, Array.getElem?_append_left (by simpa using hjl)]
    simpa using hj
  have hdr := DR.ofFlat (a := ⟨w.heap.size, 0, none⟩) (cap := grownCap w (xs.length + ys.length) old e) hflat hcell (by simpa using hge) (.inl rfl)
  simp only [List.length_append] at hdr
  have hrv' : RV (fun b j => S b j ∨ (b = w.heap.size ∧ j < (xs.length + ys.length) * i.size)) (w.drew.alloc (.cells (us.toArray ++ news.toArray ++ Builtin.zeroCells z.cells (grownCap w (xs.length + ys.length) old e - (xs.length + ys.length))) e)) m yv
      (.own e i.size (xs ++ ys)) (.slice (some ⟨w.heap.size, 0, none⟩) (xs.length + ys.length) (grownCap w (xs.length + ys.length) old e)) := by
    have := RV.own (m := m) (yv := yv) (e := e) (k := i.size) (xs := xs ++ ys) (g := w.heap.size) (cap := grownCap w (xs.length + ys.length) old e) (by simpa using hdr)
      ⟨_, heap_alloc_new w.drew _, hcm, by simp [size_zeroCells, hzs, hul, hfl.len, ← Nat.add_mul]; congr 1; omega⟩
    simpa using this
  refine h1.consOwn hrv' rfl (fun p hp hpb => ?_) (fun q hq hqb => ?_) (fun j hx => ?_) (fun j hj hs => ?_)
  · obtain ⟨x, v⟩ := p
    have hlt : w.heap.size < w.heap.size := by
      have hrp := h.rv (x, v) hp
      cases hrp <;> simp only [ownB] at hpb <;> try (cases hpb)
      rename_i ho
      obtain ⟨cur, g1, _⟩ := ho
      exact (Array.getElem?_eq_some_iff.1 g1).1
    omega
  · obtain ⟨g, hg⟩ := List.mem_iff_getElem?.1 hq
    obtain ⟨blk, vs, cur, e', _, _, _, _, _, _, _, g6, _⟩ := h.block hg
    have := (Array.getElem?_eq_some_iff.1 g6).1
    have hqb' : q.b = w.heap.size := hqb
    omega
  · have := h.lt w.heap.size j (.inr hx); omega
  · rcases hs with hs | ⟨_, hs⟩
    · have := h.lt w.heap.size j (.inl hs); omega
    · simp only [ownLen, List.length_append] at hj; omega

/-- an append to a slice without spare room -/
theorem append_full {t e : TypeId} {i : TypeInfo} {ty : TypeId} {z : Value} (ht : P.underlying t = some (.slice e)) (hi : P.info? e = some i) (hz : i.zero = some z) (hzs : z.cells.size = i.size) (hby : 0 < i.bytes)
    {xs ys : List (List Dv)} {v u : Value} (h : Rel S X yv w m A hp hv) (hr : RV S w m yv (.full i.size xs) v) (hu : DR S w (.sl i.size ys) u) (hfit : (xs.length + ys.length) * i.bytes ≤ 140737488355328) (hy : ys ≠ []) :
    ∃ v' w' S', (Builtin.append_ #[t, t] ty #[v, u]).run P w = .ok v' w' ∧ Below w.heap.size w w' ∧ SStep S X S' w w' ∧ Rel S' X yv w' m ((.own e i.size (xs ++ ys), v') :: A) hp hv := by
  obtain ⟨ub, uc, news, rfl, huc, hfl, hucell, hunil⟩ := hu.flat
  have h63 : xs.length + ys.length ≤ 140737488355328 := Nat.le_trans (Nat.le_mul_of_pos_right _ hby) hfit
  have hml : (140737488355328 : Nat) ≤ maxLen := by decide
  have hyl : 0 < ys.length := List.length_pos_iff.2 hy
  obtain ⟨ua, rfl⟩ : ∃ ua, ub = some ua := by
    cases ub with
    | none => exact absurd (hunil rfl).1 hy
    | some ua => exact ⟨ua, rfl⟩
  have hnews : ∀ (j : Nat) (x : Value), news[j]? = some x → w.cell? (ua.add j) = some x := fun j x hx => ((hucell ua rfl).1 j x hx).1
  have hS' : SStep S X (fun b j => S b j ∨ (b = w.heap.size ∧ j < (xs.length + ys.length) * i.size)) w
      (w.drew.alloc (.cells (([] : List Value).toArray ++ news.toArray) e)) := ⟨fun _ _ h => .inl h, fun b j hbj => hbj.imp id (fun h => by obtain ⟨rfl, _⟩ := h; simp)⟩
  cases hr with
  | full hd =>
    rename_i a
    obtain ⟨base, cap', us, hv1, hc1, hflx, hcx, hnl⟩ := hd.flat
    cases hv1
    cases a with
    | none =>
      obtain ⟨rfl, _⟩ := hnl rfl
      simp only [List.length_nil, Nat.zero_add] at hfit h63
      have hr := run_append_nil (P := P) w t ty e i z ht hi hz ua ys.length uc news hfl.len hnews hyl (by omega) (by omega)
      have hus0 : us = [] := by have := hflx.len; simp at this; exact this
      subst hus0
      have hg := growRel (e := e) (z := z) (w := w) hzs h hflx hfl (by simp; omega) 0
      simp only [List.length_nil, Nat.zero_add, List.nil_append] at hg hr hS' ⊢
      have e0 : (([] : List Value).toArray ++ news.toArray) = news.toArray := by simp
      rw [e0] at hg
      refine ⟨_, _, _, hr, ((Below.refl _ _).drew).alloc (Nat.le_refl _) _, ?_, hg⟩
      exact ⟨fun _ _ h => .inl h, fun b j hbj => hbj.imp id (fun h => by obtain ⟨rfl, _⟩ := h; simp)⟩
    | some a =>
      have hr := run_append_grow (P := P) w t ty e i z ht hi hz a xs.length xs.length us hflx.len (fun j x hj => ((hcx a rfl).1 j x hj).1) ua ys.length uc news hfl.len hnews (by omega) (by omega)
        (growslice_fits (by omega) hfit)
      have hg := growRel (e := e) (z := z) (w := w) hzs h hflx hfl (by omega) xs.length
      refine ⟨_, _, _, hr, ((Below.refl _ _).drew).alloc (Nat.le_refl _) _, ?_, hg⟩
      exact ⟨fun _ _ h => .inl h, fun b j hbj => hbj.imp id (fun h => by obtain ⟨rfl, _⟩ := h; simp)⟩

/-! ### lengths -/
def AV.len? (hp : List Blk) : AV → Option Nat
  | .d (.sl _ xs) => some xs.length
  | .own _ _ xs => some xs.length
  | .full _ xs => some xs.length
  | .ref _ _ n _ _ => some n
  | .gref g ver n _ => match hp[g]? with
    | some blk => if blk.grow && blk.ver == ver then some n else none
    | none => none
  | _ => none

theorem len?_spec {x : AV} {v : Value} {n : Nat} (h : Rel S X yv w m A hp hv) (hr : RV S w m yv x v) (hl : x.len? hp = some n) : ∃ base cap, v = .slice base n cap := by
  cases hr with
  | d hd =>
    cases hd with
    | s => simp [AV.len?] at hl
    | nil => simp [AV.len?] at hl; subst hl; exact ⟨_, _, rfl⟩
    | sl => simp [AV.len?] at hl; subst hl; exact ⟨_, _, rfl⟩
  | own => simp [AV.len?] at hl; subst hl; exact ⟨_, _, rfl⟩
  | ownNil => simp [AV.len?] at hl; subst hl; exact ⟨_, _, rfl⟩
  | full => simp [AV.len?] at hl; subst hl; exact ⟨_, _, rfl⟩
  | ref => simp [AV.len?] at hl; subst hl; exact ⟨_, _, rfl⟩
  | gref hm hv h1 hcur =>
    simp only [AV.len?] at hl
    split at hl <;> try (cases hl; done)
    rename_i blk hb
    split at hl <;> try (cases hl; done)
    rename_i hcond
    cases hl
    simp only [Bool.and_eq_true, beq_iff_eq] at hcond
    obtain ⟨blk', vs, cur, e, g1, g2, g3, g4, g5, _⟩ := h.block hm
    rw [hb] at g1; cases g1
    simp only at g5
    obtain ⟨_, cap, hvv, _⟩ := hcur (by rw [g5, hcond.2])
    exact ⟨_, _, hvv⟩
  | _ => simp [AV.len?] at hl

theorem len_run {t : TypeId} {e : TypeId} {ty : TypeId} (ht : P.underlying t = some (.slice e)) (base : Option Addr) (n cap : Nat) (w : World) :
    (Builtin.len_ #[t] ty #[.slice base n cap]).run P w = .ok (goInt n) w := by
  simp [Builtin.len_, run_underlying ht]

/-! ### tests against nil -/
/-- surely nil | surely not -/
def AV.nil? : AV → Option Bool
  | .d (.sl _ xs) => if xs.isEmpty then none else some false
  | .own _ _ xs => if xs.isEmpty then none else some false
  | .full _ xs => if xs.isEmpty then none else some false
  | .ref .. => some false
  | .d (.s (.slice none 0 0)) => some true
  | _ => none

def isNilSlice : AV → Bool
  | .d (.s (.slice none 0 0)) => true
  | _ => false

theorem nil?_spec {x : AV} {v : Value} {b : Bool} (hr : RV S w m yv x v) (hn : x.nil? = some b) : ∃ base n cap, v = .slice base n cap ∧ base.isNone = b := by
  have key : ∀ {k : Nat} {xs : List (List Dv)} {v : Value}, DR S w (.sl k xs) v → xs.isEmpty = false → ∃ base n cap, v = .slice base n cap ∧ base.isNone = false := by
    intro k xs v hd hx
    cases hd with
    | nil => simp at hx
    | sl => exact ⟨_, _, _, rfl, rfl⟩
  cases hr with
  | d hd =>
    rename_i x
    cases x with
    | s u =>
      cases hd
      simp only [AV.nil?] at hn
      split at hn <;> try (cases hn; done)
      all_goals simp_all
    | sl k xs =>
      simp only [AV.nil?] at hn
      split at hn <;> try (cases hn; done)
      rename_i hx
      cases hn
      exact key hd (by simpa using hx)
  | own hd _ =>
    simp only [AV.nil?] at hn
    split at hn <;> try (cases hn; done)
    rename_i hx
    cases hn
    exact key hd (by simpa using hx)
  | ownNil => simp [AV.nil?] at hn
  | full hd =>
    simp only [AV.nil?] at hn
    split at hn <;> try (cases hn; done)
    rename_i hx
    cases hn
    exact key hd (by simpa using hx)
  | ref => simp [AV.nil?] at hn; subst hn; exact ⟨_, _, _, rfl, rfl⟩
  | _ => simp [AV.nil?] at hn

theorem equalIn_nil {t e : TypeId} (ht : P.underlying t = some (.slice e)) (d : Nat) (n cap : Nat) (b : Option Addr) (w : World) :
    (Op.equalIn (d + 1) t (.slice b n cap) (.slice none 0 0)).run P w = .ok b.isNone w ∧ (Op.equalIn (d + 1) t (.slice none 0 0) (.slice b n cap)).run P w = .ok b.isNone w := by
  cases b <;> constructor <;> simp [Op.equalIn, run_underlying ht]

theorem eql_nil_run {t e : TypeId} (ht : P.underlying t = some (.slice e)) (base : Option Addr) (n cap : Nat) (x y : Operand) (w : World) :
    (do eqGuard .eql t x y (.slice base n cap) (.slice none 0 0); binOp .eql t (.slice base n cap) (.slice none 0 0) : Sem Value).run P w = .ok (.bool base.isNone) w ∧
    (do eqGuard .neq t x y (.slice base n cap) (.slice none 0 0); binOp .neq t (.slice base n cap) (.slice none 0 0) : Sem Value).run P w = .ok (.bool !base.isNone) w ∧
    (do eqGuard .eql t x y (.slice none 0 0) (.slice base n cap); binOp .eql t (.slice none 0 0) (.slice base n cap) : Sem Value).run P w = .ok (.bool base.isNone) w ∧
    (do eqGuard .neq t x y (.slice none 0 0) (.slice base n cap); binOp .neq t (.slice none 0 0) (.slice base n cap) : Sem Value).run P w = .ok (.bool !base.isNone) w := by
  have e1 : (Op.equal t (.slice base n cap) (.slice none 0 0)).run P w = .ok base.isNone w := (equalIn_nil ht 9999 n cap base w).1
  have e2 : (Op.equal t (.slice none 0 0) (.slice base n cap)).run P w = .ok base.isNone w := (equalIn_nil ht 9999 n cap base w).2
  refine ⟨?_, ?_, ?_, ?_⟩ <;> simp [eqGuard, binOp, e1, e2]

end
end Go.Proofs.Ytgdeoaiakdkhcaa.Am
