import Derived.Test.YtfeemohdpmdaoaaDoorJ1
import Derived.Lib.AppendZeros
import Derived.Scope
set_option linter.unusedSimpArgs false
/- Operations over blocks that grow: make, store. -/
namespace Go.Proofs.YtfeemohdpmdaoaaDoor.Am
set_option linter.unusedVariables false
open Go Go.RowKit

/-- the cells of a zero -/
def zrow (i : TypeInfo) : Option (List Dv) := i.zero.map fun z => z.cells.toList.map .s
section
variable {P : Program} {S S' T X : Pr} {yv : Option Nat} {w w' : World} {m m' : List MB} {A A' B : List (AV × Value)} {hp hp' : List Blk} {hv hv' : List (List Value)} {o : Oper} {ops : Array Oper} {s s' : RS} {a : Act}

theorem ext_make {t e : TypeId} {lo co : Operand} {kl kc : IntKind} {l c : Int} {i : TypeInfo} {zr : List Dv} (ho : o.op = .makeSlice t lo co) (hu : P.underlying t = some (.slice e)) (hi : P.info? e = some i)
    (hl : evalA s.tm lo = .d (.s (.int kl l))) (hc : evalA s.tm co = .d (.s (.int kc c))) (hz : zrow i = some zr) (h0 : 0 ≤ l) (h1 : l ≤ c) (h2 : (i.bytes : Int) * c ≤ 281474976710656) (h3 : c ≤ 9223372036854775807)
    (hsz : zr.length = i.size) (hpos : 0 < i.size) (hone : (zr.map AV.d).all AV.one = true) :
    ExtOk P o s { tm := putA s.tm o.dst (.gref s.hp.length 0 l.toNat i.size), hp := s.hp ++ [⟨flatA (List.replicate l.toNat zr), false, true, 0⟩], pv := [] } := by
  intro r S X yv w m B hv a K Q h hK
  have hel := evalA_sound h lo
  have hec := evalA_sound h co
  rw [hl] at hel; rw [hc] at hec
  obtain ⟨hln, hr, hpv⟩ := h
  have hr' : Rel S X yv w m ((s.tm.zip a.tmps.toList ++ B) ++ cellPairs s.hp hv) s.hp hv := by simpa using hr
  simp only [zrow, Option.map_eq_some_iff] at hz
  obtain ⟨z, hz, rfl⟩ := hz
  have hzs : z.cells.size = i.size := by simpa using hsz
  have hvl : a.eval lo = .int kl l := by
    generalize a.eval lo = u at hel
    cases hel with | d h => cases h; rfl
  have hvc : a.eval co = .int kc c := by
    generalize a.eval co = u at hec
    cases hec with | d h => cases h; rfl
  have hrun := run_make (P := P) w t e i z hu hi hz kl kc l c h0 h1 h2 h3
  have hle : l.toNat ≤ c.toNat := by omega
  have hlek : l.toNat * i.size ≤ c.toNat * i.size := Nat.mul_le_mul_right _ hle
  have hat : ∀ j, j < l.toNat * i.size → ((madeCells z.cells (c.toNat * i.size)).toList.take (l.toNat * i.size))[j]? = some (z.cells[j % i.size]!) := by
    intro j hj
    rw [List.getElem?_take_of_lt hj]
    have hjc : j < c.toNat * i.size := by omega
    simp [madeCells, hzs, hjc]
  have hlen : ((madeCells z.cells (c.toNat * i.size)).toList.take (l.toNat * i.size)).length = l.toNat * i.size := by
    rw [List.length_take, Array.length_toList, size_madeCells]; exact Nat.min_eq_left hlek
  generalize hnews : (madeCells z.cells (c.toNat * i.size)).toList.take (l.toNat * i.size) = news at hat hlen
  have hfl : Flat S w i.size (List.replicate l.toNat (z.cells.toList.map Dv.s)) news := by
    refine ⟨by simp [hlen], fun j r hr => ?_, fun j r k x v e1 e2 e3 => ?_, fun v hv => ?_⟩
    · rw [List.getElem?_replicate] at hr
      split at hr <;> cases hr
      simpa using hsz
    · rw [List.getElem?_replicate] at e1
      split at e1 <;> cases e1
      rename_i hj
      simp only [List.getElem?_map, Option.map_eq_some_iff] at e2
      obtain ⟨u, e2, rfl⟩ := e2
      have hk : k < i.size := by rw [← hzs]; have := (List.getElem?_eq_some_iff.1 e2).1; simpa using this
      rw [hat _ (idx_lt hj hk)] at e3
      have hmod : (j * i.size + k) % i.size = k := by rw [Nat.mul_comm, Nat.mul_add_mod, Nat.mod_eq_of_lt hk]
      rw [hmod] at e3
      have : z.cells[k]! = u := by
        have h5 : z.cells[k]? = some u := by simpa using e2
        rw [getElem!_pos z.cells k (by rw [hzs]; exact hk)]
        exact (Array.getElem?_eq_some_iff.1 h5).2
      rw [this] at e3; cases e3
      exact .s _
    · obtain ⟨j, hj⟩ := List.mem_iff_getElem?.1 hv
      have hjl := (List.getElem?_eq_some_iff.1 hj).1
      rw [hat j (by omega)] at hj
      have hk : j % i.size < z.cells.size := by rw [hzs]; exact Nat.mod_lt _ hpos
      have hv' : v = z.cells[j % i.size] := by
        rw [getElem!_pos z.cells _ hk] at hj; exact (Option.some.inj hj).symm
      have := List.all_eq_true.1 hone (.d (.s z.cells[j % i.size])) (List.mem_map.2 ⟨.s z.cells[j % i.size], List.mem_map.2 ⟨_, by simp, rfl⟩, rfl⟩)
      rw [hv']; exact this
  have hbel : Below w.heap.size w (w.alloc (.cells (madeCells z.cells (c.toNat * i.size)) e)) := (Below.refl _ _).alloc (Nat.le_refl _) _
  have hcur : (w.alloc (.cells (madeCells z.cells (c.toNat * i.size)) e)).heap[w.heap.size]? = some (.cells (madeCells z.cells (c.toNat * i.size)) e (0, 0)) := Array.getElem?_push_size
  have hpl := hfl.pairs.1
  have hA := hr'.pushAll ((flatA (List.replicate l.toNat (z.cells.toList.map Dv.s))).zip news) hfl.rvs
  have hR := hA.newGrow _ news rfl hpl hfl.one hbel hcur (by rw [hlen, ← hnews]) (by rw [hlen]; simp [size_madeCells]; omega)
  have hexec : (execOp a.eval o).run P w = .ok (.value (.slice (some ⟨w.heap.size, 0, none⟩) l.toNat c.toNat)) (w.alloc (.cells (madeCells z.cells (c.toNat * i.size)) e)) := by
    unfold execOp; rw [ho]; simp only [hvl, hvc]; simp [hrun]
  refine wpIn_value (by simp [ho]) hexec (.inl rfl) ?_
  refine Nx.of hK (S' := S) (m' := m ++ [⟨w.heap.size, (flatA (List.replicate l.toNat (z.cells.toList.map Dv.s))).length, true, 0⟩]) (hv' := hv ++ [news]) ⟨agree_of_below hbel _, fun _ _ h => h, fun _ _ h => .inl h, MStep.push _ _⟩ hln ?_ (by intro p hp; cases hp)
  refine Rel.cons (by simpa using hR) (.gref (b := w.heap.size) (len := (flatA (List.replicate l.toNat (z.cells.toList.map Dv.s))).length) (ver' := 0) (by rw [List.getElem?_append_right (by rw [hr.ml]; exact Nat.le_refl _), hr.ml]; simp) (Nat.le_refl _) rfl fun _ => ?_) rfl
  refine ⟨by rw [hpl, hlen], c.toNat, rfl, hle, ?_, _, e, hcur, by simp [size_madeCells]⟩
  have : maxLen = 9223372036854775807 := rfl
  omega

theorem ext_store {t : TypeId} {ax x : Operand} {i : TypeInfo} {g ver off : Nat} {blk : Blk} {xs : List AV} (ho : o.op = .store t ax x) (hi : P.info? t = some i) (hax : evalA s.tm ax = .gptr g ver off) (hxs : xCells (evalA s.tm x) = some xs) (hg : s.hp[g]? = some blk)
    (hsz : xs.length = i.size) (hgr : blk.grow = true) (hver : blk.ver = ver) (hf : blk.fro = false) (hoff : off + xs.length ≤ blk.cells.length) :
    ExtOk P o s { tm := putA s.tm o.dst .bad, hp := s.hp.set g { blk with cells := blk.cells.take off ++ xs ++ blk.cells.drop (off + xs.length) }, pv := [] } := by
  intro r S X yv w m B hv a K Q h hK
  have hea := evalA_sound h ax
  rw [hax] at hea
  obtain ⟨q1, q2, q3⟩ := xCells_spec hxs (evalA_sound h x)
  obtain ⟨hl, hr, hpv⟩ := h
  have hr' : Rel S X yv w m ((s.tm.zip a.tmps.toList ++ B) ++ cellPairs s.hp hv) s.hp hv := by simpa using hr
  generalize hva : a.eval ax = va at hea
  cases hea with
  | gptr hm hv0 h1 hcur =>
    rename_i b len ver'
    obtain ⟨blk', vs, cur, e, g1, g2, g3, g4, g5, g6, g7, g8, g9, g10, _⟩ := hr'.block hm
    rw [hg] at g1; cases g1
    simp only at g3 g5 g6 g8 g9 g10
    have hvp := hcur (by omega)
    have hone : ∀ u ∈ (a.eval x).cells.toList, u.oneCell' = true := fun u hu => by
      obtain ⟨j, hj⟩ := List.mem_iff_getElem?.1 hu
      have hjl : j < xs.length := by rw [q1.1]; exact (List.getElem?_eq_some_iff.1 hj).1
      exact (q1.2 j xs[j] u (by simp [hjl]) hj).one (List.all_eq_true.1 q2 _ (List.getElem_mem hjl))
    have hA := hr'.pushAll (xs.zip (a.eval x).cells.toList) fun p hp => by
      obtain ⟨j, hj⟩ := List.mem_iff_getElem?.1 hp
      have hj' := hj
      rw [List.getElem?_zip_eq_some] at hj'
      exact ⟨q1.2 j _ _ hj'.1 hj'.2, q3 p hp⟩
    obtain ⟨h2, h3⟩ := hA.storeBlock (us := (a.eval x).cells.toList) (off := off) q1.1 hone hg hm g2 hf (by rw [← q1.1]; exact hoff) g8
    rw [← q1.1] at h2 h3
    have hst := run_storeCells_at P b off e (a.eval x).cells.toList 0 cur w g8 (by rw [← q1.1]; omega) hone
    simp only [Nat.add_zero] at hst
    rw [← q1.1] at hst
    have hszv : (a.eval x).cells.size = i.size := by have := q1.1; simp at this; omega
    have hexec : (execOp a.eval o).run P w = .ok .skip (w.setRow b (cur.toList.take off ++ (a.eval x).cells.toList ++ cur.toList.drop (off + xs.length)).toArray) := by
      rw [store_exec _ ho, hva, hvp]
      simp only [Instr.storeAt, Instr.sureAddr, Sem.run_bind, Sem.run_pure, Result.andThen_ok, storeVar, sizeOf, typeInfo, run_program, hi, hszv, ne_eq, not_true_eq_false, if_false, hst]
    exact wpIn_value (by simp [ho]) hexec (.inr ⟨rfl, rfl⟩) (Nx.of (x := .bad) hK ⟨h3, fun _ _ h => h, fun _ _ h => .inl h, MStep.refl m⟩ hl (by simpa using h2.cons (x := .bad) (v := undef) .bad rfl) (by intro p hp; cases hp))
/-- copy into a block that may grow, elements of one cell each -/
theorem ext_copy {c : Call} {x y : Operand} {t e : TypeId} {i : TypeInfo} {g ver n : Nat} {ys : List (List Dv)} {blk : Blk} (ho : o.op = .call c) (hc : c.callee = .builtin .copy) (hsz : c.args.size = 2) (h0 : c.args[0]? = some x) (h1 : c.args[1]? = some y)
    (hts : c.argTypes.size = 2) (ht : c.argTypes[0]? = some t) (hu : P.underlying t = some (.slice e)) (hi : P.info? e = some i) (his : i.size = 1) (hx : evalA s.tm x = .gref g ver n 1) (hys : srcRows 1 (evalA s.tm y) = some ys) (hg : s.hp[g]? = some blk)
    (hgr : blk.grow = true) (hver : blk.ver = ver) (hf : blk.fro = false) :
    ExtOk P o s { tm := putA s.tm o.dst (.d (.s (goInt ((ys.take n).length : Nat)))), hp := s.hp.set g { blk with cells := flatA (ys.take n) ++ blk.cells.drop (ys.take n).length }, pv := [] } := by
  intro r S X yv w m B hv a K Q h hK
  have hsrc : DR S w (.sl 1 ys) (a.eval y) := srcRows_spec hys (evalA_sound h y)
  have hbase := evalA_sound h x
  rw [hx] at hbase
  obtain ⟨hl, hr, hpv⟩ := h
  have hr' : Rel S X yv w m ((s.tm.zip a.tmps.toList ++ B) ++ cellPairs s.hp hv) s.hp hv := by simpa using hr
  obtain ⟨t', ht'⟩ : ∃ t', c.argTypes[1]? = some t' := ⟨c.argTypes[1], by simp [hts]⟩
  have htse : c.argTypes = #[t, t'] := by
    apply Array.ext_getElem?
    intro j
    match j with
    | 0 => simpa using ht
    | 1 => simpa using ht'
    | j + 2 => simp [Array.getElem?_eq_none (by omega : c.argTypes.size ≤ j + 2)]
  obtain ⟨ub, uc, us, hue, huc, hfl, hucell, hunil⟩ := hsrc.flat
  generalize hva : a.eval x = va at hbase
  cases hbase with
  | gref hm hv0 h1' hcur =>
    rename_i b len ver'
    obtain ⟨blk', vs, cur, e', g1, g2, g3, g4, g5, g6, g7, g8, g9, g10, _⟩ := hr'.block hm
    rw [hg] at g1; cases g1
    simp only at g3 g5 g6 g8 g9 g10
    obtain ⟨hlen, cap, rfl, hncap, _, _⟩ := hcur (by omega)
    have hul : us.length = ys.length := by have := hfl.len; omega
    have hflt : Flat S w 1 (ys.take n) (us.take n) := by
      refine ⟨by simp [hul], fun j row hj => ?_, fun j row k cc v e1 e2 e3 => ?_, fun v hv => hfl.one v (List.mem_of_mem_take hv)⟩
      · rw [List.getElem?_take] at hj
        split at hj <;> try (cases hj; done)
        exact hfl.row j row hj
      · rw [List.getElem?_take] at e1 e3
        split at e1 <;> try (cases e1; done)
        split at e3 <;> try (cases e3; done)
        exact hfl.rd j row k cc v e1 e2 e3
    have hpl := hflt.pairs.1
    have hle : (ys.take n).length ≤ n := List.length_take_le n ys
    have hlu : (us.take n).length = (ys.take n).length := by simp [hul]
    have hA := hr'.pushAll ((flatA (ys.take n)).zip (us.take n)) hflt.rvs
    have hbl : len = blk.cells.length := by omega
    obtain ⟨h2, h3⟩ := hA.storeBlock (us := us.take n) (off := 0) hpl hflt.one hg hm g2 hf (by rw [hlu]; omega) g8
    have hkey : (Builtin.copy_ #[t, t'] o.type #[.slice (some ⟨b, 0, none⟩) n cap, .slice ub ys.length uc]).run P w =
        .ok (goInt (us.take n).length) (w.setRow b (cur.toList.take 0 ++ us.take n ++ cur.toList.drop (0 + (us.take n).length)).toArray) := by
      cases ub with
      | none =>
        obtain ⟨rfl, rfl⟩ := hunil rfl
        have hus : us = [] := by simpa using hul
        subst hus
        have hrun := run_copy_nil (P := P) w t t' o.type e ⟨b, 0, none⟩ n cap hu (by rw [hi]; rfl)
        simp only [List.length_nil, List.take_nil, Nat.add_zero, List.append_nil, List.take_append_drop, Array.toArray_toList]
        rw [setRow_self w b cur e' (0, 0) g8]
        exact hrun
      | some ua =>
        refine run_copy_row (P := P) w t t' o.type e b 0 n cap ua ys.length uc cur e' (us.take n) hu (by rw [hi]; simp [his]) g8 (by rw [List.length_take, hul, Nat.min_comm]) (fun j v hj => ?_) (by rw [hlu]; omega) hflt.one
        rw [List.getElem?_take] at hj
        split at hj <;> try (cases hj; done)
        exact ((hucell ua rfl).1 j v hj).1
    obtain ⟨consts, hb⟩ := builtin_exec (P := P) (ρ := a.eval) ho hc w
    have hexec : (execOp a.eval o).run P w = .ok (.value (goInt (us.take n).length)) (w.setRow b (cur.toList.take 0 ++ us.take n ++ cur.toList.drop (0 + (us.take n).length)).toArray) := by
      rw [hb]; simp only [builtin, two_args hsz h0 h1, htse]
      simp only [List.map_toArray, List.map_cons, List.map_nil, hue, hva]
      simp only [Sem.run_bind, hkey]; rfl
    simp only [List.take_zero, List.nil_append, Nat.zero_add] at h2
    refine wpIn_value (by simp [ho]) hexec (.inl rfl) ?_
    rw [hlu]
    rw [hlu] at h2 h3
    refine Nx.of (x := .d (.s (goInt ((ys.take n).length : Nat)))) (hv' := hv.set g (us.take n ++ vs.drop (ys.take n).length)) hK ⟨h3, fun _ _ h => h, fun _ _ h => .inl h, MStep.refl m⟩ hl ?_ (by intro p hp; cases hp)
    simpa using h2.cons (x := .d (.s (goInt ((ys.take n).length : Nat)))) (.d (.s _)) rfl
/-- a growing block loses its end -/
theorem Rel.cut (h : Rel S X yv w m (B ++ cellPairs hp hv) hp hv) {g n : Nat} {blk : Blk} {p : MB} {vs : List Value} (hg : hp[g]? = some blk) (hm : m[g]? = some p) (hvs : hv[g]? = some vs) (hf : blk.fro = false) (hgr : blk.grow = true) (hn : n ≤ p.len) :
    Rel S X yv w (m.set g ⟨p.b, n, true, p.ver + 1⟩) (B ++ cellPairs (hp.set g ⟨blk.cells.take n, false, true, blk.ver + 1⟩) (hv.set g (vs.take n))) (hp.set g ⟨blk.cells.take n, false, true, blk.ver + 1⟩) (hv.set g (vs.take n)) ∧
    MStep m (m.set g ⟨p.b, n, true, p.ver + 1⟩) := by
  obtain ⟨a1, a2, a3, a4, a5, ⟨cur, e, a6, a7, a8⟩, a9, a10⟩ := h.bl g blk p vs hg hm hvs
  have hgl := (List.getElem?_eq_some_iff.1 hg).1
  have hml := (List.getElem?_eq_some_iff.1 hm).1
  have hvl := (List.getElem?_eq_some_iff.1 hvs).1
  have hpg : p.grow = true := a2.trans hgr
  have hms : MStep m (m.set g ⟨p.b, n, true, p.ver + 1⟩) := by
    intro g' q hq
    by_cases hgg : g' = g
    · subst hgg
      rw [hm] at hq; cases hq
      exact .inr ⟨hpg, _, by rw [List.getElem?_set_self hml], rfl, by simp⟩
    · exact .inl (by rw [List.getElem?_set_ne (Ne.symm hgg)]; exact hq)
  refine ⟨?_, hms⟩
  obtain ⟨pre, post, hc1, hc2⟩ := cellPairs_split (hp := hp) (hv := hv) hg hvs
  have hnew := hc2 ⟨blk.cells.take n, false, true, blk.ver + 1⟩ (vs.take n)
  have hzip : (blk.cells.take n).zip (vs.take n) = (blk.cells.zip vs).take n := by
    apply List.ext_getElem?
    intro j
    simp only [List.getElem?_take]
    by_cases hj : j < n
    · rw [if_pos hj]
      cases hz : (blk.cells.zip vs)[j]? with
      | none =>
        rw [List.getElem?_eq_none_iff] at hz ⊢
        simp only [List.length_zip, List.length_take] at hz ⊢
        omega
      | some q =>
        rw [List.getElem?_zip_eq_some] at hz ⊢
        rw [List.getElem?_take, List.getElem?_take, if_pos hj, if_pos hj]; exact hz
    · rw [if_neg hj, List.getElem?_eq_none_iff]
      simp only [List.length_zip, List.length_take]; omega
  have hsub : (B ++ cellPairs (hp.set g ⟨blk.cells.take n, false, true, blk.ver + 1⟩) (hv.set g (vs.take n))).Sublist (B ++ cellPairs hp hv) := by
    refine List.Sublist.append (List.Sublist.refl _) ?_
    rw [hnew, hc1]
    simp only [hzip]
    exact List.Sublist.append (List.Sublist.append (List.Sublist.refl _) (List.take_sublist _ _)) (List.Sublist.refl _)
  have h2 := h.sub hsub
  refine ⟨h.lt, fun q hq => (h2.rv q hq).blocks hms, h2.pw, ?_, h2.sp, ?_, by simp [h.ml], by simp [h.hl], ?_, h.gl⟩
  · intro q hq b hbo x hx
    rcases List.mem_or_eq_of_mem_set hx with hx | rfl
    · exact h2.nm q hq b hbo x hx
    · exact h2.nm q hq b hbo p (List.mem_of_getElem? hm)
  · rw [List.map_set]
    have : (m.map (·.b)).set g p.b = m.map (·.b) := by
      apply List.ext_getElem?
      intro j
      by_cases hj : j = g
      · subst hj; rw [List.getElem?_set_self (by simpa using hml)]; simp [hm]
      · rw [List.getElem?_set_ne (Ne.symm hj)]
    rw [this]; exact h.mnd
  · intro g' blk' p' vs' e1 e2 e3
    by_cases hgg : g' = g
    · subst hgg
      rw [List.getElem?_set_self hgl] at e1
      rw [List.getElem?_set_self hml] at e2
      rw [List.getElem?_set_self hvl] at e3
      cases e1; cases e2; cases e3
      refine ⟨by simp only [List.length_take]; omega, rfl, by simp only; omega, by simp only [List.length_take]; omega, fun v hv' => a5 v (List.mem_of_mem_take hv'), ⟨cur, e, a6, ?_, by simp only; omega⟩, fun _ i => a9 hf i, fun hc => by cases hc⟩
      simp only
      rw [← a7, List.take_take, Nat.min_eq_left hn]
    · rw [List.getElem?_set_ne (Ne.symm hgg)] at e1 e2 e3
      exact h.bl g' blk' p' vs' e1 e2 e3

/-- a slice that may grow is cut at its end -/
theorem ext_cut {t e : TypeId} {x hi : Operand} {i : TypeInfo} {g ver n : Nat} {blk : Blk} {kk : IntKind} {j : Int} (ho : o.op = .slice t x none (some hi) none) (hu : P.underlying t = some (.slice e)) (hi' : P.info? e = some i)
    (hx : evalA s.tm x = .gref g ver n i.size) (hj : evalA s.tm hi = .d (.s (.int kk j))) (hg : s.hp[g]? = some blk) (hgr : blk.grow = true) (hver : blk.ver = ver) (hf : blk.fro = false) (h0 : 0 ≤ j) (hn : j ≤ n) :
    ExtOk P o s { tm := putA s.tm o.dst (.gref g (ver + 1) j.toNat i.size), hp := s.hp.set g ⟨blk.cells.take (j.toNat * i.size), false, true, ver + 1⟩, pv := [] } := by
  intro r S X yv w m B hv a K Q h hK
  have hbase := evalA_sound h x
  have hej := evalA_sound h hi
  rw [hx] at hbase
  rw [hj] at hej
  obtain ⟨hl, hr, hpv⟩ := h
  have hr' : Rel S X yv w m ((s.tm.zip a.tmps.toList ++ B) ++ cellPairs s.hp hv) s.hp hv := by simpa using hr
  have hvj : a.eval hi = .int kk j := by
    generalize a.eval hi = u at hej
    cases hej with | d h => cases h; rfl
  generalize hva : a.eval x = va at hbase
  cases hbase with
  | gref hm hv0 h1' hcur =>
    rename_i b len ver'
    obtain ⟨blk', vs, cur, e', g1, g2, g3, g4, g5, g6, g7, g8, g9, g10, _⟩ := hr'.block hm
    rw [hg] at g1; cases g1
    simp only at g3 g5 g6 g8 g9 g10
    obtain ⟨hlen, cap, rfl, hncap, hcm, cur', e2, hc2, hsz⟩ := hcur (by omega)
    have e8 : cur' = cur ∧ e2 = e' := by rw [hc2] at g8; cases g8; exact ⟨rfl, rfl⟩
    obtain ⟨rfl, rfl⟩ := e8
    have hjn : j.toNat ≤ n := by omega
    have hjk : j.toNat * i.size ≤ len := by rw [hlen]; exact Nat.mul_le_mul_right _ hjn
    obtain ⟨hR, hMS⟩ := hr'.cut (n := j.toNat * i.size) (p := ⟨b, len, true, ver'⟩) hg hm g2 hf hgr hjk
    simp only [hver] at hR hMS
    have hb : bnds n cap none (some (kk, j)) none = some (0, j.toNat, cap) := by
      unfold bnds
      simp only [numOr]
      refine (if_pos ⟨by omega, h0, by omega, by omega, fun h => by simp at h⟩).trans ?_
      simp
    obtain ⟨hb1, hb2, hb3, hb4⟩ := run_bnds (P := P) true hb w
    have hrun : (do pure (Next.value (← Instr.sliceAt t (.slice (some ⟨b, 0, none⟩) n cap) none (some (.int kk j)) none)) : Sem Next).run P w = .ok (.value (.slice (some ⟨b, 0, none⟩) j.toNat cap)) w := by
      simp only [Option.map_none, Option.map_some] at hb1
      simp only [Instr.sliceAt, Sem.run_bind, run_underlying hu, Result.andThen_ok, Instr.slice, hb1, sizeOf, typeInfo, run_program, hi', Sem.run_pure]
      by_cases hc : cap = 0
      · simp [hc]
      · simp [hc, Addr.add]
    have hexec : (execOp a.eval o).run P w = .ok (.value (.slice (some ⟨b, 0, none⟩) j.toNat cap)) w := by
      unfold execOp; rw [ho]
      simp only [Option.map_none, Option.map_some, hva, hvj]
      exact hrun
    refine wpIn_value (by simp [ho]) hexec (.inl rfl) ?_
    refine Nx.of hK (S' := S) (hv' := hv.set g (vs.take (j.toNat * i.size))) ⟨Agree.refl _ _ _, fun _ _ h => h, fun _ _ h => .inl h, hMS⟩ hl ?_ (by intro p hp; cases hp)
    have hml := (List.getElem?_eq_some_iff.1 hm).1
    have hfin := hR.cons (x := .gref g (ver + 1) j.toNat i.size) (v := .slice (some ⟨b, 0, none⟩) j.toNat cap) (.gref (b := b) (len := j.toNat * i.size) (ver' := ver' + 1) (by rw [List.getElem?_set_self hml]) (by omega) rfl fun _ => ?_) rfl
    · simpa using hfin
    · exact ⟨rfl, cap, rfl, by omega, hcm, cur', e2, hc2, hsz⟩
/-- zeros are appended to nothing -/
theorem ext_zeros {c : Call} {x y : Operand} {t tn e : TypeId} {i : TypeInfo} {k kn : IntKind} {n : Int} {zr : List Dv} (ho : o.op = .call c) (hc : c.callee = .builtin .append) (hsz2 : c.args.size = 2) (h0 : c.args[0]? = some x) (h1 : c.args[1]? = some y)
    (hts : c.argTypes.size = 2) (ht : c.argTypes[0]? = some t) (htn : c.argTypes[1]? = some tn) (hu : P.underlying t = some (.slice e)) (hun : P.underlying tn = some (.int kn)) (hi : P.info? e = some i) (hx : isNilSlice (evalA s.tm x) = true)
    (hy : evalA s.tm y = .d (.s (.int k n))) (hz : zrow i = some zr) (hn : 0 < n) (hfit : n * (i.bytes : Int) ≤ 281474976710656) (h63 : n ≤ 9223372036854775807) (hsz : zr.length = i.size) (hpos : 0 < i.size) (hby : 0 < i.bytes) (hone : (zr.map AV.d).all AV.one = true) :
    ExtOk P o s { tm := putA s.tm o.dst (.gref s.hp.length 0 n.toNat i.size), hp := s.hp ++ [⟨flatA (List.replicate n.toNat zr), false, true, 0⟩], pv := [] } := by
  intro r S X yv w m B hv a K Q h hK
  have hel := evalA_sound h x
  have hec := evalA_sound h y
  rw [hy] at hec
  obtain ⟨hln, hr, hpv⟩ := h
  have hr' : Rel S X yv w m ((s.tm.zip a.tmps.toList ++ B) ++ cellPairs s.hp hv) s.hp hv := by simpa using hr
  simp only [zrow, Option.map_eq_some_iff] at hz
  obtain ⟨z, hz, rfl⟩ := hz
  have hzs : z.cells.size = i.size := by simpa using hsz
  have hvl : a.eval x = .slice none 0 0 := isNilSlice_spec hx hel
  obtain ⟨l, rfl⟩ := Int.eq_ofNat_of_zero_le (by omega : 0 ≤ n)
  have hvc : a.eval y = .int k l := by
    generalize a.eval y = u at hec
    cases hec with | d h => cases h; rfl
  have hl0 : 0 < l := by omega
  have hfit' : l * i.bytes ≤ 281474976710656 := by rw [← Int.natCast_mul] at hfit; omega
  rw [Int.toNat_natCast] at hK
  have htse : c.argTypes = #[t, tn] := by
    apply Array.ext_getElem?
    intro j
    match j with
    | 0 => simpa using ht
    | 1 => simpa using htn
    | j + 2 => simp [Array.getElem?_eq_none (by omega : c.argTypes.size ≤ j + 2)]
  have hrun := Lib.run_append_nil_zeros (P := P) w t tn o.type e i z k kn hu hun hi hz l hl0 hpos h63 hfit'
  have hge := grownCap_ge w l 0 e
  have hcm := grownCap_le_maxLen w l 0 e (by have : maxLen = 9223372036854775807 := rfl; omega)
  have hat : ∀ j, j < l * i.size → ((Builtin.zeroCells z.cells l).toList)[j]? = some (z.cells[j % i.size]!) := by
    intro j hj
    simp [Builtin.zeroCells, hzs, hj]
  have hlen : ((Builtin.zeroCells z.cells l).toList).length = l * i.size := by
    rw [Array.length_toList, size_zeroCells, hzs]
  have hnews0 : (Builtin.zeroCells z.cells l) = ((Builtin.zeroCells z.cells l).toList).toArray := by simp
  generalize hnews : (Builtin.zeroCells z.cells l).toList = news at hat hlen hnews0
  rw [hnews0] at hrun
  have hfl : Flat S w i.size (List.replicate l (z.cells.toList.map Dv.s)) news := by
    refine ⟨by simp [hlen], fun j r hr => ?_, fun j r k x v e1 e2 e3 => ?_, fun v hv => ?_⟩
    · rw [List.getElem?_replicate] at hr
      split at hr <;> cases hr
      simpa using hsz
    · rw [List.getElem?_replicate] at e1
      split at e1 <;> cases e1
      rename_i hj
      simp only [List.getElem?_map, Option.map_eq_some_iff] at e2
      obtain ⟨u, e2, rfl⟩ := e2
      have hk : k < i.size := by rw [← hzs]; have := (List.getElem?_eq_some_iff.1 e2).1; simpa using this
      rw [hat _ (idx_lt hj hk)] at e3
      have hmod : (j * i.size + k) % i.size = k := by rw [Nat.mul_comm, Nat.mul_add_mod, Nat.mod_eq_of_lt hk]
      rw [hmod] at e3
      have : z.cells[k]! = u := by
        have h5 : z.cells[k]? = some u := by simpa using e2
        rw [getElem!_pos z.cells k (by rw [hzs]; exact hk)]
        exact (Array.getElem?_eq_some_iff.1 h5).2
      rw [this] at e3; cases e3
      exact .s _
    · obtain ⟨j, hj⟩ := List.mem_iff_getElem?.1 hv
      have hjl := (List.getElem?_eq_some_iff.1 hj).1
      rw [hat j (by omega)] at hj
      have hk : j % i.size < z.cells.size := by rw [hzs]; exact Nat.mod_lt _ hpos
      have hv' : v = z.cells[j % i.size] := by
        rw [getElem!_pos z.cells _ hk] at hj; exact (Option.some.inj hj).symm
      have := List.all_eq_true.1 hone (.d (.s z.cells[j % i.size])) (List.mem_map.2 ⟨.s z.cells[j % i.size], List.mem_map.2 ⟨_, by simp, rfl⟩, rfl⟩)
      rw [hv']; exact this
  have hbel : Below w.heap.size w (w.drew.alloc (.cells (news.toArray ++ Builtin.zeroCells z.cells (grownCap w l 0 e - l)) e)) := ((Below.refl _ _).drew).alloc (Nat.le_refl _) _
  have hpl := hfl.pairs.1
  have hA := hr'.pushAll ((flatA (List.replicate l (z.cells.toList.map Dv.s))).zip news) hfl.rvs
  have hcur : (w.drew.alloc (.cells (news.toArray ++ Builtin.zeroCells z.cells (grownCap w l 0 e - l)) e)).heap[w.heap.size]? = some (.cells (news.toArray ++ Builtin.zeroCells z.cells (grownCap w l 0 e - l)) e (0, 0)) := heap_alloc_new w.drew _
  have hR := hA.newGrow _ news rfl hpl hfl.one hbel hcur (by simp) (by simp)
  obtain ⟨consts, hb⟩ := builtin_exec (P := P) (ρ := a.eval) ho hc w
  have hexec : (execOp a.eval o).run P w = .ok (.value (.slice (some ⟨w.heap.size, 0, none⟩) l (grownCap w l 0 e))) (w.drew.alloc (.cells (news.toArray ++ Builtin.zeroCells z.cells (grownCap w l 0 e - l)) e)) := by
    rw [hb]; simp only [builtin, two_args hsz2 h0 h1, htse]
    simp only [List.map_toArray, List.map_cons, List.map_nil, hvl, hvc, Sem.run_bind, hrun]; rfl
  refine wpIn_value (by simp [ho]) hexec (.inl rfl) ?_
  refine Nx.of hK (S' := S) (m' := m ++ [⟨w.heap.size, (flatA (List.replicate l (z.cells.toList.map Dv.s))).length, true, 0⟩]) (hv' := hv ++ [news]) ⟨agree_of_below hbel _, fun _ _ h => h, fun _ _ h => .inl h, MStep.push _ _⟩ hln ?_ (by intro p hp; cases hp)
  refine Rel.cons (by simpa using hR) (.gref (b := w.heap.size) (len := (flatA (List.replicate l (z.cells.toList.map Dv.s))).length) (ver' := 0) (by rw [List.getElem?_append_right (by rw [hr.ml]; exact Nat.le_refl _), hr.ml]; simp) (Nat.le_refl _) rfl fun _ => ?_) rfl
  refine ⟨by rw [hpl, hlen], _, rfl, hge, hcm, _, e, hcur, ?_⟩
  simp [size_zeroCells, hzs, hlen, ← Nat.add_mul]; congr 1; omega
end
end Go.Proofs.YtfeemohdpmdaoaaDoor.Am

/- Calls that hand out blocks of their own. -/
namespace Go.Proofs.YtfeemohdpmdaoaaDoor.Am
set_option linter.unusedVariables false
open Go Go.RowKit

mutual
/-- the blocks' numbers, counted from n on -/
def shift (n : Nat) : AV → AV
  | .ref g off l c k => .ref (n + g) off l c k
  | .ptr g off => .ptr (n + g) off
  | .gref g ver l k => .gref (n + g) ver l k
  | .gptr g ver off => .gptr (n + g) ver off
  | .agg cs => .agg (shifts n cs)
  | .tup cs => .tup (shifts n cs)
  | .fn f a b => .fn f (shifts n a) (shifts n b)
  | .d x => .d x
  | .own e k xs => .own e k xs
  | .full k xs => .full k xs
  | .rptr cs => .rptr cs
  | .yl => .yl
  | .bad => .bad
def shifts (n : Nat) : List AV → List AV
  | [] => []
  | x :: l => shift n x :: shifts n l
end
theorem shifts_map (n : Nat) : ∀ l : List AV, shifts n l = l.map (shift n)
  | [] => rfl
  | x :: l => by simp [shifts, shifts_map n l]
def shiftB (n : Nat) (b : Blk) : Blk := { b with cells := shifts n b.cells }
def shiftH (n : Nat) (hp : List Blk) : List Blk := hp.map (shiftB n)

/-- a call that lays blocks of its own, and hands them out -/
def FCall (P : Program) (f : Nat) (args : List AV) (r : AV) (hp1 : List Blk) : Prop :=
  (∀ (as : Array Value) (w : World), (callFunc f as).run P w = .ok (.enter f as) w) ∧
  ∀ (S : Pr) (w : World) (vs : List Value), args.length = vs.length → (∀ (i : Nat) (x : AV) (v : Value), args[i]? = some x → vs[i]? = some v → RV S w [] none x v) → (∀ b i, S b i → b < w.heap.size) → Glob S w →
    CallsIn Fence.wide 0 P f vs.toArray w fun e w' => ∃ v S' m1 hv1, e = .returned v ∧ Below w.heap.size w w' ∧ (∀ b i, S b i → S' b i) ∧ (∀ b i, S' b i → S b i ∨ (w.heap.size ≤ b ∧ b < w'.heap.size)) ∧
      (∀ p ∈ m1, w.heap.size ≤ p.b) ∧ Rel S' (fun b _ => b < w.heap.size) none w' m1 ((r.view, v) :: cellPairs hp1 hv1) hp1 hv1

section
variable {P : Program} {S S' T X V Z : Pr} {L : Nat → Prop} {yv : Option Nat} {w w' : World} {m m' m1 : List MB} {A A' B : List (AV × Value)} {hp hp' hp1 : List Blk} {hv hv' hv1 : List (List Value)}

theorem RV.shift {x : AV} {v : Value} (h : RV S w m1 none x v) : RV S w (m ++ m1) yv (shift m.length x) v := by
  have hat : ∀ {g : Nat} {p : MB}, m1[g]? = some p → (m ++ m1)[m.length + g]? = some p := fun h => by
    rw [List.getElem?_append_right (by omega)]; simpa using h
  induction h with
  | d h => exact .d h
  | agg hl _ ih =>
    simp only [Am.shift, shifts_map]
    refine .agg (by simpa using hl) fun i c v h h' => ?_
    simp only [List.getElem?_map, Option.map_eq_some_iff] at h
    obtain ⟨c, h, rfl⟩ := h
    exact ih i c v h h'
  | tup hl _ ih =>
    simp only [Am.shift, shifts_map]
    refine .tup (by simpa using hl) fun i c v h h' => ?_
    simp only [List.getElem?_map, Option.map_eq_some_iff] at h
    obtain ⟨c, h, rfl⟩ := h
    exact ih i c v h h'
  | own h ho => exact .own h ho
  | ownNil => exact .ownNil
  | full h => exact .full h
  | rptr vals hne hsp hs hc hr h1 => exact .rptr vals hne hsp hs hc hr h1
  | ref h hfit hn => exact .ref (hat h) hfit hn
  | ptr h => exact .ptr (hat h)
  | gref h hv h1 hc => exact .gref (hat h) hv h1 hc
  | gptr h hv h1 hc => exact .gptr (hat h) hv h1 hc
  | fn hf hl hl' _ _ ih ih' =>
    simp only [Am.shift, shifts_map]
    refine .fn hf (by simpa using hl) (by simpa using hl') (fun i c v h h' => ?_) (fun i c v h h' => ?_)
    · simp only [List.getElem?_map, Option.map_eq_some_iff] at h
      obtain ⟨c, h, rfl⟩ := h
      exact ih i c v h h'
    · simp only [List.getElem?_map, Option.map_eq_some_iff] at h
      obtain ⟨c, h, rfl⟩ := h
      exact ih' i c v h h'
  | yl h => cases h
  | bad => exact .bad
theorem ownB_shift (n : Nat) (x : AV) (v : Value) : ownB (shift n x, v) = ownB (x, v) := by
  cases x <;> simp only [shift] <;> rfl
theorem ownLen_shift (n : Nat) (x : AV) : ownLen (shift n x) = ownLen x := by cases x <;> simp only [shift] <;> rfl
theorem view_shift (n : Nat) (x : AV) : (shift n x).view = shift n x.view := by
  cases x <;> simp only [shift, AV.view]

/-- two activations' blocks, side by side -/
theorem Rel.merge {lo : Nat} (h : Rel S X yv w m A hp hv) (h1 : Rel S (fun b _ => b < lo) none w m1 A' hp1 hv1) (hX : ∀ b i, X b i → b < lo) (hm : ∀ q ∈ m, q.b < lo) (hm1 : ∀ q ∈ m1, lo ≤ q.b) (hA : ∀ p ∈ A, ∀ b, ownB p = some b → b < lo) :
    Rel S X yv w (m ++ m1) (A ++ A'.map fun p => (shift m.length p.1, p.2)) (hp ++ shiftH m.length hp1) (hv ++ hv1) := by
  have hA' : ∀ p ∈ A', ∀ b, ownB p = some b → lo ≤ b := fun p hp b hb => Nat.le_of_not_lt ((h1.sp p hp b hb).1 0)
  refine ⟨h.lt, fun p hp => ?_, ?_, fun p hp b hb x hx => ?_, fun p hp b hb => ?_, ?_, by simp [shiftH, h.ml, h1.ml], by simp [shiftH, h.hl, h1.hl], fun g blk p vs e1 e2 e3 => ?_, h.gl⟩
  · rcases List.mem_append.1 hp with hp | hp
    · exact (h.rv p hp).blocks fun g q hq => .inl (by rw [List.getElem?_append_left (List.getElem?_eq_some_iff.1 hq).1]; exact hq)
    · obtain ⟨q, hq, rfl⟩ := List.mem_map.1 hp
      exact (h1.rv q hq).shift
  · rw [List.pairwise_append]
    refine ⟨h.pw, ?_, fun p hp q hq b hb hqb => ?_⟩
    · rw [List.pairwise_map]
      refine h1.pw.imp fun {p q} hd b hb => ?_
      obtain ⟨x, v⟩ := p; obtain ⟨y, u⟩ := q
      simp only [ownB_shift] at hb ⊢
      exact hd b hb
    · obtain ⟨q', hq', rfl⟩ := List.mem_map.1 hq
      obtain ⟨y, u⟩ := q'
      simp only [ownB_shift] at hqb
      have := hA p hp b hb
      have := hA' (y, u) hq' b hqb
      omega
  · rcases List.mem_append.1 hp with hp | hp
    · rcases List.mem_append.1 hx with hx | hx
      · exact h.nm p hp b hb x hx
      · have := hA p hp b hb
        have := hm1 x hx
        omega
    · obtain ⟨q, hq, he⟩ := List.mem_map.1 hp
      subst he
      obtain ⟨y, u⟩ := q
      simp only [ownB_shift] at hb
      rcases List.mem_append.1 hx with hx | hx
      · have := hA' (y, u) hq b hb
        have := hm x hx
        omega
      · exact h1.nm (y, u) hq b hb x hx
  · rcases List.mem_append.1 hp with hp | hp
    · exact h.sp p hp b hb
    · obtain ⟨q, hq, he⟩ := List.mem_map.1 hp
      subst he
      obtain ⟨y, u⟩ := q
      simp only [ownB_shift] at hb
      have hlo := hA' (y, u) hq b hb
      refine ⟨fun i hx => by have := hX b i hx; omega, fun i hi => ?_⟩
      simp only [ownLen_shift] at hi
      exact (h1.sp (y, u) hq b hb).2 i hi
  · rw [List.map_append, List.nodup_append]
    refine ⟨h.mnd, h1.mnd, fun a ha b hb => ?_⟩
    obtain ⟨p, hp, rfl⟩ := List.mem_map.1 ha
    obtain ⟨q, hq, rfl⟩ := List.mem_map.1 hb
    have := hm p hp
    have := hm1 q hq
    omega
  · by_cases hg : g < hp.length
    · rw [List.getElem?_append_left hg] at e1
      rw [List.getElem?_append_left (by rw [h.ml]; exact hg)] at e2
      rw [List.getElem?_append_left (by rw [h.hl]; exact hg)] at e3
      exact h.bl g blk p vs e1 e2 e3
    · rw [List.getElem?_append_right (by omega)] at e1
      rw [List.getElem?_append_right (by rw [h.ml]; omega), h.ml] at e2
      rw [List.getElem?_append_right (by rw [h.hl]; omega), h.hl] at e3
      simp only [shiftH, List.getElem?_map, Option.map_eq_some_iff] at e1
      obtain ⟨blk1, e1, rfl⟩ := e1
      obtain ⟨a1, a2, a3, a4, a5, a6, a9, a10⟩ := h1.bl _ blk1 p vs e1 e2 e3
      refine ⟨by simp [shiftB, shifts_map, a1], a2, a3, a4, a5, a6, fun hf i => ⟨(a9 hf i).1, fun hx => (a9 hf i).2 (hX _ _ hx)⟩, a10⟩

theorem cellPairs_shift (n : Nat) : ∀ (hp : List Blk) (hv : List (List Value)), cellPairs (shiftH n hp) hv = (cellPairs hp hv).map fun p => (shift n p.1, p.2)
  | [], _ => rfl
  | b :: hp, [] => by simp [cellPairs, shiftH]
  | b :: hp, v :: hv => by
    have := cellPairs_shift n hp hv
    simp only [cellPairs, shiftH, List.map_cons, List.zip_cons_cons, List.flatMap_cons, List.map_append, shiftB, shifts_map] at this ⊢
    rw [this]
    congr 1
    rw [List.zip_map_left]; rfl

theorem cellPairs_app (hl : hv.length = hp.length) (hp1 : List Blk) (hv1 : List (List Value)) : cellPairs (hp ++ hp1) (hv ++ hv1) = cellPairs hp hv ++ cellPairs hp1 hv1 := by
  unfold cellPairs
  rw [List.zip_append hl.symm]
  simp

/-- its callers' blocks stay -/
theorem FCall.toS {f : Nat} {args : List AV} {r : AV} (h : FCall P f args r hp1) (hcl : closeds args = true) (hp : List Blk) : SCall P f args hp (shift hp.length r) (hp ++ shiftH hp.length hp1) := by
  refine ⟨h.1, fun S X yv w m B hv vs hl hrel => ?_⟩
  have hargs : ∀ (i : Nat) (x : AV) (v : Value), args[i]? = some x → vs[i]? = some v → RV S w [] none x v := by
    intro i x v h1 h2
    have : (x, v) ∈ args.zip vs := List.mem_iff_getElem?.2 ⟨i, by rw [List.getElem?_zip_eq_some]; exact ⟨h1, h2⟩⟩
    exact (hrel.rv _ (List.mem_append_left _ this)).closed (closeds_get hcl i x h1)
  refine CallsIn.mono (h.2 S w vs hl hargs (fun b i hs => hrel.lt b i (.inl hs)) hrel.gl) ?_
  rintro e w' ⟨v, S', m1, hv1, rfl, hb, h1, h2, h3, h4⟩
  have hr0 : Rel S X yv w m (B ++ cellPairs hp hv) hp hv := hrel.sub (List.sublist_append_right _ _)
  have hr1 := hr0.below hb h1 h2
  have hM := hr1.merge h4 (fun b i hx => hrel.lt b i (.inr hx)) hrel.mLt h3 hr0.ownLt
  refine ⟨v, S', m ++ m1, hv ++ hv1, rfl, ⟨agree_of_below hb _, h1, fun b i hs => (h2 b i hs).imp id fun hh hx => by have := hrel.lt b i (.inr hx); omega, fun g q hq => .inl (by rw [List.getElem?_append_left (List.getElem?_eq_some_iff.1 hq).1]; exact hq)⟩, ?_⟩
  rw [← hrel.ml, view_shift]
  refine hM.perm ?_
  rw [List.map_cons, ← cellPairs_shift, cellPairs_app hrel.hl]
  simp only
  refine (List.perm_middle).trans (List.Perm.cons _ ?_)
  rw [List.append_assoc]

/-- **A FUNCTION THAT HANDS OUT BLOCKS** -/
theorem FCall.ofW {f : Nat} {fn : Func} {c : Code} {args : List AV} {x : AV} (hf : P.funcs[f]? = some fn) (hb : fn.body = some c) (hn : (fn.name == "runtime.NumGoroutine") = false) (hargs : args.map AV.view = args) (hfro : hp1.all (fun b => !b.fro) = true)
    (hW : ∀ (Ev : Env P) (b : Ev.β), W Ev c ⟨startTm fn args, [], b⟩ (FnPost P fn fun y hp _ => y = x ∧ hp = hp1)) : FCall P f args x hp1 := by
  refine ⟨enter_ok hf hb hn, fun S w vs hl hvs hlt hgl => ?_⟩
  have hrel : Rel S (fun b _ => b < w.heap.size) none w [] (args.zip vs ++ ([] ++ cellPairs [] [])) [] [] := by
    have h0 : Rel S (fun b _ => b < w.heap.size) none w [] [] [] [] := ⟨fun b i h => h.elim (hlt b i) id, by simp, List.Pairwise.nil, by simp, by simp, by simp, rfl, rfl, by simp, hgl⟩
    have := h0.pushAll (args.zip vs) (fun p hp => by
      obtain ⟨j, hj⟩ := List.mem_iff_getElem?.1 hp
      rw [List.getElem?_zip_eq_some] at hj
      refine ⟨hvs j p.1 p.2 hj.1 hj.2, ?_⟩
      have hp1 : p.1.view = p.1 := by
        have h1 : (args.map AV.view)[j]? = some p.1.view := by simp [hj.1]
        rw [hargs, hj.1] at h1; exact (Option.some.inj h1).symm
      obtain ⟨p1, p2⟩ := p
      simp only at hp1
      rw [← hp1]; exact ownB_view _ _)
    simpa [cellPairs] using this
  refine calls_of_W (Ev := Env.none P none) (V := fun _ _ => False) (b := (() : Unit)) hf hb hl (hW (Env.none P _) (() : Unit)) hrel (fun _ _ h => h.elim) trivial (Nat.zero_le _) ?_
  intro y S' X' V' w' m' hv' hp' v b' hy htr0 hxs hm hr _ hyv
  obtain ⟨rfl, rfl⟩ := hy
  have htr : Tr (fun b i => ¬ b < w.heap.size) (fun _ => False) S w S' w' := htr0.mono (fun b i h => h.resolve_right id) (fun _ h => h)
  have hr' : Rel S' X' none w' m' (cellPairs hp' hv') hp' hv' := by
    have h0 := hr
    simp only [List.nil_append] at h0
    exact h0
  refine ⟨v, S', m', hv', rfl, below_of_tr htr (fun b i hb hz => hz hb) (fun _ h => h), htr.up, fun b i hs => ?_, fun p hp => ?_, (hr'.lessX hxs).cons hyv.view (ownB_view _ _)⟩
  · rcases htr.new b i hs with h1 | h1 | h1
    · exact .inl h1
    · exact .inr ⟨Nat.le_of_not_lt h1, htr.lt b i hs⟩
    · exact .inr ⟨h1, htr.lt b i hs⟩
  · obtain ⟨g, hg⟩ := List.mem_iff_getElem?.1 hp
    have hr2 : Rel S' X' none w' m' (([] : List (AV × Value)) ++ cellPairs hp' hv') hp' hv' := hr'
    obtain ⟨blk, us, cur, e, g1, g2, g3, g4, g5, g6, g7, g8, g9, g10, g11, g12⟩ := hr2.block hg
    have hfr : blk.fro = false := by
      have := List.all_eq_true.1 hfro blk (List.mem_of_getElem? g1)
      simpa using this
    exact Nat.le_of_not_lt fun hb => (g11 hfr 0).2 (hxs _ _ hb)
/-- the blocks that are handed out turn no more -/
theorem FCall.toP {f : Nat} {args : List AV} {r y : AV} (h : FCall P f args r hp1) (hs : SealR hp1 r.view y) : PCall P f args y := by
  refine ⟨h.1, fun S w vs hl hvs hlt hgl => CallsIn.mono (h.2 S w vs hl hvs hlt hgl) ?_⟩
  rintro e w' ⟨v, S', m1, hv1, rfl, hb, h1, h2, h3, h4⟩
  refine ⟨v, withBlocks S' m1, rfl, hb, fun b i hs => .inl (h1 b i hs), fun b i hs => ?_, (sealR_sound (B := []) (T := withBlocks S' m1) (by simpa using h4.sub (List.sublist_cons_self _ _)) (fun _ _ h => .inl h) hs (fun g _ p hp i hi => .inr ⟨g, p, hp, rfl, hi⟩) (h4.rv _ (List.mem_cons_self ..))).view⟩
  rcases hs with hs | ⟨g, p, hg, rfl, hi⟩
  · exact h2 b i hs
  · exact .inr ⟨h3 p (List.mem_of_getElem? hg), h4.mLt p (List.mem_of_getElem? hg)⟩
theorem shifts_flatA (n : Nat) (xs : List (List Dv)) : shifts n (flatA xs) = flatA xs := by
  rw [shifts_map]
  unfold flatA
  rw [List.map_map]
  exact List.map_congr_left fun d _ => by simp [shift]
end
end Go.Proofs.YtfeemohdpmdaoaaDoor.Am

/- Iterators, and ranging over them. -/
namespace Go.Proofs.YtfeemohdpmdaoaaDoor.Am
set_option linter.unusedVariables false
set_option linter.unusedSimpArgs false
open Go Go.RowKit

mutual
/-- it leans on blocks below n alone -/
def AV.low (n : Nat) : AV → Bool
  | .ref g .. | .ptr g _ | .gref g .. | .gptr g .. => g < n
  | .agg cs => lows n cs
  | .tup cs => lows n cs
  | .fn _ a b => lows n a && lows n b
  | _ => true
def lows (n : Nat) : List AV → Bool
  | [] => true
  | x :: r => x.low n && lows n r
end

def lowHp (n : Nat) (hp : List Blk) : Bool := (hp.take n).all fun blk => lows n blk.cells

/-- what a yield comes to: a round -/
abbrev YieldT (β : Type) := β → List AV → (Bool → β → Prop) → Prop

/-- what a contract of an iterator speaks of -/
abbrev SpT := ∀ {β : Type}, YieldT β → β → (β → Prop) → Prop

/-- an iterator's contract -/
def ICall (P : Program) (f : Nat) (args : List AV) (Sp : SpT) : Prop :=
  (∀ (as : Array Value) (w : World), (callFunc f as).run P w = .ok (.enter f as) w) ∧
  ∀ (Ev : Env P) (b : Ev.β) (Q : Ev.β → Prop), Sp Ev.Y b Q → ∀ (S X V : Pr) (w : World) (m : List MB) (hv : List (List Value)) (vs : List Value), args.length = vs.length →
    Rel S X Ev.yl w m (args.zip vs ++ ([] ++ cellPairs [] hv)) [] hv → (∀ b i, V b i → X b i) → Ev.E b S V w → Ev.N ≤ w.heap.size →
    CallsIn Fence.wide 0 P f vs.toArray w fun e w' => ∃ v b' S' V', e = .returned v ∧ Q b' ∧ Ev.E b' S' V' w'

/-- it yields the elements of a list, one after the other, until it is told to stop -/
def YList {β : Type} (Y : YieldT β) : List (List AV) → β → (β → Prop) → Prop
  | [], b, Q => Q b
  | x :: xs, b, Q => Y b x fun cont b' => if cont then YList Y xs b' Q else Q b'

def setParams (tm : List AV) (ps : Array Tmp) (args : List AV) : List AV := (ps.toList.zip args).foldl (fun tm p => tm.set p.1 p.2) tm

/-- by which jump a round was left -/
def codeOf : Exit → Code
  | .exit id => .exit id
  | .goto t => .goto t
  | _ => .ret

/-- a round -/
def YBody {P : Program} (Ev : Env P) (tm : List AV) (ps : Array Tmp) (assign body : Code) (n : Nat) : YieldT (List Blk × Ev.β × Option Exit) := fun b args Qy =>
  b.2.2 = none ∧ args.length = ps.size ∧ W Ev assign ⟨setParams (tm.map AV.view) ps (args.map AV.view), b.1, b.2.1⟩ fun e s1 => e = .normal ∧ W Ev body s1 fun e s2 => lowHp n s2.hp = true ∧ match e with
    | .normal => Qy true (s2.hp.take n, s2.b, none)
    | .ret => Qy false (s2.hp.take n, s2.b, some .ret)
    | .exit id => Qy false (s2.hp.take n, s2.b, some (.exit id))
    | .goto t => Qy false (s2.hp.take n, s2.b, some (.goto t))
    | _ => False

section
variable {P : Program} {S S' S'' X X' X'' V V' V'' Z : Pr} {L : Nat → Prop} {r : Option Nat} {lo : Nat} {yv : Option Nat} {w w' w'' : World} {m m' m'' : List MB} {A B T : List (AV × Value)} {hp hp' : List Blk} {hv hv' : List (List Value)} {call : CallT} {a a' : Act} {o : Oper} {ops : Array Oper} {Ev : Env P}
  {s : St Ev.β} {Q Q' : Exit → St Ev.β → Prop} {c c' : Code}

theorem lows_get {n : Nat} : ∀ {cs : List AV}, lows n cs = true → ∀ (i : Nat) (c : AV), cs[i]? = some c → c.low n = true
  | [], _, i, c, h => by simp at h
  | x :: r, hc, i, c, h => by
    simp only [lows, Bool.and_eq_true] at hc
    cases i with
    | zero => simp at h; subst h; exact hc.1
    | succ i => simp at h; exact lows_get hc.2 i c h

theorem RV.low {n : Nat} {x : AV} {v : Value} (h : RV S w m yv x v) : x.low n = true → RV S w (m.take n) yv x v := by
  induction h with
  | d h => exact fun _ => .d h
  | agg hl h ih => exact fun hc => .agg hl fun i c v h1 h2 => ih i c v h1 h2 (lows_get (by simpa [AV.low] using hc) i c h1)
  | tup hl h ih => exact fun hc => .tup hl fun i c v h1 h2 => ih i c v h1 h2 (lows_get (by simpa [AV.low] using hc) i c h1)
  | own h1 h2 => exact fun _ => .own h1 h2
  | ownNil => exact fun _ => .ownNil
  | full h => exact fun _ => .full h
  | rptr vals hne hsp hs hcc hr h1 => exact fun _ => .rptr vals hne hsp hs hcc hr h1
  | ref h hfit hn => exact fun hc => .ref (by rw [List.getElem?_take, if_pos (by simpa [AV.low] using hc)]; exact h) hfit hn
  | ptr h => exact fun hc => .ptr (by rw [List.getElem?_take, if_pos (by simpa [AV.low] using hc)]; exact h)
  | gref h hv h1 hcc => exact fun hc => .gref (by rw [List.getElem?_take, if_pos (by simpa [AV.low] using hc)]; exact h) hv h1 hcc
  | gptr h hv h1 hcc => exact fun hc => .gptr (by rw [List.getElem?_take, if_pos (by simpa [AV.low] using hc)]; exact h) hv h1 hcc
  | fn hf hl hl' h h' ih ih' =>
    intro hc
    simp only [AV.low, Bool.and_eq_true] at hc
    exact .fn hf hl hl' (fun i c v h1 h2 => ih i c v h1 h2 (lows_get hc.1 i c h1)) (fun i c v h1 h2 => ih' i c v h1 h2 (lows_get hc.2 i c h1))
  | yl h => exact fun _ => .yl h
  | bad => exact fun _ => .bad

theorem MStep.take {n : Nat} (h : MStep m m') (hl : m.length ≤ n) : MStep m (m'.take n) := by
  intro g p hp
  have hg : g < n := Nat.lt_of_lt_of_le (List.getElem?_eq_some_iff.1 hp).1 hl
  simp only [List.getElem?_take, if_pos hg]
  exact h g p hp

theorem MStep.len (h : MStep m m') : m.length ≤ m'.length := by
  rcases Nat.lt_or_ge m'.length m.length with hl | hl
  · have := h m'.length m[m'.length] (by simp [hl])
    simp at this
  · exact hl

/-- the blocks that were laid last are forgotten -/
theorem Rel.trunc {n : Nat} (h : Rel S X yv w m (T ++ cellPairs hp hv) hp hv) (hT : ∀ p ∈ T, RV S w (m.take n) yv p.1 p.2) (hlow : lowHp n hp = true) :
    Rel S X yv w (m.take n) (T ++ cellPairs (hp.take n) (hv.take n)) (hp.take n) (hv.take n) := by
  have hsub : (T ++ cellPairs (hp.take n) (hv.take n)).Sublist (T ++ cellPairs hp hv) := by
    refine List.Sublist.append (List.Sublist.refl _) ?_
    unfold cellPairs
    have : (hp.take n).zip (hv.take n) = (hp.zip hv).take n := by simp [List.zip, List.take_zipWith]
    rw [this]
    conv => rhs; rw [← List.take_append_drop n (hp.zip hv)]
    rw [List.flatMap_append]
    exact List.sublist_append_left _ _
  have hcell : ∀ p ∈ cellPairs (hp.take n) (hv.take n), p.1.low n = true := by
    intro p hp'
    simp only [cellPairs, List.mem_flatMap] at hp'
    obtain ⟨q, hq, hpq⟩ := hp'
    obtain ⟨q1, q2⟩ := q
    have hq1 := (List.of_mem_zip hq).1
    have hlq := List.all_eq_true.1 hlow q1 hq1
    obtain ⟨j, hj⟩ := List.mem_iff_getElem?.1 hpq
    rw [List.getElem?_zip_eq_some] at hj
    exact lows_get hlq j _ hj.1
  refine ⟨h.lt, fun p hp' => ?_, h.pw.sublist hsub, fun p hp' b hb x hx => h.nm p (hsub.subset hp') b hb x (List.mem_of_mem_take hx), fun p hp' => h.sp p (hsub.subset hp'), ?_, by simp [h.ml], by simp [h.hl], fun g blk p vs h1 h2 h3 => ?_, h.gl⟩
  · rcases List.mem_append.1 hp' with hp1 | hp1
    · exact hT p hp1
    · exact (h.rv p (hsub.subset hp')).low (hcell p hp1)
  · rw [List.map_take]; exact h.mnd.sublist (List.take_sublist _ _)
  · simp only [List.getElem?_take] at h1 h2 h3
    split at h1 <;> try (cases h1; done)
    rename_i hg
    rw [if_pos hg] at h2 h3
    exact h.bl g blk p vs h1 h2 h3

/-- other cells to keep away from -/
theorem Rel.setX (h : Rel S X yv w m A hp hv) (hlt : ∀ b i, X' b i → b < w.heap.size) (hm : ∀ (g : Nat) (blk : Blk) (p : MB), hp[g]? = some blk → m[g]? = some p → blk.fro = false → ∀ i, ¬ X' p.b i)
    (ho : ∀ p ∈ A, ∀ b, ownB p = some b → ∀ i, ¬ X' b i) : Rel S X' yv w m A hp hv :=
  ⟨fun b i hbi => hbi.elim (fun h1 => h.lt b i (.inl h1)) (hlt b i), h.rv, h.pw, h.nm, fun p hp b hb => ⟨ho p hp b hb, (h.sp p hp b hb).2⟩, h.mnd, h.ml, h.hl,
   fun g blk p vs h1 h2 h3 => let ⟨a1, a2, a3, a4, a5, a6, a9, a10⟩ := h.bl g blk p vs h1 h2 h3; ⟨a1, a2, a3, a4, a5, a6, fun hf i => ⟨(a9 hf i).1, hm g blk p h1 h2 hf i⟩, a10⟩, h.gl⟩

/-- the blocks that an activation may turn -/
def Owned (hp : List Blk) (m : List MB) (A : List (AV × Value)) (b : Nat) : Prop :=
  (∃ (g : Nat) (blk : Blk) (p : MB), hp[g]? = some blk ∧ m[g]? = some p ∧ blk.fro = false ∧ p.b = b) ∨ ∃ p ∈ A, ownB p = some b

theorem Rel.notX (h : Rel S X yv w m A hp hv) {b : Nat} (ho : Owned hp m A b) (i : Nat) : ¬ X b i := by
  rcases ho with ⟨g, blk, p, h1, h2, h3, rfl⟩ | ⟨p, hp, hb⟩
  · have hg : g < hv.length := by rw [h.hl]; exact (List.getElem?_eq_some_iff.1 h1).1
    exact ((h.bl g blk p hv[g] h1 h2 (by simp [hg])).2.2.2.2.2.2.1 h3 i).2
  · exact (h.sp p hp b hb).1 i

theorem Rel.ownedLt (h : Rel S X yv w m A hp hv) {b : Nat} (ho : Owned hp m A b) : b < w.heap.size := by
  rcases ho with ⟨g, blk, p, h1, h2, h3, rfl⟩ | ⟨p, hp, hb⟩
  · have hg : g < hv.length := by rw [h.hl]; exact (List.getElem?_eq_some_iff.1 h1).1
    obtain ⟨_, _, _, _, _, ⟨cur, e, h4, _⟩, _⟩ := h.bl g blk p hv[g] h1 h2 (by simp [hg])
    exact (Array.getElem?_eq_some_iff.1 h4).1
  · exact own_lt (h.rv p hp) (x := p.1) (v := p.2) hb

/-- whoever ranges: what holds of its world between two rounds. T: its temporaries (and its callers' pairs); w0: where the loop began; bs: its marks; l: the record -/
def RangeE (Ev : Env P) (r : Option Nat) (S0 X V0 : Pr) (w0 : World) (m0 : List MB) (T : List (AV × Value)) (n : Nat) (bs : List Nat) (l : Nat) (rec : Loop) (b : List Blk × Ev.β × Option Exit) (S V : Pr) (w : World) : Prop :=
  ∃ (Xc Vc : Pr) (mC : List MB) (hvC : List (List Value)), b.1.length = n ∧ Rel S Xc Ev.yl w mC (T ++ cellPairs b.1 hvC) b.1 hvC ∧ (∀ b i, Vc b i → Xc b i) ∧ Ev.E b.2.1 S Vc w ∧ MStep m0 mC ∧ RoundOk r w ∧
    (∀ b ∈ bs, w.heap[b]? = some (.deferred (some []))) ∧ (∀ c, Owned b.1 mC (T ++ cellPairs b.1 hvC) c → ∀ i, V c i) ∧ (∀ b i, Vc b i → V b i) ∧ (∀ b i, V b i → b < w.heap.size) ∧ (∀ b i, X b i → V b i) ∧
    w.heap[l]? = some (.loop { rec with state := if b.2.2.isNone then .ready else .done, pending := b.2.2.map codeOf }) ∧ Went Ev.L S0 X V0 w0 S Xc Vc w

theorem Rel.zm (h : ∀ c, Owned hp m A c → ∀ i, V c i) : (∀ (g : Nat) (blk : Blk) (p : MB), hp[g]? = some blk → m[g]? = some p → blk.fro = false → ∀ i, ¬ ¬ V p.b i) ∧ (∀ p ∈ A, ∀ b, ownB p = some b → ∀ i, ¬ ¬ V b i) :=
  ⟨fun g blk p h1 h2 h3 i hn => hn (h p.b (.inl ⟨g, blk, p, h1, h2, h3, rfl⟩) i), fun p hp b hb i hn => hn (h b (.inr ⟨p, hp, hb⟩) i)⟩

theorem RangeE.stable {S0 X V0 : Pr} {w0 : World} {m0 : List MB} {n : Nat} {bs : List Nat} {l : Nat} {rec : Loop} {b : List Blk × Ev.β × Option Exit} (h : RangeE Ev r S0 X V0 w0 m0 T n bs l rec b S V w)
    (ht : Tr (fun b i => ¬ V b i) (fun _ => False) S w S' w') : RangeE Ev r S0 X V0 w0 m0 T n bs l rec b S' V w' := by
  obtain ⟨Xc, Vc, mC, hvC, h0, h1, h2, h3, h4, h5, h6, h7, h8, h9, hXV, h10, h11⟩ := h
  obtain ⟨z1, z2⟩ := Rel.zm h7
  refine ⟨Xc, Vc, mC, hvC, h0, h1.still ht z1 z2 (fun _ _ h => .inl h), h2, Ev.stable h3 (ht.mono (fun b i hn hc => hn (h8 b i hc)) (fun _ h => h)), h4, h5.tr ht, fun b hb => ?_, h7, h8, fun b i hv => Nat.lt_of_lt_of_le (h9 b i hv) ht.size, hXV, ?_, ?_⟩
  · rcases ht.objs b _ (h6 b hb) rfl with h12 | ⟨h12, _⟩
    · exact h12
    · exact h12.elim
  · rcases ht.objs l _ h10 rfl with h12 | ⟨h12, _⟩
    · exact h12
    · exact h12.elim
  · exact ⟨h11.tr.trans ht (fun b i hb hz => .inl fun hx => hz (hXV b i hx)) (fun _ _ h => h.elim), h11.xs, h11.vs⟩

theorem putObj_other {d k : Nat} {o' o1 : Obj} (hk : w.heap[k]? = some o1) (hne : k ≠ d) : (w.putObj d o').heap[k]? = some o1 := by rw [World.putObj_heap_other hne]; exact hk

theorem RangeE.putObj {S0 X V0 : Pr} {w0 : World} {m0 : List MB} {n N : Nat} {bs : List Nat} {l : Nat} {rec : Loop} {b : List Blk × Ev.β × Option Exit} (h : RangeE Ev r S0 X V0 w0 m0 T n bs l rec b S V w)
    {d : Nat} {o : Obj} (o' : Obj) (hd : N ≤ d) (hdo : w.heap[d]? = some o) (ho : o.isCells = false) (hN : Ev.N ≤ N) (hw0 : w0.heap.size ≤ N) (hbs : ∀ b ∈ bs, b < N) (hl : l < N) (hr : ∀ l0, r = some l0 → l0 < N) :
    RangeE Ev r S0 X V0 w0 m0 T n bs l rec b S V (w.putObj d o') := by
  obtain ⟨Xc, Vc, mC, hvC, h0, h1, h2, h3, h4, h5, h6, h7, h8, h9, hXV, h10, h11⟩ := h
  refine ⟨Xc, Vc, mC, hvC, h0, h1.putObj hdo ho, h2, Ev.stableO o' h3 (Nat.le_trans hN hd) hdo ho, h4, fun l0 hl0 => ?_, fun b hb => ?_, h7, h8, fun b i hv => by simpa using h9 b i hv, hXV, ?_, ⟨h11.tr.putObj (Nat.le_trans hw0 hd) hdo, h11.xs, h11.vs⟩⟩
  · obtain ⟨rc, h12⟩ := h5 l0 hl0
    exact ⟨rc, putObj_other h12 (by have := hr l0 hl0; omega)⟩
  · exact putObj_other (h6 b hb) (by have := hbs b hb; omega)
  · exact putObj_other h10 (by omega)

theorem Went.lessX {V V' X1 : Pr} (h : Went L S X V w S' X' V' w') (hx : ∀ b i, X1 b i → X b i) : Went L S X1 V w S' X' V' w' :=
  ⟨h.tr.mono (fun b i hz => hz.imp (fun h1 h2 => h1 (hx b i h2)) id) (fun _ h => h), fun b i h1 => h.xs b i (hx b i h1), h.vs⟩

theorem Went.putObj {V V' : Pr} (h : Went L S X V w S' X' V' w') {d : Nat} {o o' : Obj} (hd : w.heap.size ≤ d) (hdo : w'.heap[d]? = some o) : Went L S X V w S' X' V' (w'.putObj d o') := ⟨h.tr.putObj hd hdo, h.xs, h.vs⟩

theorem setParams_pairs {G : AV × Value → Prop} : ∀ (ps : List Tmp) (xs : List AV) (vs : List Value) (tm : List AV) (tmps : Array Value), tm.length = tmps.size → (∀ p ∈ tm.zip tmps.toList, G p) → xs.length = vs.length →
    (∀ (i : Nat) (x : AV) (v : Value), xs[i]? = some x → vs[i]? = some v → G (x, v)) →
    ((ps.zip xs).foldl (fun tm p => tm.set p.1 p.2) tm).length = ((ps.zip vs).foldl (fun tmps p => tmps.setIfInBounds p.1 p.2) tmps).size ∧
      ∀ p ∈ ((ps.zip xs).foldl (fun tm p => tm.set p.1 p.2) tm).zip ((ps.zip vs).foldl (fun tmps p => tmps.setIfInBounds p.1 p.2) tmps).toList, G p
  | [], xs, vs, tm, tmps, hl, hG, hlx, hx => by simpa using ⟨hl, fun a b h => hG (a, b) h⟩
  | p :: ps, [], vs, tm, tmps, hl, hG, hlx, hx => by
    have : vs = [] := by simpa using hlx.symm
    subst this
    simpa using ⟨hl, fun a b h => hG (a, b) h⟩
  | p :: ps, x :: xs, [], tm, tmps, hl, hG, hlx, hx => by simp at hlx
  | p :: ps, x :: xs, v :: vs, tm, tmps, hl, hG, hlx, hx => by
    simp only [List.zip_cons_cons, List.foldl_cons]
    refine setParams_pairs ps xs vs _ _ (by simp [hl]) (fun q hq => ?_) (by simpa using hlx) (fun i y u h1 h2 => hx (i + 1) y u h1 h2)
    rw [Array.toList_setIfInBounds, zip_set] at hq
    rcases List.mem_or_eq_of_mem_set hq with h1 | rfl
    · exact hG q h1
    · exact hx 0 x v rfl rfl

theorem Tie.putLoop {s : RS} {b : Ev.β} (h : Tie Ev lo r S X V w m B hv s b a) {l : Nat} {rc : Loop} (rc' : Loop) (hl : w.heap[l]? = some (.loop rc)) (hN : Ev.N ≤ l) : Tie Ev lo r S X V (w.putObj l (.loop rc')) m B hv s b a := by
  have hll : l < w.heap.size := (Array.getElem?_eq_some_iff.1 hl).1
  refine ⟨⟨h.rel.1, h.rel.2.1.putObj hl rfl, h.rel.2.2⟩, h.sub, Ev.stableO _ h.env hN hl rfl, fun l0 hl0 => ?_, ?_, h.base.1, by simpa using h.base.2⟩
  · obtain ⟨rc0, h1⟩ := h.round l0 hl0
    by_cases he : l0 = l
    · subst he; exact ⟨rc', World.putObj_heap_same hll⟩
    · exact ⟨rc0, putObj_other h1 he⟩
  · obtain ⟨bs, h1, h2, h3⟩ := h.marks
    refine ⟨bs, h1, h2, fun b hb => ⟨(h3 b hb).1, putObj_other (h3 b hb).2 ?_⟩⟩
    rintro rfl
    have := (h3 _ hb).2
    rw [hl] at this; cases this

theorem YBody.mono {tm : List AV} {ps : Array Tmp} {assign body : Code} {n : Nat} {b : List Blk × Ev.β × Option Exit} {args : List AV} {Q Q' : Bool → (List Blk × Ev.β × Option Exit) → Prop} (h : YBody Ev tm ps assign body n b args Q)
    (hq : ∀ c b', Q c b' → Q' c b') : YBody Ev tm ps assign body n b args Q' := by
  refine ⟨h.1, h.2.1, W.mono h.2.2 fun e s1 h1 => ⟨h1.1, W.mono h1.2 fun e s2 h2 => ⟨h2.1, ?_⟩⟩⟩
  have h3 := h2.2
  cases e <;> first | exact hq _ _ h3 | exact h3

/-- **one round** -/
theorem range_round {S0 X V0 : Pr} {w0 : World} {m0 : List MB} {n : Nat} {bs : List Nat} {l : Nat} {rec : Loop} {b : List Blk × Ev.β × Option Exit} {args : List AV} {vs : List Value} {tm : List AV} {a : Act} {B : List (AV × Value)}
    {Qy : Bool → List Blk × Ev.β × Option Exit → Prop} (htm : tm.length = a.tmps.size) (hrec : rec.tmps = a.tmps) (hY : YBody Ev tm rec.params rec.assign rec.body n b args Qy)
    (hE : RangeE Ev r S0 X V0 w0 m0 (tm.zip a.tmps.toList ++ B) n bs l rec b S V w) (hl : args.length = vs.length) (hvs : ∀ (i : Nat) (x : AV) (v : Value), args[i]? = some x → vs[i]? = some v → RV S w [] none x v)
    (hNw : Ev.N ≤ w0.heap.size) (hlw : w0.heap.size ≤ l) (hm0 : m0.length ≤ n) :
    ∃ f tmps assign body, (Instr.yield l vs.toArray).run P w = .ok (.round l f tmps assign body) w ∧
      RoundIn Fence.wide 0 P l f tmps assign body w (fun e w' => ∃ cont b' S' V', e = .returned (.bool cont) ∧ Qy cont b' ∧ RangeE Ev r S0 X V0 w0 m0 (tm.zip a.tmps.toList ++ B) n bs l rec b' S' V' w' ∧ Tr V (fun x => x = l ∨ Ev.L x) S w S' w' ∧
        (∀ b i, V b i → V' b i) ∧ (∀ b i, V' b i → V b i ∨ (w.heap.size ≤ b ∧ b < w'.heap.size))) := by
  obtain ⟨hpC, bC, st⟩ := b
  obtain ⟨Xc, Vc, mC, hvC, h0, h1, h2, h3, h4, h5, h6, h7, h8, h9, hXV, h10, h11⟩ := hE
  obtain ⟨y1, y2, y3⟩ := hY
  simp only at y1 y2 y3 h0 h1 h3 h7 h10
  subst y1
  simp only [Option.isNone_none, if_true, Option.map_none] at h10
  have hw0 : w0.heap.size ≤ w.heap.size := h11.tr.size
  have hLl : ¬ Ev.L l := fun h => by have := Ev.Llt h; omega
  refine ⟨_, _, _, _, run_yield h10 (by simp [← hl, y2]), roundIn_of_wpIn (F := Fence.wide) trivial ?_⟩
  -- the round's first tie
  have hXb : ∀ b i, Xc b i → (b < w.heap.size ∧ ¬ Owned hpC mC ((tm.zip a.tmps.toList ++ B) ++ cellPairs hpC hvC) b) := fun b i hx => ⟨h1.lt b i (.inr hx), fun ho => h1.notX ho i hx⟩
  have hrelb : Rel S (fun b _ => b < w.heap.size ∧ ¬ Owned hpC mC ((tm.zip a.tmps.toList ++ B) ++ cellPairs hpC hvC) b) Ev.yl w mC ((tm.zip a.tmps.toList ++ B) ++ cellPairs hpC hvC) hpC hvC :=
    h1.setX (fun b i h => h.1) (fun g blk p g1 g2 g3 i h => h.2 (.inl ⟨g, blk, p, g1, g2, g3, rfl⟩)) (fun p hp b hb i h => h.2 (.inr ⟨p, hp, hb⟩))
  have hpairs := setParams_pairs (G := fun p => RV S w mC Ev.yl p.1 p.2 ∧ ownB p = none) rec.params.toList (args.map AV.view) vs (tm.map AV.view) a.tmps (by simpa using htm) (fun p hp => by
      obtain ⟨j, hj⟩ := List.mem_iff_getElem?.1 hp
      rw [List.getElem?_zip_eq_some] at hj
      obtain ⟨j1, j2⟩ := hj
      simp only [List.getElem?_map, Option.map_eq_some_iff] at j1
      obtain ⟨x, j1, j3⟩ := j1
      obtain ⟨p1, p2⟩ := p
      simp only at j2 j3
      subst j3
      refine ⟨(h1.rv (x, p2) (List.mem_append_left _ (List.mem_append_left _ (List.mem_iff_getElem?.2 ⟨j, ?_⟩)))).view, ownB_view _ _⟩
      rw [List.getElem?_zip_eq_some]; exact ⟨j1, j2⟩) (by simpa using hl) (fun i x v q1 q2 => by
      simp only [List.getElem?_map, Option.map_eq_some_iff] at q1
      obtain ⟨y, q1, rfl⟩ := q1
      exact ⟨(hvs i y v q1 q2).opened.view, ownB_view _ _⟩)
  have hfold : ((rec.params.zip vs.toArray).foldl (fun tmps (x : Tmp × Value) => tmps.setIfInBounds x.1 x.2) rec.tmps) = (rec.params.toList.zip vs).foldl (fun tmps p => tmps.setIfInBounds p.1 p.2) a.tmps := by
    rw [← Array.foldl_toList, Array.toList_zip, hrec]
  have hrecw : w.heap[l]? = some (.loop { rec with state := .ready, pending := none }) := h10
  have tie0 : Tie Ev w.heap.size (some l) S (fun b _ => b < w.heap.size ∧ ¬ Owned hpC mC ((tm.zip a.tmps.toList ++ B) ++ cellPairs hpC hvC) b) Vc w mC (tm.zip a.tmps.toList ++ B) hvC
      ⟨setParams (tm.map AV.view) rec.params (args.map AV.view), hpC, []⟩ bC { tmps := (rec.params.zip vs.toArray).foldl (fun tmps (x : Tmp × Value) => tmps.setIfInBounds x.1 x.2) rec.tmps, defers := [] } := by
    refine ⟨⟨?_, ?_, by intro p hp; cases hp⟩, fun b i hv => hXb b i (h2 b i hv), h3, fun l0 hl0 => ?_, ⟨[], rfl, List.nodup_nil, by simp⟩, by omega, Nat.le_refl _⟩
    · rw [hfold]; exact hpairs.1
    · rw [hfold]; exact hrelb.pushAll _ hpairs.2
    · cases hl0; exact ⟨_, hrecw⟩
  refine wpIn_mono (y3 w.heap.size (some l) S _ Vc w mC (tm.zip a.tmps.toList ++ B) hvC _ tie0) ?_
  rintro e a1 w1 ⟨s1, S1, X1, V1, m1, hv1, ⟨rfl, hWb⟩, ⟨went1, ms1⟩, tie1⟩
  have hrec1 : w1.heap[l]? = some (.loop { rec with state := .ready, pending := none }) := (went1.tr.objs l _ hrecw rfl).resolve_right fun h => hLl h.1
  refine ⟨_, run_beginRound hrec1 rfl, ?_⟩
  have tie1' := tie1.putLoop { rec with state := .busy, pending := none } hrec1 (Nat.le_trans hNw hlw)
  refine wpIn_mono (hWb w.heap.size (some l) S1 X1 V1 _ m1 (tm.zip a.tmps.toList ++ B) hv1 a1 tie1') ?_
  rintro e a2 w3 ⟨s2, S2, X2, V2, m2, hv2, ⟨hlow, hq⟩, ⟨went2, ms2⟩, tie2⟩
  have hl1 : l < w1.heap.size := (Array.getElem?_eq_some_iff.1 hrec1).1
  have hrec3 : w3.heap[l]? = some (.loop { rec with state := .busy, pending := none }) := (went2.tr.objs l _ (World.putObj_heap_same hl1) rfl).resolve_right fun h => hLl h.1
  have hl3 : l < w3.heap.size := (Array.getElem?_eq_some_iff.1 hrec3).1
  -- all together
  have key : ∀ st' : Option Exit, RangeE Ev r S0 X V0 w0 m0 (tm.zip a.tmps.toList ++ B) n bs l rec (s2.hp.take n, s2.b, st') S2 (fun b i => V b i ∨ (w.heap.size ≤ b ∧ b < w3.heap.size))
        (w3.putObj l (.loop { rec with state := if (st'.map codeOf).isNone then .ready else .done, pending := st'.map codeOf })) ∧
      Tr V (fun x => x = l ∨ Ev.L x) S w S2 (w3.putObj l (.loop { rec with state := if (st'.map codeOf).isNone then .ready else .done, pending := st'.map codeOf })) := by
    intro st'
    have htr2 : Tr (fun b i => ¬ (b < w.heap.size ∧ ¬ Owned hpC mC ((tm.zip a.tmps.toList ++ B) ++ cellPairs hpC hvC) b) ∨ Vc b i) (fun x => x = l ∨ Ev.L x) S w S1 (w1.putObj l (.loop { rec with state := .busy, pending := none })) :=
      went1.tr.putLoop (rc := { rec with state := .ready, pending := none }) .busy none hrec1
    have htr3 : Tr (fun b i => ¬ (b < w.heap.size ∧ ¬ Owned hpC mC ((tm.zip a.tmps.toList ++ B) ++ cellPairs hpC hvC) b) ∨ Vc b i) (fun x => x = l ∨ Ev.L x) S w S2 w3 :=
      htr2.trans went2.tr (fun b i hb hz => hz.elim (fun h => .inl fun hx => h (went1.xs b i hx)) fun h => (went1.vs b i h).elim .inr fun h' => absurd h' (by omega)) (fun x _ h => .inr h)
    have htr4 : Tr V (fun x => x = l ∨ Ev.L x) S w S2 (w3.putObj l (.loop { rec with state := if (st'.map codeOf).isNone then .ready else .done, pending := st'.map codeOf })) :=
      (htr3.putLoop (rc := { rec with state := .busy, pending := none }) (if (st'.map codeOf).isNone then .ready else .done) (st'.map codeOf) hrec3).mono' (fun b i hb hz => hz.elim (fun h => h7 b (Classical.byContradiction fun ho => h ⟨hb, ho⟩) i) (h8 b i)) (fun x hx => hx.elim .inl id)
    have hml : mC.length = n := by rw [h1.ml, h0]
    have hm2 := (ms1.trans ms2).len
    have hhl : s2.hp.length = m2.length := tie2.rel.2.1.ml.symm
    have hrel3 : Rel S2 X2 Ev.yl w3 (m2.take n) ((tm.zip a.tmps.toList ++ B) ++ cellPairs (s2.hp.take n) (hv2.take n)) (s2.hp.take n) (hv2.take n) :=
      (tie2.rel.2.1.sub (List.sublist_append_right _ _)).trunc (fun p hp => ((h1.rv p (List.mem_append_left _ hp)).tr htr3).blocks ((ms1.trans ms2).take (by omega))) hlow
    have hrel4 := hrel3.putObj (o' := .loop { rec with state := if (st'.map codeOf).isNone then .ready else .done, pending := st'.map codeOf }) hrec3 rfl
    have hwent : Went Ev.L S0 X V0 w0 S2 X2 V2 w3 := ((h11.trans (went1.lessX hXb)).putObj hlw hrec1).trans went2
    have hXbX2 : ∀ b i, (b < w.heap.size ∧ ¬ Owned hpC mC ((tm.zip a.tmps.toList ++ B) ++ cellPairs hpC hvC) b) → X2 b i := fun b i h => went2.xs b i (went1.xs b i h)
    refine ⟨⟨X2, V2, m2.take n, hv2.take n, ?_, hrel4, tie2.sub, Ev.stableO _ tie2.env (Nat.le_trans hNw hlw) hrec3 rfl, (h4.trans (ms1.trans ms2)).take hm0, h5.tr htr4, fun b hb => ?_, fun c hc i => ?_, fun b i hv => ?_, fun b i hv => ?_, fun b i hx => .inl (hXV b i hx), ?_, hwent.putObj hlw hrec3⟩, htr4⟩
    · simp; omega
    · rcases htr4.objs b _ (h6 b hb) rfl with h12 | ⟨_, o', _, _, _, _, h13, _⟩
      · exact h12
      · cases h13
    · have hcl := hrel3.ownedLt hc
      by_cases hcw : c < w.heap.size
      · refine .inl (h7 c (Classical.byContradiction fun ho => ?_) i)
        exact hrel3.notX hc i (hXbX2 c i ⟨hcw, ho⟩)
      · exact .inr ⟨by omega, hcl⟩
    · have hb3 : b < w3.heap.size := hrel3.lt b i (.inr (tie2.sub b i hv))
      rcases went2.vs b i hv with h12 | h12
      · rcases went1.vs b i h12 with h13 | h13
        · exact .inl (h8 b i h13)
        · exact .inr ⟨h13, hb3⟩
      · refine .inr ⟨Nat.le_trans went1.tr.size (by simpa using h12), hb3⟩
    · rcases hv with h12 | ⟨_, h12⟩
      · have := h9 b i h12; have := htr3.size; simp; omega
      · simpa using h12
    · rw [World.putObj_heap_same hl3]
      cases st' <;> rfl
  have hV1 : ∀ b i, V b i → (V b i ∨ (w.heap.size ≤ b ∧ b < w3.heap.size)) := fun _ _ h => .inl h
  cases e with
  | normal =>
    obtain ⟨k1, k2⟩ := key none
    exact ⟨_, _, run_endRound none hrec3, true, _, _, _, rfl, hq, k1, k2, hV1, fun b i h => by simpa using h⟩
  | ret =>
    obtain ⟨k1, k2⟩ := key (some .ret)
    exact ⟨_, _, run_endRound (some .ret) hrec3, false, _, _, _, rfl, hq, k1, k2, hV1, fun b i h => by simpa using h⟩
  | exit id =>
    obtain ⟨k1, k2⟩ := key (some (.exit id))
    exact ⟨_, _, run_endRound (some (.exit id)) hrec3, false, _, _, _, rfl, hq, k1, k2, hV1, fun b i h => by simpa using h⟩
  | goto t =>
    obtain ⟨k1, k2⟩ := key (some (.goto t))
    exact ⟨_, _, run_endRound (some (.goto t)) hrec3, false, _, _, _, rfl, hq, k1, k2, hV1, fun b i h => by simpa using h⟩
  | panic ch => exact hq.elim
  | outgrown => exact hq.elim

/-- the surroundings of an iterator that is ranged over -/
def rangeEnv (Ev : Env P) (r : Option Nat) (S0 X V0 : Pr) (w0 : World) (m0 : List MB) (tm : List AV) (a : Act) (B : List (AV × Value)) (n : Nat) (bs : List Nat) (l : Nat) (rec : Loop) (N : Nat) (htm : tm.length = a.tmps.size) (hrec : rec.tmps = a.tmps)
    (hNw : Ev.N ≤ w0.heap.size) (hlw : w0.heap.size ≤ l) (hm0 : m0.length ≤ n) (hlN : l < N) (hbs : ∀ b ∈ bs, b < N) (hr : ∀ l0, r = some l0 → l0 < N) : Env P :=
  { β := List Blk × Ev.β × Option Exit, N := N, yl := some l, L := fun x => x = l ∨ Ev.L x, E := RangeE Ev r S0 X V0 w0 m0 (tm.zip a.tmps.toList ++ B) n bs l rec, Y := YBody Ev tm rec.params rec.assign rec.body n,
    Llt := fun h => h.elim (fun h => h ▸ hlN) (fun h => by have := Ev.Llt h; omega)
    Ymono := fun h hq => YBody.mono h hq
    stable := fun h ht => h.stable ht
    stableO := fun o' h hd hdo ho => h.putObj o' hd hdo ho (by omega) (by omega) hbs hlN hr
    yok := fun hY hE hl hlen hvs _ => by
      cases hl
      exact range_round htm hrec hY hE hlen hvs hNw hlw hm0 }

theorem enter_loop (fn : FuncId) (tmps : Array Value) (ps : Array Tmp) (assign body : Code) (hr : RoundOk r w) :
    ∃ (l : Nat) (bs : List Nat) (w1 : World) (D : Nat), (Instr.enterLoop fn tmps ps assign body r).run P w = .ok (l, bs.map fun b => { target := .collected b, args := #[] }) w1 ∧ w1.heap[l]? = some (.loop { state := .ready, pending := none, fn, tmps, params := ps, assign, body, defers := D }) ∧
      Below w.heap.size w w1 ∧ w.heap.size ≤ l ∧ bs.Nodup ∧ ∀ b ∈ bs, w.heap.size ≤ b ∧ b < w1.heap.size ∧ w1.heap[b]? = some (.deferred (some [])) := by
  cases r with
  | none =>
    refine ⟨w.heap.size + 1, [w.heap.size], _, w.heap.size, run_enterLoop_outer fn tmps ps assign body, ?_, ((Below.refl _ _).alloc (Nat.le_refl _) _).alloc (by simp) _, by omega, by simp, ?_⟩
    · have := World.alloc_heap_new (w.alloc (.deferred (some []))) (.loop { state := .ready, pending := none, fn, tmps, params := ps, assign, body, defers := w.heap.size })
      simpa using this
    · intro b hb
      simp only [List.mem_singleton] at hb
      subst hb
      refine ⟨Nat.le_refl _, by simp; omega, ?_⟩
      rw [Below.heap_alloc _ _ _ (by simp)]
      exact World.alloc_heap_new w _
  | some l0 =>
    obtain ⟨rc, h1⟩ := hr l0 rfl
    refine ⟨w.heap.size, [], _, rc.defers, run_enterLoop_inner h1 fn tmps ps assign body, World.alloc_heap_new w _, (Below.refl _ _).alloc (Nat.le_refl _) _, Nat.le_refl _, List.nodup_nil, by simp⟩

/-- how a range over a function goes on -/
def rangeQ {β : Type} (tm : List AV) (Q : Exit → St β → Prop) (b : List Blk × β × Option Exit) : Prop :=
  match b.2.2 with
  | none => Q .normal ⟨tm, b.1, b.2.1⟩
  | some (.exit id) => Q (.exit id) ⟨tm, b.1, b.2.1⟩
  | some (.goto t) => Q (.goto t) ⟨tm, b.1, b.2.1⟩
  | some _ => Q .ret ⟨tm, b.1, b.2.1⟩

/-- **RANGE OVER A FUNCTION** -/
theorem W.range {g : Operand} {ps : Array Tmp} {assign body : Code} {k : Nat} {first caps : List AV} {Sp : SpT} (hg : evalA s.tm g = .fn (.func k) first caps) (hcl : closeds (first.map AV.view) = true) (hcl' : closeds (caps.map AV.view) = true)
    (hI : ICall P k ((first ++ [AV.yl] ++ caps).map AV.view) Sp) (h : Sp (YBody Ev s.tm ps assign body s.hp.length) (s.hp, s.b, none) (rangeQ s.tm Q)) : W Ev (.rangeFunc g ps assign body) s Q := by
  intro lo r S X V w m B hv a ht
  refine wpIn_rangeFunc fun fn _ => ?_
  obtain ⟨l, bs, w1, D, e1, e2, e3, e4, e5, e6⟩ := enter_loop (P := P) fn a.tmps ps assign body ht.round
  -- the function value
  have hfv := evalA_sound ht.rel g
  rw [hg] at hfv
  generalize hfe : a.eval g = fv at hfv
  cases hfv with
  | fn hne hl1 hl2 h1 h2 =>
    rename_i fs cs
    have hgs := Gs.below ht.rel.2.1 e3 (S' := S) ⟨fun _ _ h => h, fun _ _ h => .inl h⟩
    have hlt1 : ∀ b i, S b i → b < w1.heap.size := fun b i hs => Nat.lt_of_lt_of_le (ht.rel.slt b i hs) e3.size
    have htr := hgs.tr hlt1
    have hrel1 : Rel S X Ev.yl w1 m (s.tm.zip a.tmps.toList ++ (B ++ cellPairs s.hp hv)) s.hp hv := ht.rel.2.1.below e3 (fun _ _ h => h) (fun _ _ h => .inl h)
    have hl1w : l < w1.heap.size := (Array.getElem?_eq_some_iff.1 e2).1
    obtain ⟨bs0, m1, m2, m3⟩ := ht.marks
    have hbs0 : ∀ b ∈ bs0, b < w.heap.size := fun b hb => (Array.getElem?_eq_some_iff.1 (m3 b hb).2).1
    have hr0 : ∀ l0, r = some l0 → l0 < w.heap.size := fun l0 hl0 => by
      obtain ⟨rc, h3⟩ := ht.round l0 hl0
      exact (Array.getElem?_eq_some_iff.1 h3).1
    have hm0 : m.length ≤ s.hp.length := by rw [ht.rel.2.1.ml]; exact Nat.le_refl _
    have hbsN : ∀ b ∈ bs ++ bs0, b < w1.heap.size := fun b hb => (List.mem_append.1 hb).elim (fun h => (e6 b h).2.1) (fun h => Nat.lt_of_lt_of_le (hbs0 b h) e3.size)
    let Er := rangeEnv Ev r S X V w m s.tm a B s.hp.length (bs ++ bs0) l { state := .ready, pending := none, fn, tmps := a.tmps, params := ps, assign, body, defers := D } w1.heap.size ht.rel.1 rfl
      (Nat.le_trans ht.base.1 ht.base.2) e4 hm0 hl1w hbsN (fun l0 hl0 => Nat.lt_of_lt_of_le (hr0 l0 hl0) e3.size)
    have hargs : ((first ++ [AV.yl] ++ caps).map AV.view).length = (fs.toList ++ [Value.func (.yield l) #[] #[]] ++ cs.toList).length := by simp [hl1, hl2]
    have hpairs : ∀ p ∈ ((first ++ [AV.yl] ++ caps).map AV.view).zip (fs.toList ++ [Value.func (.yield l) #[] #[]] ++ cs.toList), RV S w1 [] (some l) p.1 p.2 ∧ ownB p = none := by
      intro p hp
      have hp1 := (List.of_mem_zip hp).1
      refine ⟨?_, ?_⟩
      · obtain ⟨j, hj⟩ := List.mem_iff_getElem?.1 hp
        rw [List.getElem?_zip_eq_some] at hj
        obtain ⟨j1, j2⟩ := hj
        simp only [List.map_append, List.map_cons, List.map_nil] at j1
        by_cases c1 : j < first.length
        · rw [List.append_assoc, List.getElem?_append_left (by simpa using c1)] at j1
          rw [List.append_assoc, List.getElem?_append_left (by simpa [← hl1] using c1)] at j2
          have hc := closeds_get hcl j _ j1
          simp only [List.getElem?_map, Option.map_eq_some_iff] at j1
          obtain ⟨y, j1, j3⟩ := j1
          have hy := ((h1 j y p.2 j1 (by simpa using j2)).view)
          rw [j3] at hy
          exact ((hy.tr htr).closed hc).opened
        · by_cases c2 : j = first.length
          · subst c2
            rw [List.getElem?_append_left (by simp), List.getElem?_append_right (by simp)] at j1
            rw [List.getElem?_append_left (by simp [← hl1]), List.getElem?_append_right (by simp [← hl1])] at j2
            simp [hl1] at j1 j2
            rw [← j1, ← j2]
            exact .yl rfl
          · rw [List.getElem?_append_right (by simp; omega)] at j1
            rw [List.getElem?_append_right (by simp [← hl1]; omega)] at j2
            simp only [List.length_append, List.length_map, List.length_cons, List.length_nil, Array.length_toList, ← hl1] at j1 j2
            have hc := closeds_get hcl' _ _ j1
            simp only [List.getElem?_map, Option.map_eq_some_iff] at j1
            obtain ⟨y, j1, j3⟩ := j1
            have hy := ((h2 _ y p.2 j1 (by simpa using j2)).view)
            rw [j3] at hy
            exact ((hy.tr htr).closed hc).opened
      · obtain ⟨p1, p2⟩ := p
        obtain ⟨y, _, rfl⟩ := List.mem_map.1 hp1
        exact ownB_view _ _
    have hrelI : Rel S (fun b _ => b < w1.heap.size) (some l) w1 [] (((first ++ [AV.yl] ++ caps).map AV.view).zip (fs.toList ++ [Value.func (.yield l) #[] #[]] ++ cs.toList) ++ ([] ++ cellPairs [] [])) [] [] := by
      have h0 : Rel S (fun b _ => b < w1.heap.size) (some l) w1 [] [] [] [] := ⟨fun b i h => h.elim (hlt1 b i) id, by simp, List.Pairwise.nil, by simp, by simp, by simp, rfl, rfl, by simp, hrel1.gl⟩
      simpa [cellPairs] using h0.pushAll _ hpairs
    have hE : Er.E (s.hp, s.b, none) S (fun b _ => b < w1.heap.size) w1 := by
      refine ⟨X, V, m, hv, rfl, by simpa using hrel1, ht.sub, Ev.stable ht.env (htr.mono (fun b i hx hv => hx (ht.sub b i hv)) (fun _ h => h)), MStep.refl m, ht.round.tr htr, fun b hb => ?_, fun c hc i => ?_, fun b i hv => ?_, fun b i h => h, fun b i hx => hrel1.lt b i (.inr hx), e2, hgs.went hlt1⟩
      · rcases List.mem_append.1 hb with h3 | h3
        · exact (e6 b h3).2.2
        · rw [e3.block b (hbs0 b h3)]; exact (m3 b h3).2
      · refine hrel1.ownedLt (b := c) ?_
        simpa using hc
      · exact hrel1.lt b i (.inr (ht.sub b i hv))
    have hcalls := hI.2 Er (s.hp, s.b, none) (rangeQ s.tm Q) h S _ (fun b _ => b < w1.heap.size) w1 [] [] _ hargs hrelI (fun _ _ h => h) hE (Nat.le_refl _)
    have hae : (fs.toList ++ [Value.func (.yield l) #[] #[]] ++ cs.toList).toArray = fs ++ #[Value.func (.yield l) #[] #[]] ++ cs := by apply Array.ext'; simp
    refine ⟨l, bs.map fun b => { target := .collected b, args := #[] }, w1, { target := .fn (.func k) cs, args := fs ++ #[Value.func (.yield l) #[] #[]] }, w1, k, fs ++ #[Value.func (.yield l) #[] #[]] ++ cs, w1, e1, ?_, fun _ _ => trivial, ?_, fun hd => (by cases hd), ?_⟩
    · have hm : Array.map a.eval #[Operand.const (Value.func (Fn.yield l) #[] #[])] = #[a.eval (Operand.const (Value.func (Fn.yield l) #[] #[]))] := by simp
      simp only [resolve, hfe, Deferred.ofValue, hm]; rfl
    · simp only [invoke]; exact hI.1 _ _
    · rw [hae] at hcalls
      refine (CallsIn.mono hcalls ?_ : CallsIn Fence.wide 0 P k _ w1 _)
      rintro e w3 ⟨v, ⟨hpE, bE, stE⟩, S', V', rfl, hQ, hE'⟩
      obtain ⟨Xc, Vc, mC, hvC, g0, g1, g2, g3, g4, g5, g6, g7, g8, g9, gXV, g10, g11⟩ := hE'
      simp only at g0 g1 g3 g10
      refine ⟨_, _, run_endLoop g10 (by cases stE <;> simp), ?_⟩
      have hlN : Ev.N ≤ l := Nat.le_trans (Nat.le_trans ht.base.1 ht.base.2) e4
      have hbeh : ∀ e, Q e ⟨s.tm, hpE, bE⟩ → Beh Ev lo r S X V w m B Q e { a with defers := (bs.map fun b => { target := .collected b, args := #[] }) ++ a.defers }
          (w3.putObj l (.loop { state := .exhausted, pending := stE.map codeOf, fn, tmps := a.tmps, params := ps, assign, body, defers := D })) := by
        intro e hQe
        refine ⟨⟨s.tm, hpE, bE⟩, S', Xc, Vc, mC, hvC, hQe, ⟨g11.putObj e4 g10, g4⟩, ⟨⟨ht.rel.1, ?_, by intro p hp; cases hp⟩, g2, Ev.stableO _ g3 hlN g10 rfl, fun l0 hl0 => ?_, ?_, ht.base.1, ?_⟩⟩
        · simpa using g1.putObj (o' := .loop { state := .exhausted, pending := stE.map codeOf, fn, tmps := a.tmps, params := ps, assign, body, defers := D }) g10 rfl
        · obtain ⟨rc, h3⟩ := g5 l0 hl0
          exact ⟨rc, putObj_other h3 (by have := hr0 l0 hl0; omega)⟩
        · refine ⟨bs ++ bs0, by simp [m1], ?_, fun b hb => ⟨?_, putObj_other (g6 b hb) ?_⟩⟩
          · rw [List.nodup_append]
            refine ⟨e5, m2, fun x hx y hy hxy => ?_⟩
            have := (e6 x hx).1; have := hbs0 y hy; omega
          · rcases List.mem_append.1 hb with h3 | h3
            · exact Nat.le_trans ht.base.2 (e6 b h3).1
            · exact (m3 b h3).1
          · rintro rfl
            have := g6 _ hb
            rw [g10] at this; cases this
        · simpa using Nat.le_trans ht.base.2 g11.tr.size
      cases stE with
      | none => exact hbeh .normal hQ
      | some e =>
        cases e with
        | exit id => exact wpIn_exit (hbeh (.exit id) hQ)
        | goto t => exact wpIn_goto (hbeh (.goto t) hQ)
        | ret => exact wpIn_ret (hbeh .ret hQ)
        | normal => exact wpIn_ret (hbeh .ret hQ)
        | panic ch => exact wpIn_ret (hbeh .ret hQ)
        | outgrown => exact wpIn_ret (hbeh .ret hQ)

/-- **AN ITERATOR'S CONTRACT OUT OF ITS WALK** -/
theorem ICall.ofW {f : Nat} {fn : Func} {args : List AV} {Sp : SpT} (hf : P.funcs[f]? = some fn) (hb : fn.body = some c) (hn : (fn.name == "runtime.NumGoroutine") = false)
    (hW : ∀ (Ev : Env P) (b : Ev.β) (Q : Ev.β → Prop), Sp Ev.Y b Q → W Ev c ⟨startTm fn args, [], b⟩ (FnPost P fn fun _ _ b' => Q b')) : ICall P f args Sp := by
  refine ⟨enter_ok hf hb hn, fun Ev b Q hSp S X V w m hv vs hl hrel hV hE hN => ?_⟩
  refine calls_of_W (Ev := Ev) (V := V) (B := []) hf hb hl (hW Ev b Q hSp) hrel hV hE hN ?_
  intro y S' X' V' w' m' hv' hp' v b' hq _ _ _ _ hE' _
  exact ⟨v, b', S', V', rfl, hq, hE'⟩

end
end Go.Proofs.YtfeemohdpmdaoaaDoor.Am

/- Runs: code that is walked by computation. -/
namespace Go.Proofs.YtfeemohdpmdaoaaDoor.Am
set_option linter.unusedVariables false
open Go Go.RowKit

/-- how many of a drawn region's operations are taken as pure -/
def findK (ops : Array Oper) : Nat → Option Nat
  | 0 => if drawOk ops 0 then some 0 else none
  | k + 1 => if drawOk ops (k + 1) then some (k + 1) else findK ops k

def leadPure : List Oper → Nat
  | [] => 0
  | o :: l => if pureKind o && !isApp o then leadPure l + 1 else 0

/-- appends counted too -/
def leadApp : List Oper → Nat
  | [] => 0
  | o :: l => if pureKind o then leadApp l + 1 else 0

def runRegion (P : Program) (call : CallT) (ops : Array Oper) (draw : Bool) (tm : List AV) (hp : List Blk) : Option (List AV × List Blk) :=
  if draw then match findK ops (leadPure ops.toList) with
    | some k => if k ≤ ops.size then match xPre P call ops hp (ops.toList.take k) tm with
      | some tmK => (xOps P call ops (ops.toList.drop k) ⟨tmK, hp, pvAll P hp tmK (ops.toList.take k)⟩).map fun s => (s.tm, s.hp)
      | none => none
      else none
    | none => none
  else (xOps P call ops ops.toList ⟨tm, hp, []⟩).map fun s => (s.tm, s.hp)

def run (P : Program) (call : CallT) : Nat → Code → List AV → List Blk → Option (Exit × List AV × List Blk)
  | 0, _, _, _ => none
  | n + 1, .skip, tm, hp => some (.normal, tm, hp)
  | n + 1, .label _, tm, hp => some (.normal, tm, hp)
  | n + 1, .exit id, tm, hp => some (.exit id, tm, hp)
  | n + 1, .goto l, tm, hp => some (.goto l, tm, hp)
  | n + 1, .ret, tm, hp => some (.ret, tm, hp)
  | n + 1, .region _ ops d, tm, hp => match runRegion P call ops d tm hp with
    | some (tm', hp') => some (.normal, tm', hp')
    | none => none
  | n + 1, .seq x y, tm, hp => match run P call n x tm hp with
    | some (.normal, tm', hp') => run P call n y tm' hp'
    | r => r
  | n + 1, .cond x c c', tm, hp => match evalA tm x with
    | .d (.s (.bool true)) => run P call n c tm hp
    | .d (.s (.bool false)) => run P call n c' tm hp
    | _ => none
  | n + 1, .block id c, tm, hp => match run P call n c tm hp with
    | some (.exit id', tm', hp') => if id' = id then some (.normal, tm', hp') else some (.exit id', tm', hp')
    | r => r
  | n + 1, .loop c, tm, hp => match run P call n c tm hp with
    | some (.normal, tm', hp') => run P call n (.loop c) tm' hp'
    | r => r
  | _, _, _, _ => none

/-- a function, run -/
def runFn (P : Program) (call : CallT) (n : Nat) (fn : Func) (args : List AV) : Option AV :=
  match fn.body with
  | some c => match run P call n c (startTm fn args) [] with
    | some (.ret, tm, hp) | some (.normal, tm, hp) => match resAs P hp tm fn.results.toList with
      | some ys => sealV hp (resV ys)
      | none => none
    | _ => none
  | none => none

section
variable {P : Program} {S S' S'' X X' V V' Z : Pr} {L : Nat → Prop} {r : Option Nat} {lo : Nat} {yv : Option Nat} {w w' w'' : World} {m m' m'' : List MB} {A B : List (AV × Value)} {hp hp' : List Blk} {tm tm' : List AV} {hv hv' : List (List Value)} {call : CallT} {a a' : Act} {o : Oper} {ops : Array Oper} {Ev : Env P}
  {s : St Ev.β} {b : Ev.β} {Q Q' : Exit → St Ev.β → Prop} {c c' : Code}

theorem findK_spec : ∀ {n k : Nat}, findK ops n = some k → drawOk ops k = true
  | 0, k, h => by
    simp only [findK] at h
    split at h <;> try (cases h; done)
    rename_i h1; cases h; exact h1
  | n + 1, k, h => by
    simp only [findK] at h
    split at h
    · rename_i h1; cases h; exact h1
    · exact findK_spec h

theorem xh_noCall {t : RS} (hno : opCall t.tm o = none) : xh P call t o = xh P noCall t o := by
  unfold xh
  split <;> first | rfl | skip
  rename_i c ho
  cases hc : c.callee with
  | value f => simp [opCall, ho, hc] at hno; simp [hno]
  | builtin bb => cases bb <;> rfl
  | invoke => rfl

/-- a table of calls serves the logic -/
theorem wOps_of_xOps (hcall : CallOk P call) {R : RS → Ev.β → Prop} {s' : RS} : ∀ {l : List Oper} {t : RS}, xOps P call ops l t = some s' → R s' b → wOps Ev ops l t b R
  | [], t, hx, hR => by simp only [xOps, Option.some.injEq] at hx; subst hx; exact hR
  | o :: l, t, hx, hR => by
    simp only [xOps] at hx
    split at hx <;> try (cases hx; done)
    rename_i t1 h1
    have ih := wOps_of_xOps (t := t1) hcall hx hR
    simp only [wOps]
    refine ⟨t, .rfl, ?_⟩
    cases hoc : opCall t.tm o with
    | none =>
      refine .inl ⟨t1, ?_, ih⟩
      rw [← h1]
      unfold xStep
      rw [xh_noCall (call := call) hoc]
    | some ka =>
      obtain ⟨k, args⟩ := ka
      have hxa := opCall_xa (P := P) hoc
      cases hw : wantedA ops o t.tm with
      | none => simp [xStep, hw] at h1
      | some bw =>
        cases bw with
        | false =>
          refine .inl ⟨t1, ?_, ih⟩
          rw [← h1]
          simp [xStep, hw]
        | true =>
          refine .inr (.inl ⟨rfl, k, args, rfl, ?_⟩)
          have hoc' := hoc
          unfold opCall at hoc'
          split at hoc' <;> try (cases hoc'; done)
          rename_i c ho
          split at hoc' <;> try (cases hoc'; done)
          rename_i f hc
          have hxq : xq P t.hp (evalA t.tm) o = none := by simp [xq, ho, hc]
          simp only [xStep, hw, hxa, hxq] at h1
          have hxh : xh P call t o = some t1 := by
            cases hh : xh P call t o with
            | none => simp [hh] at h1
            | some t2 => simp [hh] at h1; rw [h1]
          unfold xh at hxh
          simp only [ho, hc, hoc'] at hxh
          split at hxh
          · rename_i x hx'
            cases hxh
            split at hx' <;> try (cases hx'; done)
            rename_i hcl
            exact .inl ⟨hcl, x, hcall.p _ _ _ _ hx', ih⟩
          · split at hxh <;> try (cases hxh; done)
            rename_i x hp' hs
            cases hxh
            exact .inr ⟨x, hp', hcall.s _ _ _ _ _ hs, ih⟩

theorem runRegion_sound {id : Nat} {d : Bool} (hm : P.follows .mixedOrders = true) (hcall : CallOk P call) (h : runRegion P call ops d tm hp = some (tm', hp')) (hq : Q .normal ⟨tm', hp', b⟩) : W Ev (.region id ops d) ⟨tm, hp, b⟩ Q := by
  unfold runRegion at h
  cases d with
  | true =>
    simp only [if_true] at h
    split at h <;> try (cases h; done)
    rename_i k hk
    split at h <;> try (cases h; done)
    rename_i hks
    split at h <;> try (cases h; done)
    rename_i tmK hpre
    simp only [Option.map_eq_some_iff, Prod.mk.injEq] at h
    obtain ⟨s', hx, rfl, rfl⟩ := h
    exact W.draw (s := ⟨tm, hp, b⟩) k call hm hcall (findK_spec hk) hks hpre (wOps_of_xOps hcall hx hq)
  | false =>
    simp only [Bool.false_eq_true, if_false, Option.map_eq_some_iff, Prod.mk.injEq] at h
    obtain ⟨s', hx, rfl, rfl⟩ := h
    exact W.region (s := ⟨tm, hp, b⟩) (wOps_of_xOps hcall hx hq)

theorem run_both (hm : P.follows .mixedOrders = true) (hcall : CallOk P call) : ∀ n : Nat,
    (∀ (c : Code) (tm : List AV) (hp : List Blk) (e : Exit) (tm' : List AV) (hp' : List Blk) (Q : Exit → St Ev.β → Prop), run P call n c tm hp = some (e, tm', hp') → Q e ⟨tm', hp', b⟩ → W Ev c ⟨tm, hp, b⟩ Q) ∧
    (∀ (c : Code) (tm : List AV) (hp : List Blk) (e : Exit) (tm' : List AV) (hp' : List Blk) (Q : Exit → St Ev.β → Prop), run P call n (.loop c) tm hp = some (e, tm', hp') → Q e ⟨tm', hp', b⟩ →
      ∀ (lo : Nat) (r : Option Nat) (S X V : Pr) (w : World) (m : List MB) (B : List (AV × Value)) (S0 X0 V0 : Pr) (w0 : World) (m0 : List MB) (hv : List (List Value)) (a : Act), (Went Ev.L S X V w S0 X0 V0 w0 ∧ MStep m m0) → Tie Ev lo r S0 X0 V0 w0 m0 B hv ⟨tm, hp, []⟩ b a →
        Code.roundsIn (Fn r) 0 P c (Beh Ev lo r S X V w m B Q) n a w0) := by
  intro n
  induction n with
  | zero => exact ⟨fun c tm hp e tm' hp' Q h => by simp [run] at h, fun c tm hp e tm' hp' Q h => by simp [run] at h⟩
  | succ n ih =>
    obtain ⟨ih1, ih2⟩ := ih
    have hloop : ∀ (c : Code) (tm : List AV) (hp : List Blk) (e : Exit) (tm' : List AV) (hp' : List Blk) (Q : Exit → St Ev.β → Prop), run P call (n + 1) (.loop c) tm hp = some (e, tm', hp') → Q e ⟨tm', hp', b⟩ →
      ∀ (lo : Nat) (r : Option Nat) (S X V : Pr) (w : World) (m : List MB) (B : List (AV × Value)) (S0 X0 V0 : Pr) (w0 : World) (m0 : List MB) (hv : List (List Value)) (a : Act), (Went Ev.L S X V w S0 X0 V0 w0 ∧ MStep m m0) → Tie Ev lo r S0 X0 V0 w0 m0 B hv ⟨tm, hp, []⟩ b a →
        Code.roundsIn (Fn r) 0 P c (Beh Ev lo r S X V w m B Q) (n + 1) a w0 := by
      intro c tm hp e tm' hp' Q h hq lo r S X V w m B S0 X0 V0 w0 m0 hv a hgo ht
      rw [roundsIn_succ]
      simp only [run] at h
      split at h
      · rename_i tm1 hp1 h1
        refine wpIn_mono (ih1 c tm hp .normal tm1 hp1 (fun e s => e = .normal ∧ s = ⟨tm1, hp1, b⟩) h1 ⟨rfl, rfl⟩ lo r S0 X0 V0 w0 m0 B hv a ht) ?_
        rintro e1 a1 w1 ⟨s1, S1, X1, V1, m1, hv1, ⟨rfl, rfl⟩, h2, h3⟩
        exact ih2 c tm1 hp1 e tm' hp' Q h hq lo r S X V w m B S1 X1 V1 w1 m1 hv1 a1 ⟨hgo.1.trans h2.1, hgo.2.trans h2.2⟩ h3
      · rename_i rr hne
        refine wpIn_mono (ih1 c tm hp e tm' hp' (fun e1 s => e1 = e ∧ s = ⟨tm', hp', b⟩) h ⟨rfl, rfl⟩ lo r S0 X0 V0 w0 m0 B hv a ht) ?_
        rintro e1 a1 w1 ⟨s1, S1, X1, V1, m1, hv1, ⟨rfl, rfl⟩, h2, h3⟩
        have hb : Beh Ev lo r S X V w m B Q e1 a1 w1 := Beh.from hgo ⟨_, S1, X1, V1, m1, hv1, hq, h2, h3⟩
        cases e1 with
        | normal => exact absurd h (hne tm' hp')
        | exit id => exact hb
        | goto l => exact hb
        | ret => exact hb
        | panic ch => exact hb
        | outgrown => exact hb
    refine ⟨fun c tm hp e tm' hp' Q h hq => ?_, hloop⟩
    cases c with
    | skip => simp only [run, Option.some.injEq, Prod.mk.injEq] at h; obtain ⟨rfl, rfl, rfl⟩ := h; exact W.skip hq
    | label l => simp only [run, Option.some.injEq, Prod.mk.injEq] at h; obtain ⟨rfl, rfl, rfl⟩ := h; exact W.label hq
    | exit id => simp only [run, Option.some.injEq, Prod.mk.injEq] at h; obtain ⟨rfl, rfl, rfl⟩ := h; exact W.exit hq
    | goto l => simp only [run, Option.some.injEq, Prod.mk.injEq] at h; obtain ⟨rfl, rfl, rfl⟩ := h; exact W.goto hq
    | ret => simp only [run, Option.some.injEq, Prod.mk.injEq] at h; obtain ⟨rfl, rfl, rfl⟩ := h; exact W.ret hq
    | region id ops d =>
      simp only [run] at h
      split at h <;> try (cases h; done)
      rename_i tm1 hp1 h1
      simp only [Option.some.injEq, Prod.mk.injEq] at h
      obtain ⟨rfl, rfl, rfl⟩ := h
      exact runRegion_sound hm hcall h1 hq
    | seq x y =>
      simp only [run] at h
      refine W.seq ?_
      split at h
      · rename_i tm1 hp1 h1
        exact ih1 x tm hp .normal tm1 hp1 _ h1 (ih1 y tm1 hp1 e tm' hp' Q h hq)
      · rename_i rr hne
        refine ih1 x tm hp e tm' hp' _ h ?_
        cases e with
        | normal => exact absurd h (hne tm' hp')
        | exit id => exact hq
        | goto l => exact hq
        | ret => exact hq
        | panic ch => exact hq
        | outgrown => exact hq
    | cond x c c' =>
      simp only [run] at h
      split at h <;> try (cases h; done)
      · rename_i hx; exact W.cond (t := true) hx (ih1 c tm hp e tm' hp' Q h hq)
      · rename_i hx; exact W.cond (t := false) hx (ih1 c' tm hp e tm' hp' Q h hq)
    | block id c =>
      simp only [run] at h
      refine W.block ?_
      split at h
      · rename_i id' tm1 hp1 h1
        refine ih1 c tm hp (.exit id') tm1 hp1 _ h1 ?_
        simp only [catchExit]
        split at h
        · rename_i he
          simp only [Option.some.injEq, Prod.mk.injEq] at h
          obtain ⟨rfl, rfl, rfl⟩ := h
          rw [if_pos he]; exact hq
        · rename_i he
          simp only [Option.some.injEq, Prod.mk.injEq] at h
          obtain ⟨rfl, rfl, rfl⟩ := h
          rw [if_neg he]; exact hq
      · rename_i rr hne
        refine ih1 c tm hp e tm' hp' _ h ?_
        cases e with
        | exit id' => exact absurd h (hne id' tm' hp')
        | normal => exact hq
        | goto l => exact hq
        | ret => exact hq
        | panic ch => exact hq
        | outgrown => exact hq
    | loop c =>
      intro lo r S X V w m B hv a ht
      exact wpIn_loop_rounds (n + 1) (hloop c tm hp e tm' hp' Q h hq lo r S X V w m B S X V w m hv a ⟨Went.refl ht.rel.slt, MStep.refl m⟩ ht)
    | rangeFunc f ps assign body => simp [run] at h
    | scope body => simp [run] at h
    | refuse why => simp [run] at h

/-- **code, run** -/
theorem W.ofRun {n : Nat} {e : Exit} (hm : P.follows .mixedOrders = true) (hcall : CallOk P call) (h : run P call n c tm hp = some (e, tm', hp')) (hq : Q e ⟨tm', hp', b⟩) : W Ev c ⟨tm, hp, b⟩ Q := (run_both hm hcall n).1 c tm hp e tm' hp' Q h hq

/-- **a function, run** -/
theorem PCall.ofRun {n f : Nat} {fn : Func} {args : List AV} {x : AV} (hm : P.follows .mixedOrders = true) (hcall : CallOk P call) (hf : P.funcs[f]? = some fn) (hn : (fn.name == "runtime.NumGoroutine") = false) (hargs : args.map AV.view = args)
    (h : runFn P call n fn args = some x) : PCall P f args x := by
  unfold runFn at h
  split at h <;> try (cases h; done)
  rename_i c hb
  refine PCall.ofW hf hb hn hargs fun Ev b => ?_
  split at h <;> try (cases h; done)
  · rename_i tm hp hr
    split at h <;> try (cases h; done)
    rename_i ys hys
    exact W.ofRun hm hcall hr ⟨.inl rfl, ys, hys, h⟩
  · rename_i tm hp hr
    split at h <;> try (cases h; done)
    rename_i ys hys
    exact W.ofRun hm hcall hr ⟨.inr rfl, ys, hys, h⟩

end
end Go.Proofs.YtfeemohdpmdaoaaDoor.Am

/- Contracts of other make: of calls on plain values. -/
namespace Go.Proofs.YtfeemohdpmdaoaaDoor.Am
set_option linter.unusedVariables false
open Go Go.RowKit

theorem PCall.ofCalls {P : Program} {f : Nat} (vals : List Value) {v : Value} (hent : ∀ (as : Array Value) (w : World), (callFunc f as).run P w = .ok (.enter f as) w)
    (h : ∀ w, Calls P f vals.toArray w fun e w' => e = .returned v ∧ w' = w) : PCall P f (vals.map fun v => .d (.s v)) (ofVal v) := by
  refine ⟨hent, fun S w vs hl hvs hlt _ => ?_⟩
  have he : vs = vals := by
    apply List.ext_getElem?
    intro i
    by_cases hi : i < vals.length
    · have h1 := hvs i (.d (.s vals[i])) (vs[i]'(by simpa [← hl] using hi)) (by simp [hi]) (by simp)
      cases h1 with
      | d h1 =>
        generalize hv : vs[i]'(by simpa [← hl] using hi) = u at h1
        cases h1
        rw [List.getElem?_eq_some_iff.2 ⟨by simpa [← hl] using hi, hv⟩]
        simp [hi]
    · rw [List.getElem?_eq_none (by simpa [← hl] using hi), List.getElem?_eq_none (by omega)]
  subst he
  refine CallsIn.mono (callsIn_wide.2 (h w)) ?_
  rintro e w' ⟨rfl, rfl⟩
  exact ⟨v, S, rfl, Below.refl _ _, fun _ _ h => h, fun _ _ h => .inl h, (RV.ofVal v).view⟩

end Go.Proofs.YtfeemohdpmdaoaaDoor.Am

/- Blocks that are forgotten. -/
namespace Go.Proofs.YtfeemohdpmdaoaaDoor.Am
set_option linter.unusedVariables false
open Go Go.RowKit

/-- the temporaries, without those that lean on forgotten blocks -/
def lowTm (n : Nat) (tm : List AV) : List AV := tm.map fun x => if x.low n then x else .bad

section
variable {P : Program} {S S' S'' X X' V V' Z : Pr} {L : Nat → Prop} {r : Option Nat} {lo : Nat} {yv : Option Nat} {w w' w'' : World} {m m' m'' : List MB} {A B : List (AV × Value)} {hp hp' : List Blk} {tm tm' : List AV} {hv hv' : List (List Value)} {a a' : Act} {Ev : Env P}
  {s : St Ev.β} {b : Ev.β} {Q Q' : Exit → St Ev.β → Prop} {c c' : Code}

theorem ownB_low {n : Nat} {x : AV} {v : Value} {b : Nat} (h : ownB (if x.low n then x else .bad, v) = some b) : ownB (x, v) = some b := by
  split at h
  · exact h
  · cases h

/-- readings that say less -/
theorem Rel.lowered (n : Nat) : ∀ {tm : List AV} {vs : List Value} {C : List (AV × Value)}, Rel S X yv w m (tm.zip vs ++ C) hp hv → Rel S X yv w m ((lowTm n tm).zip vs ++ C) hp hv
  | [], vs, C, h => h
  | x :: tm, [], C, h => by simpa [lowTm] using h
  | x :: tm, v :: vs, C, h => by
    have h1 : Rel S X yv w m (tm.zip vs ++ ((x, v) :: C)) hp hv := h.perm (by simpa using (List.perm_middle (a := (x, v)) (l₁ := tm.zip vs) (l₂ := C)).symm)
    have h2 := Rel.lowered n h1
    have h3 : Rel S X yv w m ((x, v) :: ((lowTm n tm).zip vs ++ C)) hp hv := h2.perm List.perm_middle
    simp only [lowTm, List.map_cons, List.zip_cons_cons, List.cons_append]
    split
    · exact h3
    · exact (h3.sub (List.sublist_cons_self _ _)).cons .bad rfl

/-- blocks that were laid within a piece of code are forgotten at its end -/
theorem W.scratch (h : W Ev c s fun e s' => lowHp s.hp.length s'.hp = true ∧ Q e ⟨lowTm s.hp.length s'.tm, s'.hp.take s.hp.length, s'.b⟩) : W Ev c s Q := by
  intro lo r S X V w m B hv a ht
  refine wpIn_mono (h lo r S X V w m B hv a ht) ?_
  rintro e a' w' ⟨s', S', X', V', m', hv', ⟨hlow, hq⟩, ⟨hw, hm⟩, ht'⟩
  refine ⟨_, S', X', V', m'.take s.hp.length, hv'.take s.hp.length, hq, ⟨hw, hm.take (by rw [ht.rel.2.1.ml]; exact Nat.le_refl _)⟩, ⟨⟨by simpa [lowTm] using ht'.rel.1, ?_, by intro p hp; cases hp⟩, ht'.sub, ht'.env, ht'.round, ht'.marks, ht'.base⟩⟩
  have hn : m.length ≤ s.hp.length := by rw [ht.rel.2.1.ml]; exact Nat.le_refl _
  have h1 := ht'.rel.2.1.lowered (n := s.hp.length)
  rw [← List.append_assoc] at h1 ⊢
  refine h1.trunc (fun p hp => ?_) hlow
  rcases List.mem_append.1 hp with hp | hp
  · have hp1 := (List.of_mem_zip hp).1
    have hrv := h1.rv p (List.mem_append_left _ (List.mem_append_left _ hp))
    refine hrv.low ?_
    obtain ⟨x, _, hx⟩ := List.mem_map.1 hp1
    rw [← hx]
    split
    · assumption
    · rfl
  · have hB := ht.rel.2.1.rv p (List.mem_append_right _ (List.mem_append_left _ hp))
    exact (hB.tr hw.tr).blocks (hm.take hn)

end
end Go.Proofs.YtfeemohdpmdaoaaDoor.Am

/- Equality of structs and arrays of plain values, as one Bool. -/
namespace Go.Proofs.YtfeemohdpmdaoaaDoor.Am
set_option linter.unusedVariables false
open Go Go.RowKit

theorem runPure_bind {P : Program} {α γ : Type} {a : α} : ∀ {s : Sem α} (h : runPure P s = some a) (f : α → Sem γ), runPure P (s >>= f) = runPure P (f a)
  | .pure b, h, f => by simp only [runPure, Option.some.injEq] at h; subst h; rfl
  | .program k, h, f => runPure_bind (s := k P) h f
  | .mark _ k, h, f => runPure_bind (s := k) h f
  | .load .., h, _ => by simp [runPure] at h
  | .store .., h, _ => by simp [runPure] at h
  | .new .., h, _ => by simp [runPure] at h
  | .shape .., h, _ => by simp [runPure] at h
  | .freeze .., h, _ => by simp [runPure] at h
  | .frozen .., h, _ => by simp [runPure] at h
  | .getObj .., h, _ => by simp [runPure] at h
  | .setObj .., h, _ => by simp [runPure] at h
  | .choose .., h, _ => by simp [runPure] at h
  | .sys .., h, _ => by simp [runPure] at h
  | .halt .., h, _ => by simp [runPure] at h


/-- fields -/
def eqFs (P : Program) (eq : TypeId → Value → Value → Option Bool) (xs ys : Array Value) : List Field → Option Bool
  | [] => some true
  | f :: l => if f.name ≠ "_" then match runPure P (part f.type xs f.offset), runPure P (part f.type ys f.offset) with
      | some a, some b => match eq f.type a b, eqFs P eq xs ys l with
        | some r, some r' => some (r && r')
        | _, _ => none
      | _, _ => none
    else eqFs P eq xs ys l

/-- elements -/
def eqAs (P : Program) (eq : TypeId → Value → Value → Option Bool) (e : TypeId) (n : Nat) (xs ys : Array Value) : List Nat → Option Bool
  | [] => some true
  | i :: l => match runPure P (part e xs (i * n)), runPure P (part e ys (i * n)) with
      | some a, some b => match eq e a b, eqAs P eq e n xs ys l with
        | some r, some r' => some (r && r')
        | _, _ => none
      | _, _ => none

/-- equality of plain values, structs and arrays of such -/
def eqT (P : Program) : Nat → TypeId → Value → Value → Option Bool
  | 0, _, _, _ => none
  | d + 1, t, x, y => match P.underlying t, x, y with
    | some .bool, .bool a, .bool b => some (a == b)
    | some (.int _), .int k a, .int k' b => if k = k' then some (a == b) else none
    | some .string, .string a, .string b => some (a == b)
    | some (.struct fs), .agg xs, .agg ys => if P.stoodInHeld t then none else eqFs P (eqT P d) xs ys fs.toList
    | some (.array n e), .agg xs, .agg ys => match P.info? e with
      | some i => eqAs P (eqT P d) e i.size xs ys (List.range' 0 n)
      | none => none
    | _, _, _ => none

section
variable {P : Program} {E : TypeId → Value → Value → Sem Bool} {eq : TypeId → Value → Value → Option Bool} {xs ys : Array Value}

theorem eqFs_sound {k : Option Bool × Unit → Sem Bool} (k1 : ∀ r, k (some r, ()) = pure r) (k0 : k (none, ()) = pure true) (he : ∀ t a b r, eq t a b = some r → runPure P (E t a b) = some r) : ∀ {l : List Field} {r : Bool}, eqFs P eq xs ys l = some r →
    runPure P ((forIn l ((none, ()) : Option Bool × Unit) fun f _ => if f.name ≠ "_" then do
          let a ← part f.type xs f.offset
          let b ← part f.type ys f.offset
          let c ← E f.type a b
          if (!c) = true then pure (ForInStep.done (some false, ())) else pure (ForInStep.yield (none, ()))
        else pure (ForInStep.yield (none, ()))) >>= k) = some r
  | [], r, h => by
    simp only [eqFs, Option.some.injEq] at h
    subst h
    simp only [List.forIn_nil, pure_bind, k0]
    rfl
  | f :: l, r, h => by
    simp only [eqFs] at h
    simp only [List.forIn_cons]
    split at h
    · rename_i hf
      rw [if_pos hf]
      split at h <;> try (cases h; done)
      rename_i a b ha hb
      split at h <;> try (cases h; done)
      rename_i r1 r2 h1 h2
      cases h
      have h3 := he _ _ _ _ h1
      cases r1 with
      | true =>
        have ih := eqFs_sound k1 k0 he h2
        simp only [bind_assoc]
        refine (runPure_bind ha _).trans ((runPure_bind hb _).trans ((runPure_bind h3 _).trans ?_))
        simpa using ih
      | false =>
        simp only [bind_assoc]
        refine (runPure_bind ha _).trans ((runPure_bind hb _).trans ((runPure_bind h3 _).trans ?_))
        simp [k1]
        rfl
    · rename_i hf
      rw [if_neg hf]
      simpa using eqFs_sound k1 k0 he h

theorem eqAs_sound {e : TypeId} {n : Nat} {k : Option Bool × Unit → Sem Bool} (k1 : ∀ r, k (some r, ()) = pure r) (k0 : k (none, ()) = pure true) (he : ∀ t a b r, eq t a b = some r → runPure P (E t a b) = some r) : ∀ {l : List Nat} {r : Bool}, eqAs P eq e n xs ys l = some r →
    runPure P ((forIn l ((none, ()) : Option Bool × Unit) fun i _ => do
          let a ← part e xs (i * n)
          let b ← part e ys (i * n)
          let c ← E e a b
          if (!c) = true then pure (ForInStep.done (some false, ())) else pure (ForInStep.yield (none, ()))) >>= k) = some r
  | [], r, h => by
    simp only [eqAs, Option.some.injEq] at h
    subst h
    simp only [List.forIn_nil, pure_bind, k0]
    rfl
  | i :: l, r, h => by
    simp only [eqAs] at h
    simp only [List.forIn_cons]
    split at h <;> try (cases h; done)
    rename_i a b ha hb
    split at h <;> try (cases h; done)
    rename_i r1 r2 h1 h2
    cases h
    have h3 := he _ _ _ _ h1
    cases r1 with
    | true =>
      have ih := eqAs_sound k1 k0 he h2
      simp only [bind_assoc]
      refine (runPure_bind ha _).trans ((runPure_bind hb _).trans ((runPure_bind h3 _).trans ?_))
      simpa using ih
    | false =>
      simp only [bind_assoc]
      refine (runPure_bind ha _).trans ((runPure_bind hb _).trans ((runPure_bind h3 _).trans ?_))
      simp [k1]
      rfl

theorem run_und {t : TypeId} {d : TypeDesc} (hu : P.underlying t = some d) : runPure P (underlying t) = some d := by
  unfold underlying
  refine (runPure_bind (a := P) rfl _).trans ?_
  simp only [hu]; rfl

theorem eqT_sound : ∀ {d : Nat} {t : TypeId} {x y : Value} {r : Bool}, eqT P d t x y = some r → runPure P (Op.equalIn d t x y) = some r
  | 0, _, _, _, _, h => by cases h
  | d + 1, t, x, y, r, h => by
    unfold eqT at h
    split at h <;> try (cases h; done)
    · rename_i hu; cases h
      rw [Op.equalIn]
      exact (runPure_bind (run_und hu) _).trans rfl
    · rename_i hu
      split at h <;> try (cases h; done)
      rename_i hk; cases h; subst hk
      rw [Op.equalIn]
      refine (runPure_bind (run_und hu) _).trans ?_
      simp only [if_true]; rfl
    · rename_i hu; cases h
      rw [Op.equalIn]
      exact (runPure_bind (run_und hu) _).trans rfl
    · rename_i fs xs ys hu
      split at h <;> try (cases h; done)
      rename_i hs
      rw [Op.equalIn]
      refine (runPure_bind (run_und hu) _).trans ?_
      simp only
      refine (runPure_bind (a := P) rfl _).trans ?_
      rw [if_neg hs]
      rw [← Array.forIn_toList]
      exact eqFs_sound (fun _ => rfl) rfl (fun _ _ _ _ h => eqT_sound h) h
    · rename_i n e xs ys hu
      split at h <;> try (cases h; done)
      rename_i i hi
      rw [Op.equalIn]
      refine (runPure_bind (run_und hu) _).trans ?_
      simp only
      refine (runPure_bind (a := i.size) ?_ _).trans ?_
      · unfold sizeOf typeInfo
        refine (runPure_bind (a := i) ?_ _).trans rfl
        refine (runPure_bind (a := P) rfl _).trans ?_
        simp only [hi]; rfl
      · rw [Std.Legacy.Range.forIn_eq_forIn_range']
        refine eqAs_sound ?_ ?_ (fun _ _ _ _ h => eqT_sound h) (?_ : eqAs P (eqT P d) e i.size xs ys _ = some r)
        · exact fun _ => rfl
        · rfl
        · simpa [Std.Legacy.Range.size] using h

/-- the test that Go's own equality asks first -/
theorem guard_agg {op : BinOp} {t : TypeId} {x y : Operand} {a b : Array Value} (hg : P.eqGuardType P.depth t = false) : runPure P (eqGuard op t x y (.agg a) (.agg b)) = some () := by
  have key : runPure P (do
      let __do_lift ← program
      let __do_lift_1 ← program
      if (!__do_lift.eqGuardType __do_lift_1.depth t) = true then pure ()
      else do
        let __do_lift ← Op.eqGuardIn Op.maxDepth t (Value.agg a) (Value.agg b)
        if __do_lift = true then unsupported (.noEntry "binop/eql: two nil values of an interface type with methods, in a part of a struct or an array")
        else pure ()) = some () := by
    refine (runPure_bind (a := P) rfl _).trans ?_
    refine (runPure_bind (a := P) rfl _).trans ?_
    rw [hg]; rfl
  unfold eqGuard
  cases op <;> first | rfl | (simp; simpa using key)

end
end Go.Proofs.YtfeemohdpmdaoaaDoor.Am

/- What must be shown of code, as a proposition that the kernel can spell out: operations. -/
namespace Go.Proofs.YtfeemohdpmdaoaaDoor.Am
set_option linter.unusedVariables false
open Go Go.RowKit

/-- by the outcome of a test -/
def BIf (t : Bool) (A B : Prop) : Prop := @Bool.rec (fun _ => Prop) B A t

theorem BIf.of {t : Bool} {A B : Prop} (h1 : t = true → A) (h2 : t = false → B) : BIf t A B := by
  cases t
  · exact h2 rfl
  · exact h1 rfl

theorem BIf.elim {t : Bool} {A B : Prop} (h : BIf t A B) : (t = true ∧ A) ∨ (t = false ∧ B) := by
  cases t
  · exact .inr ⟨rfl, h⟩
  · exact .inl ⟨rfl, h⟩

theorem BIf.elim' {t : Bool} {A : Prop} (h : BIf t A False) : t = true ∧ A := by
  cases t
  · exact False.elim h
  · exact ⟨rfl, h⟩

theorem BIf.t {t : Bool} {A B : Prop} (h : t = true) (a : A) : BIf t A B := by subst h; exact a
theorem BIf.f {t : Bool} {A B : Prop} (h : t = false) (b : B) : BIf t A B := by subst h; exact b
theorem BIf_true (A B : Prop) : BIf true A B = A := rfl
theorem BIf_false (A B : Prop) : BIf false A B = B := rfl

mutual
/-- cells of a type, whatever they hold -/
def shapeC (P : Program) : Nat → TypeId → (List Dv → Prop) → Prop
  | 0, _, _ => False
  | n + 1, t, K => match P.underlying t with
    | some .bool => ∃ b : Bool, K [.s (.bool b)]
    | some (.int k) => ∃ x : Int, K [.s (.int k x)]
    | some .string => ∃ x : ByteArray, K [.s (.string x)]
    | some (.slice e) => match P.info? e with
      | some i => ∃ xs : List (List Dv), K [.sl i.size xs]
      | none => False
    | some (.struct fs) => shapesC P n (fs.toList.map (·.type)) K
    | some (.array len e) => shapesC P n (List.replicate len e) K
    | _ => ∃ d : Dv, K [d]
def shapesC (P : Program) : Nat → List TypeId → (List Dv → Prop) → Prop
  | 0, _, _ => False
  | n + 1, ts, K => match ts with
    | [] => K []
    | t :: ts => shapeC P n t fun x => shapesC P n ts fun y => K (x ++ y)
end

theorem shape_sound (P : Program) : ∀ (n : Nat), (∀ (t : TypeId) (K : List Dv → Prop), shapeC P n t K → ∃ row, K row) ∧ ∀ (ts : List TypeId) (K : List Dv → Prop), shapesC P n ts K → ∃ row, K row
  | 0 => ⟨fun _ _ h => h.elim, fun _ _ h => h.elim⟩
  | n + 1 => by
    obtain ⟨ih1, ih2⟩ := shape_sound P n
    refine ⟨fun t K h => ?_, fun ts K h => ?_⟩
    · unfold shapeC at h
      split at h
      · obtain ⟨b, h⟩ := h; exact ⟨_, h⟩
      · obtain ⟨b, h⟩ := h; exact ⟨_, h⟩
      · obtain ⟨b, h⟩ := h; exact ⟨_, h⟩
      · split at h
        · obtain ⟨b, h⟩ := h; exact ⟨_, h⟩
        · exact h.elim
      · exact ih2 _ _ h
      · exact ih2 _ _ h
      · obtain ⟨b, h⟩ := h; exact ⟨_, h⟩
    · unfold shapesC at h
      split at h
      · exact ⟨_, h⟩
      · obtain ⟨x, h⟩ := ih1 _ _ h
        obtain ⟨y, h⟩ := ih2 _ _ h
        exact ⟨_, h⟩

/-! ### quiet operations -/

/-- the number in a value -/
def numA (x : AV) (d : Int) : Int :=
  match x with
  | .d (.s (.int _ n)) => n
  | _ => d

def optNum (tm : List AV) (x : Option Operand) (d : Int) : Int :=
  match x with
  | some y => numA (evalA tm y) d
  | none => d

def optIsInt (tm : List AV) (x : Option Operand) : Bool :=
  match x with
  | some y => (evalA tm y).int?.isSome
  | none => true

def isFull : AV → Bool
  | .full .. => true
  | _ => false

def isRef : AV → Bool
  | .ref .. => true
  | .ptr .. => true
  | .gref .. => true
  | _ => false

/-- shifts and divisions: they can panic -/
def shyOp : BinOp → Bool
  | .shl => true
  | .shr => true
  | .quo => true
  | .rem => true
  | _ => false

def shyBad (op : BinOp) (k k' : IntKind) (y : Int) : Bool :=
  match op with
  | .shl => decide (y < 0)
  | .shr => decide (y < 0)
  | _ => decide (y = 0) || !decide (k = k')

def shyVal (op : BinOp) (k : IntKind) (x y : Int) : Value :=
  match op with
  | .shl => .int k (k.wrap (x * 2 ^ (min y.toNat k.bits)))
  | .shr => .int k (x.fdiv (2 ^ (min y.toNat k.bits)))
  | .quo => .int k (k.wrap (x.tdiv y))
  | _ => .int k (x.tmod y)

/-- equality of structs and arrays -/
def aggEq (P : Program) (op : BinOp) (t : TypeId) (x y : AV) : Option Bool :=
  match x, y with
  | .agg cs, .agg ds => match toVals cs, toVals ds with
    | some vs, some ws => match eqT P Op.maxDepth t (.agg vs.toArray) (.agg ws.toArray) with
      | some r => if P.eqGuardType P.depth t then none else match op with
        | .eql => some r
        | .neq => some (!r)
        | _ => none
      | none => none
    | _, _ => none
  | _, _ => none

/-- operations over blocks that grow, which look alone -/
def valG (P : Program) (hp : List Blk) (tm : List AV) (o : Oper) (K : AV → Prop) : Option Prop :=
  match o.op with
  | .indexAddr t x ix => match evalA tm x with
    | .gref g ver n k => match (evalA tm ix).int?, P.underlying t, hp[g]? with
      | some (_, j), some (.slice e), some blk => match P.info? e with
        | some i => some (BIf (blk.grow && decide (k = i.size)) (blk.ver = ver ∧ BIf (decide (0 ≤ j) && decide (j < n)) (K (.gptr g ver (j.toNat * i.size))) False) False)
        | none => none
      | _, _, _ => none
    | .d (.s (.pointer (some a))) => match (evalA tm ix).int?, P.underlying t with
      | some (_, j), some (.array len e) => match P.info? e with
        | some i => some (BIf (a.spot.isNone && decide (0 ≤ j) && decide (j < len)) (K (.d (.s (.pointer (some ⟨a.block, a.off + j.toNat * i.size, none⟩))))) False)
        | none => none
      | _, _ => none
    | _ => none
  | .fieldAddr t x f => match evalA tm x with
    | .gptr g ver off => match P.underlying t, hp[g]? with
      | some (.struct fields), some blk => match fields[f]? with
        | some fd => match P.info? fd.type with
          | some i => some (BIf (blk.grow && decide (i.size ≠ 0)) (blk.ver = ver ∧ K (.gptr g ver (off + fd.offset))) False)
          | none => none
        | none => none
      | _, _ => none
    | _ => none
  | .load t x => match evalA tm x with
    | .gptr g ver off => match hp[g]?, P.info? t, P.underlying t with
      | some blk, some i, some _ => some (BIf blk.grow (blk.ver = ver ∧ shapeC P 400 t fun row => BIf (decide (row.length = i.size) && decide (0 < row.length)) ((blk.cells.drop off).take i.size = row.map .d ∧ K (if isAggT P t then .agg (row.map .d) else .d (row.headD (.s undef)))) False) False)
      | _, _, _ => none
    | .d (.s (.pointer (some a))) => if isAggT P t then none else match P.info? t, P.underlying t with
      | some i, some _ => some (BIf a.spot.isNone (shapeC P 400 t fun row => BIf (decide (row.length = i.size) && decide (0 < row.length)) (((laidTable a.block).drop a.off).take i.size = row.map (fun d => match d with | .s v => v | _ => undef) ∧ (∀ d ∈ row, ∃ v, d = .s v) ∧ K (.d (row.headD (.s undef)))) False) False)
      | _, _ => none
    | _ => none
  | .call c => match c.callee, c.args[0]? with
    | .builtin .len, some x => match evalA tm x with
      | .gref g ver n k => match hp[g]?, c.argTypes[0]? with
        | some blk, some t => match P.underlying t with
          | some (.slice _) => some (BIf (blk.grow && decide (c.args.size = 1) && decide (c.argTypes.size = 1)) (blk.ver = ver ∧ K (.d (.s (goInt (n : Int))))) False)
          | _ => none
        | _, _ => none
      | _ => none
    | .builtin .min, some _ => match xVal P (evalA tm) o with
      | some (.d (.s (.int k n))) => some (∃ z : Int, z = n ∧ K (.d (.s (.int k z))))
      | _ => none
    | _, _ => none
  | _ => none

theorem valG_sound {P : Program} {hp : List Blk} {tm : List AV} {o : Oper} {K : AV → Prop} {p : Prop} (h : valG P hp tm o K = some p) (hp0 : p) : ∃ x, xq P hp (evalA tm) o = some x ∧ K x := by
  unfold valG at h
  split at h
  · rename_i t x ix ho
    split at h <;> try (cases h; done)
    · rename_i g ver n k hx
      split at h <;> try (cases h; done)
      rename_i kk j e blk h1 h2 h3
      split at h <;> try (cases h; done)
      rename_i i hi
      cases h
      obtain ⟨hc, hv, h4⟩ := hp0.elim'
      obtain ⟨hb, hK⟩ := h4.elim'
      simp only [Bool.and_eq_true, decide_eq_true_eq] at hc hb
      refine ⟨_, ?_, hK⟩
      simp only [xq, ho, xIndexAddr, h1, h2, hi, hx, h3, hc.1, hv, beq_self_eq_true, Bool.and_self, if_true, hb, hc.2, and_self]
    · rename_i a hx
      split at h <;> try (cases h; done)
      rename_i kk j len e h1 h2
      split at h <;> try (cases h; done)
      rename_i i hi
      cases h
      obtain ⟨hc, hK⟩ := hp0.elim'
      simp only [Bool.and_eq_true, decide_eq_true_eq] at hc
      refine ⟨_, ?_, hK⟩
      simp only [xq, ho, xIndexAddr, h1, h2, hi, hx, hc.1.2, hc.2, and_self, if_true, shiftPtr, hc.1.1]
  · rename_i t x f ho
    split at h <;> try (cases h; done)
    rename_i g ver off hx
    split at h <;> try (cases h; done)
    rename_i fields blk h1 h2
    split at h <;> try (cases h; done)
    rename_i fd hfd
    split at h <;> try (cases h; done)
    rename_i i hi
    cases h
    obtain ⟨hc, hv, hK⟩ := hp0.elim'
    simp only [Bool.and_eq_true, decide_eq_true_eq] at hc
    refine ⟨_, ?_, hK⟩
    simp only [xq, ho, xFieldAddr, h1, hfd, hi, hx, if_neg hc.2, shiftPtr, h2, hc.1, hv, beq_self_eq_true, Bool.and_self, if_true]
  · rename_i t x ho
    split at h <;> try (cases h; done)
    rotate_left
    · rename_i a hx
      split at h <;> try (cases h; done)
      rename_i hag
      split at h <;> try (cases h; done)
      rename_i i d h2 h3
      cases h
      obtain ⟨hsp, hs⟩ := hp0.elim'
      obtain ⟨row, hrow⟩ := (shape_sound P 400).1 _ _ hs
      obtain ⟨hlen, heq, hall, hK⟩ := hrow.elim'
      simp only [Bool.and_eq_true, decide_eq_true_eq] at hlen
      refine ⟨_, ?_, hK⟩
      have hag : isAggT P t = false := by simpa using hag
      simp only [xq, ho, xLoad, hx, cellsAt, hsp, if_true, takeCs, h2, h3, hag, Bool.false_eq_true, if_false]
      cases row with
      | nil => simp at hlen
      | cons r0 rows =>
        obtain ⟨v, rfl⟩ := hall r0 (List.mem_cons_self ..)
        have h0 : (((laidTable a.block).drop a.off).take i.size)[0]? = some v := by rw [heq]; rfl
        rw [List.getElem?_take] at h0
        split at h0
        · rw [List.getElem?_map, h0]; rfl
        · cases h0
    rename_i g ver off hx
    split at h <;> try (cases h; done)
    rename_i blk i d h1 h2 h3
    cases h
    obtain ⟨hg, hv, hs⟩ := hp0.elim'
    obtain ⟨row, hrow⟩ := (shape_sound P 400).1 _ _ hs
    obtain ⟨hlen, heq, hK⟩ := hrow.elim'
    simp only [Bool.and_eq_true, decide_eq_true_eq] at hlen
    obtain ⟨hlen, hpos⟩ := hlen
    refine ⟨_, ?_, hK⟩
    have hle : i.size ≤ (blk.cells.drop off).length := by
      have := congrArg List.length heq
      simp only [List.length_take, List.length_map] at this
      omega
    simp only [xq, ho, xLoad, hx, cellsAt, h1, hg, hv, beq_self_eq_true, Bool.and_self, if_true, takeCs, h2, h3]
    by_cases ha : isAggT P t = true
    · simp only [ha, if_true, hle, heq, List.map_map]
      congr 2
    · have ha : isAggT P t = false := by simpa using ha
      simp only [ha, Bool.false_eq_true, if_false]
      cases row with
      | nil => simp at hpos
      | cons r0 rows =>
        have h0 : ((blk.cells.drop off).take i.size)[0]? = some (.d r0) := by rw [heq]; rfl
        rw [List.getElem?_take] at h0
        split at h0
        · rw [h0]; rfl
        · cases h0
  · rename_i c ho
    split at h <;> try (cases h; done)
    · rename_i x hc hx0
      split at h <;> try (cases h; done)
      rename_i g ver n k hx
      split at h <;> try (cases h; done)
      rename_i blk t h1 ht
      split at h <;> try (cases h; done)
      rename_i e hu
      cases h
      obtain ⟨hcc, hv, hK⟩ := hp0.elim'
      simp only [Bool.and_eq_true, decide_eq_true_eq] at hcc
      refine ⟨_, ?_, hK⟩
      simp only [xq, ho, hc, hx0, hcc.1.2, if_true, xLen, ht, hcc.2, hu, hx, AV.len?, h1, hcc.1.1, hv, beq_self_eq_true, Bool.and_self, Option.map_some]
    · rename_i x hc hx0
      split at h <;> try (cases h; done)
      rename_i k n hx
      cases h
      obtain ⟨z, rfl, hK⟩ := hp0
      refine ⟨_, ?_, hK⟩
      simp only [xq, ho, hc]; exact hx
  · cases h

/-- what must be shown of a quiet operation: its result is handed on -/
def valC (P : Program) (hp : List Blk) (tm : List AV) (o : Oper) (K : AV → Prop) : Prop :=
  match valG P hp tm o K with
  | some p => p
  | none =>
  let rest : Prop := match xq P hp (evalA tm) o with
    | some x => K x
    | none => False
  match o.op with
  | .indexAddr t x ix => match (evalA tm x).rows?, (evalA tm ix).int?, P.underlying t with
    | some (k, xs), some (_, n), some (.slice e) => match P.info? e with
      | some i => BIf (decide (k = i.size) && decide (0 < k) && decide (0 ≤ n)) (shapeC P 400 e fun row => xs[n.toNat]? = some row ∧ K (.rptr row)) False
      | none => False
    | _, _, _ => rest
  | .sliceToArrayPointer t x => match (evalA tm x).rows?, P.underlying t with
    | some (k, xs), some (.array n e) => match P.info? e with
      | some i => BIf (decide (k = i.size) && decide (0 < n * k)) (BIf (decide (n ≤ xs.length)) (shapesC P 400 (List.replicate n e) fun row => (xs.take n).flatten = row ∧ K (.rptr row)) False) False
      | none => False
    | _, _ => rest
  | .slice t x lo hi mx => match (evalA tm x).rows?, P.underlying t with
    | some (k, xs), some (.slice e) => match P.info? e with
      | some i => BIf (decide (k = i.size) && (optIsInt tm lo && optIsInt tm hi && optIsInt tm mx) && (!mx.isSome || hi.isSome) &&
          decide (0 ≤ optNum tm lo 0 ∧ optNum tm lo 0 ≤ optNum tm hi xs.length ∧ optNum tm hi xs.length ≤ optNum tm mx xs.length ∧ optNum tm mx xs.length ≤ xs.length))
            (BIf ((isFull (evalA tm x) || mx.isSome) && ((optNum tm hi xs.length).toNat == (optNum tm mx xs.length).toNat))
              (K (.full k ((xs.drop (optNum tm lo 0).toNat).take ((optNum tm hi xs.length).toNat - (optNum tm lo 0).toNat))))
              (K (.d (.sl k ((xs.drop (optNum tm lo 0).toNat).take ((optNum tm hi xs.length).toNat - (optNum tm lo 0).toNat)))))) False
      | none => False
    | _, _ => rest
  | .binOp op t x y yt => if shyOp op then match evalA tm x, evalA tm y with
      | .d (.s (.int k a)), .d (.s (.int k' b)) => BIf (shyBad op k k' b) False (K (.d (.s (shyVal op k a b))))
      | _, _ => False
    else match aggEq P op t (evalA tm x) (evalA tm y) with
      | some r => K (.d (.s (.bool r)))
      | none => rest
  | .index t x ix => match evalA tm x, (evalA tm ix).int?, P.underlying t with
    | .d (.s (.string s)), some (_, n), some .string => BIf (decide (0 ≤ n)) (∃ c : UInt8, s[n.toNat]? = some c ∧ K (.d (.s (.int .u8 c.toNat)))) False
    | _, _, _ => rest
  | .call c => match c.callee, c.args[0]?, c.args[1]? with
    | .builtin .append, some x, some y => match appInfo P c.argTypes with
      | some (e, i) => match srcRows i.size (evalA tm y), evalA tm x with
        | some ys, .full k xs => BIf (decide (k = i.size) && decide (c.args.size = 2) && decide ((xs.length + ys.length) * i.bytes ≤ 140737488355328)) (BIf ys.isEmpty (K (.full k xs)) (K (.own e k (xs ++ ys)))) False
        | _, _ => rest
      | none => rest
    | _, _, _ => rest
  | _ => rest

theorem rest_sound {P : Program} {hp : List Blk} {tm : List AV} {o : Oper} {K : AV → Prop} (h : match xq P hp (evalA tm) o with
    | some x => K x
    | none => False) : ∃ x, xq P hp (evalA tm) o = some x ∧ K x := by
  split at h
  · rename_i x hx; exact ⟨x, hx, h⟩
  · exact h.elim

theorem shy_exec {P : Program} {op : BinOp} {t yt : TypeId} {x y : Operand} {k k' : IntKind} {a b : Int} (hs : shyOp op = true) (hb : shyBad op k k' b = false) :
    runPure P (do eqGuard op t x y (.int k a) (.int k' b); let r ← binOp op t (.int k a) (.int k' b); pure (Next.value r)) = some (.value (shyVal op k a b)) := by
  cases op <;> simp only [shyOp, Bool.false_eq_true] at hs
  all_goals simp only [shyBad, Bool.or_eq_false_iff, decide_eq_false_iff_not, Bool.not_eq_false', decide_eq_true_eq] at hb
  · obtain ⟨h1, rfl⟩ := hb
    simp [binOp, eqGuard, Op.intDiv, h1, shyVal]
    rfl
  · obtain ⟨h1, rfl⟩ := hb
    simp [binOp, eqGuard, Op.intDiv, h1, shyVal]
    rfl
  · simp [binOp, eqGuard, Op.shift, hb, shyVal]
    rfl
  · simp [binOp, eqGuard, Op.shift, hb, shyVal]
    rfl

theorem strIndex_exec {P : Program} {t : TypeId} {s : ByteArray} {k : IntKind} {n : Int} {c : UInt8} (hu : P.underlying t = some .string) (hn : 0 ≤ n) (hc : s[n.toNat]? = some c) :
    runPure P (do let r ← Instr.index t (.string s) (.int k n); pure (Next.value r)) = some (.value (.int .u8 c.toNat)) := by
  refine (runPure_bind (a := Value.int .u8 c.toNat) ?_ _).trans rfl
  unfold Instr.index
  refine (runPure_bind (a := (k, n)) rfl _).trans ?_
  refine (runPure_bind (a := TypeDesc.string) ?_ _).trans ?_
  · unfold underlying
    refine (runPure_bind (a := P) rfl _).trans ?_
    simp only [hu]; rfl
  · simp only [hn, if_true, hc]; rfl

theorem int?_eq {x : AV} {q : IntKind × Int} (h : x.int? = some q) : x = .d (.s (.int q.1 q.2)) := by
  unfold AV.int? at h
  split at h
  · cases h; rfl
  · cases h

theorem aggEq_exec {P : Program} {op : BinOp} {t yt : TypeId} {x y : Operand} {a b : AV} {r : Bool} (h : aggEq P op t a b = some r) :
    ∃ u v, a.toVal? = some u ∧ b.toVal? = some v ∧ isNilSlice a = false ∧ isNilSlice b = false ∧ runPure P (do eqGuard op t x y u v; let r ← binOp op t u v; pure (Next.value r)) = some (.value (.bool r)) := by
  unfold aggEq at h
  split at h <;> try (cases h; done)
  rename_i cs ds
  split at h <;> try (cases h; done)
  rename_i vs ws h1 h2
  split at h <;> try (cases h; done)
  rename_i r0 h3
  split at h <;> try (cases h; done)
  rename_i hg
  have hg : P.eqGuardType P.depth t = false := by simpa using hg
  refine ⟨.agg vs.toArray, .agg ws.toArray, by simp [AV.toVal?, h1], by simp [AV.toVal?, h2], rfl, rfl, ?_⟩
  refine (runPure_bind (guard_agg hg) _).trans ?_
  split at h <;> try (cases h; done)
  · cases h
    refine (runPure_bind (a := Value.bool _) ?_ _).trans rfl
    exact (runPure_bind (eqT_sound h3) _).trans rfl
  · cases h
    refine (runPure_bind (a := Value.bool _) ?_ _).trans rfl
    exact (runPure_bind (eqT_sound h3) _).trans rfl

theorem valC_sound {P : Program} {hp : List Blk} {tm : List AV} {o : Oper} {K : AV → Prop} (h : valC P hp tm o K) : ∃ x, xq P hp (evalA tm) o = some x ∧ K x := by
  unfold valC at h
  split at h
  · rename_i p hp0; exact valG_sound hp0 h
  simp only at h
  split at h
  · rename_i t x ix ho
    split at h
    · rename_i k xs kk n e h1 h2 h3
      split at h
      · rename_i i hi
        obtain ⟨hc, h⟩ := h.elim'
        simp only [Bool.and_eq_true, decide_eq_true_eq] at hc
        obtain ⟨⟨hk, hk0⟩, hn⟩ := hc
        obtain ⟨row, hrow, hK⟩ := (shape_sound P 400).1 _ _ h
        refine ⟨_, ?_, hK⟩
        have hl : n < xs.length := by
          have := (List.getElem?_eq_some_iff.1 hrow).1
          omega
        simp only [xq, ho, xIndexAddr, h2, h3, hi]
        have hr := h1
        cases ha : evalA tm x <;> rw [ha] at hr h1 <;> simp only [AV.rows?] at hr <;> try (cases hr; done)
        all_goals
          simp only [h1]
          rw [if_pos ⟨hn, hl, hk, hk0⟩, hrow]; rfl
      · exact h.elim
    · exact rest_sound h
  · rename_i t x ho
    split at h
    · rename_i k xs n e h1 h3
      split at h
      · rename_i i hi
        obtain ⟨hc, h⟩ := h.elim'
        obtain ⟨hn, h⟩ := h.elim'
        simp only [Bool.and_eq_true, decide_eq_true_eq] at hc hn
        obtain ⟨row, hrow, hK⟩ := (shape_sound P 400).2 _ _ h
        refine ⟨_, ?_, hK⟩
        simp only [xq, ho, xArrPtr, h1, h3, hi]
        rw [if_pos ⟨hc.1, hc.2, hn⟩, hrow]
      · exact h.elim
    · exact rest_sound h
  · rename_i t x lo hi mx ho
    split at h
    · rename_i k xs e h1 h3
      split at h
      · rename_i i hi'
        obtain ⟨hc, h⟩ := h.elim'
        simp only [Bool.and_eq_true, decide_eq_true_eq] at hc
        obtain ⟨⟨⟨hk, hint⟩, hm⟩, hb⟩ := hc
        have hopt : ∀ (y : Option Operand) (d : Int), optIsInt tm y = true → ∃ q, optInt (y.map (evalA tm)) = some q ∧ (∀ d : Int, numOr q d = optNum tm y d) ∧ q.isSome = y.isSome := by
          intro y d hy
          cases y with
          | none => exact ⟨none, rfl, fun _ => rfl, rfl⟩
          | some z =>
            simp only [optIsInt, Option.isSome_iff_exists] at hy
            obtain ⟨q, hq⟩ := hy
            refine ⟨some q, by simp [optInt, hq], fun d => ?_, rfl⟩
            simp only [optNum]
            have : evalA tm z = .d (.s (.int q.1 q.2)) := by
              exact int?_eq hq
            rw [this]; rfl
        obtain ⟨ql, el, nl, sl⟩ := hopt lo 0 hint.1.1
        obtain ⟨qh, eh, nh, sh⟩ := hopt hi 0 hint.1.2
        obtain ⟨qm, em, nm, sm⟩ := hopt mx 0 hint.2
        have hbn : bnds xs.length xs.length ql qh qm = some ((optNum tm lo 0).toNat, (optNum tm hi xs.length).toNat, (optNum tm mx xs.length).toNat) := by
          unfold bnds
          rw [nl, nh, nm, if_pos]
          refine ⟨hb.1, hb.2.1, hb.2.2.1, hb.2.2.2, fun hmx => ?_⟩
          rw [sh]; rw [sm] at hmx
          simpa [hmx] using hm
        have key : ∀ known : Bool, xSliceRows k xs known ql qh qm = (if (known || mx.isSome) && ((optNum tm hi xs.length).toNat == (optNum tm mx xs.length).toNat) then some (.full k ((xs.drop (optNum tm lo 0).toNat).take ((optNum tm hi xs.length).toNat - (optNum tm lo 0).toNat))) else some (.d (.sl k ((xs.drop (optNum tm lo 0).toNat).take ((optNum tm hi xs.length).toNat - (optNum tm lo 0).toNat))))) := by
          intro known
          simp only [xSliceRows, hbn, sm]
        have hxq : xq P hp (evalA tm) o = xSliceRows k xs (isFull (evalA tm x)) ql qh qm := by
          have hr := h1
          have hs : xSlice P hp t (evalA tm x) (lo.map (evalA tm)) (hi.map (evalA tm)) (mx.map (evalA tm)) = xSliceRows k xs (isFull (evalA tm x)) ql qh qm := by
            unfold xSlice
            rw [el, eh, em, h3]
            simp only [hi']
            cases ha : evalA tm x <;> rw [ha] at hr <;> simp only [AV.rows?] at hr <;> try (cases hr; done)
            · rename_i dv
              cases dv <;> simp only [AV.rows?] at hr <;> try (cases hr; done)
              cases hr
              simp [hk, isFull]
            · cases hr; simp [hk, isFull]
            · cases hr; simp [hk, isFull]
          simp only [xq, ho, hs, key]
          split <;> rename_i hh <;> split at hh <;> simp_all
        rw [hxq, key]
        rcases h.elim with ⟨hc, hK⟩ | ⟨hc, hK⟩
        · rw [hc]; exact ⟨_, rfl, hK⟩
        · rw [hc]; exact ⟨_, rfl, hK⟩
      · exact h.elim
    · exact rest_sound h
  · rename_i op t x y yt ho
    split at h
    · rename_i hs
      split at h
      · rename_i k a k' b hx hy
        rcases h.elim with ⟨hc, hK⟩ | ⟨hc, hK⟩
        · exact hK.elim
        · refine ⟨_, ?_, hK⟩
          have hnil : xNil P op t (evalA tm x) (evalA tm y) = none := by
            unfold xNil
            cases op <;> simp only [shyOp, Bool.false_eq_true] at hs <;> rfl
          simp only [xq, ho, hnil]
          unfold xVal
          have he : execOp (fun x => ((evalA tm x).toVal?).getD undef) o = (do eqGuard op t x y (.int k a) (.int k' b); let r ← binOp op t (.int k a) (.int k' b); pure (Next.value r)) := by
            unfold execOp
            rw [ho]
            simp [hx, hy, AV.toVal?]
          rw [he, shy_exec (t := t) (yt := yt) hs hc]
          simp only [ho, Op.operands]
          simp [hx, hy, AV.toVal?]
          cases op <;> simp only [shyOp, Bool.false_eq_true] at hs <;> rfl
      · exact h.elim
    · split at h
      · rename_i r hr
        refine ⟨_, ?_, h⟩
        obtain ⟨u, v, h1, h2, h3, h4, h5⟩ := aggEq_exec (x := x) (y := y) (yt := yt) hr
        have hnil : xNil P op t (evalA tm x) (evalA tm y) = none := by
          unfold xNil
          split <;> simp [h3, h4]
        simp only [xq, ho, hnil]
        unfold xVal
        have he : execOp (fun x => ((evalA tm x).toVal?).getD undef) o = (do eqGuard op t x y u v; let r ← binOp op t u v; pure (Next.value r)) := by
          unfold execOp
          rw [ho]
          simp [h1, h2]
        rw [he, h5]
        simp only [ho, Op.operands]
        simp [h1, h2]
        rfl
      · exact rest_sound h
  · rename_i t x ix ho
    split at h
    · rename_i s kk n h1 h2 h3
      obtain ⟨hc, h⟩ := h.elim'
      obtain ⟨c, hc1, hK⟩ := h
      refine ⟨_, ?_, hK⟩
      have h2' := int?_eq h2
      simp only [xq, ho, h1]
      unfold xVal
      have he : execOp (fun x => ((evalA tm x).toVal?).getD undef) o = (do let r ← Instr.index t (.string s) (.int kk n); pure (Next.value r)) := by
        unfold execOp
        rw [ho]
        simp [h1, h2', AV.toVal?]
      rw [he, strIndex_exec h3 (of_decide_eq_true hc) hc1]
      simp only [ho, Op.operands]
      simp [h1, h2', AV.toVal?]
      rfl
    · exact rest_sound h
  · rename_i c ho
    split at h
    · rename_i x y hcal hx hy
      split at h
      · rename_i e i hinf
        split at h
        · rename_i ys k xs hys hxx
          obtain ⟨hc, h⟩ := h.elim'
          simp only [Bool.and_eq_true, decide_eq_true_eq] at hc
          obtain ⟨⟨h1, h2⟩, h3⟩ := hc
          rcases h.elim with ⟨he, hK⟩ | ⟨he, hK⟩
          · refine ⟨_, ?_, hK⟩
            simp only [xq, ho, hcal, hx, hy, xAppendQ, hinf, hys, hxx, h2, if_true]
            rw [if_neg (by simp [isNilSlice]), if_pos ⟨h1, h3⟩, if_pos he]
          · refine ⟨_, ?_, hK⟩
            simp only [xq, ho, hcal, hx, hy, xAppendQ, hinf, hys, hxx, h2, if_true]
            rw [if_neg (by simp [isNilSlice]), if_pos ⟨h1, h3⟩, if_neg (by rw [he]; simp)]
        · exact rest_sound h
      · exact rest_sound h
    · exact rest_sound h
  · exact rest_sound h

end Go.Proofs.YtfeemohdpmdaoaaDoor.Am

/- What must be shown of code, as a proposition that the kernel can spell out: regions and code. -/
namespace Go.Proofs.YtfeemohdpmdaoaaDoor.Am
set_option linter.unusedVariables false
set_option linter.unusedSimpArgs false
open Go Go.RowKit

/-- what a walk leans on: contracts of calls (those that turn none of our blocks; the others), what loops come to, what a yield comes to; unroll: loops are run round by round -/
structure CX (β : Type) where
  call : List (Nat × (List AV → (AV → Prop) → Prop))
  scall : List (Nat × (List AV → List Blk → (AV → List Blk → Prop) → Prop))
  wl : Code → List AV → List Blk → β → (Exit → List AV → List Blk → β → Prop) → Prop
  y : YieldT β
  unroll : Bool

/-- a test's outcome is laid down in its place -/
def setB (tm : List AV) (x : Operand) (v : Bool) : List AV :=
  match x with
  | .tmp t => tm.set t (.d (.s (.bool v)))
  | _ => tm

def guardC (ops : Array Oper) (o : Oper) (tm : List AV) (A B : List AV → Prop) : Prop :=
  match o.guard with
  | none => A tm
  | some (j, want) => match (ops[j]?).bind (·.dst) with
    | some t => match tm.getD t .bad with
      | .d (.s (.bool b)) => BIf b ((if want then A else B) (setB tm (.tmp t) true)) ((if want then B else A) (setB tm (.tmp t) false))
      | .d (.s (.tuple _)) => B tm
      | _ => False
    | none => False

def condOf (o : Oper) : Operand :=
  match o.op with
  | .pick c _ _ => c
  | _ => .const undef

/-- the choice of a pick -/
def pickO (tm : List AV) (o : Oper) : Option (Bool × AV × AV) :=
  match o.op with
  | .pick c a b => match evalA tm c with
    | .d (.s (.bool t)) => some (t, (evalA tm a).view, (evalA tm b).view)
    | _ => none
  | _ => none

/-- an operation that is wanted and no call of a function -/
def bodyX (P : Program) (s : RS) (o : Oper) : Option RS :=
  match xa P s o with
  | some s' => some s'
  | none => match xh P noCall s o with
  | some s' => some s'
  | none => match xq P s.hp (evalA s.tm) o with
    | some x => some { s with tm := putA s.tm o.dst x, pv := (pvRead P s o).toList ++ pvPut s.pv o.dst }
    | none => none

def restC (P : Program) (s : RS) (o : Oper) (K : RS → Prop) : Prop :=
  match bodyX P s o with
  | some s' => K s'
  | none => False

def accOf (s : RS) (x : Operand) : Option (Loc × TypeId × Nat × List (List Dv)) :=
  match x with
  | .tmp t => match s.pv.lookup t with
    | some loc => match ownAt s loc with
      | some (e, k, xs) => some (loc, e, k, xs)
      | none => none
    | none => none
  | _ => none

def appendC (P : Program) (s : RS) (o : Oper) (c : Call) (K : RS → Prop) : Prop :=
  match c.callee, c.args[0]?, c.args[1]? with
  | .builtin .append, some x, some y => match appInfo P c.argTypes with
    | some (e', i) => match srcRows i.size (evalA s.tm y) with
      | some ys => match accOf s x with
        | some (loc, e, k, xs) => BIf (decide (e = e') && decide (k = i.size) && decide (c.args.size = 2) && decide ((xs.length + ys.length) * i.bytes ≤ 140737488355328))
            (K { tm := putA (demote s loc).tm o.dst (.own e k (xs ++ ys)), hp := (demote s loc).hp, pv := [] }) False
        | none => BIf (isNilSlice (evalA s.tm x) && decide (c.args.size = 2)) (BIf (decide (ys.length * i.bytes ≤ 140737488355328))
            (K { s with tm := putA s.tm o.dst (.own e' i.size ys), pv := (pvRead P s o).toList ++ pvPut s.pv o.dst }) False) (match evalA s.tm x with
          | .full k xs => BIf (decide (k = i.size) && decide (c.args.size = 2)) (BIf (decide ((xs.length + ys.length) * i.bytes ≤ 140737488355328)) (BIf ys.isEmpty
            (K { s with tm := putA s.tm o.dst (.full k xs), pv := (pvRead P s o).toList ++ pvPut s.pv o.dst })
            (K { s with tm := putA s.tm o.dst (.own e' k (xs ++ ys)), pv := (pvRead P s o).toList ++ pvPut s.pv o.dst })) False) (restC P s o K)
          | _ => restC P s o K)
      | none => restC P s o K
    | none => restC P s o K
  | _, _, _ => restC P s o K

/-- copy out of data of unknown length -/
def copyC (P : Program) (s : RS) (o : Oper) (c : Call) (K : RS → Prop) : Prop :=
  match c.args[0]?, c.args[1]? with
  | some x, some y => match evalA s.tm x, (evalA s.tm y).rows? with
    | .ref g off n cap k, some (k', xs) => match c.argTypes[0]? with
      | some t => match P.underlying t with
        | some (.slice e) => match P.info? e, s.hp[g]? with
          | some i, some blk => BIf (decide (c.args.size = 2) && decide (c.argTypes.size = 2) && decide (i.size = 1) && decide (k = 1) && decide (k' = 1) && !blk.fro && !blk.grow && decide (off + n ≤ blk.cells.length))
              (shapesC P 400 (List.replicate n e) fun row => ((xs.take n).map fun r => AV.d (r.headD (.s undef))) ++ ((blk.cells.drop off).take n).drop (min n xs.length) = row.map AV.d ∧ BIf ((row.map AV.d).all AV.one)
                (K { tm := putA s.tm o.dst (.d (.s (goInt (min n xs.length : Nat)))), hp := s.hp.set g { blk with cells := blk.cells.take off ++ row.map AV.d ++ blk.cells.drop (off + n) }, pv := [] }) False) False
          | _, _ => False
        | _ => False
      | none => False
    | _, _ => restC P s o K
  | _, _ => restC P s o K

def quietKind : Op → Bool
  | .indexAddr .. => true
  | .sliceToArrayPointer .. => true
  | .slice .. => true
  | .binOp .. => true
  | .index .. => true
  | _ => false

def bodyC (P : Program) (s : RS) (o : Oper) (K : RS → Prop) : Prop :=
  match valG P s.hp s.tm o (fun x => K { s with tm := putA s.tm o.dst x, pv := (pvRead P s o).toList ++ pvPut s.pv o.dst }) with
  | some p => p
  | none => match pickO s.tm o with
  | some (t, x, y) => BIf t (K { s with tm := putA (setB s.tm (condOf o) true) o.dst x, pv := pvPut s.pv o.dst }) (K { s with tm := putA (setB s.tm (condOf o) false) o.dst y, pv := pvPut s.pv o.dst })
  | none => if quietKind o.op then valC P s.hp s.tm o fun x => K { s with tm := putA s.tm o.dst x, pv := (pvRead P s o).toList ++ pvPut s.pv o.dst }
    else match o.op with
      | .call c => match c.callee with
        | .builtin .copy => copyC P s o c K
        | _ => appendC P s o c K
      | _ => restC P s o K

mutual
/-- as data -/
def sealC (hp : List Blk) : AV → (AV → Prop) → Prop
  | .gref g ver n k, K => match hp[g]? with
    | some blk => BIf blk.grow (blk.ver = ver ∧ ∃ xs : List (List Dv), blk.cells = flatA xs ∧ xs.length = n ∧ (∀ r ∈ xs, r.length = k) ∧ K (.d (.sl k xs))) False
    | none => False
  | .agg cs, K => sealCs hp cs fun ys => K (.agg ys)
  | .tup cs, K => sealCs hp cs fun ys => K (.tup ys)
  | .fn f a b, K => sealCs hp a fun a => sealCs hp b fun b => K (.fn f a b)
  | .own _ k xs, K => K (.d (.sl k xs))
  | .ref g off n cap k, K => match sealV hp (.ref g off n cap k) with
    | some y => K y
    | none => False
  | .ptr g off, K => match sealV hp (.ptr g off) with
    | some y => K y
    | none => False
  | .gptr .., _ => False
  | .yl, _ => False
  | .d x, K => K (.d x)
  | .full k xs, K => K (.full k xs)
  | .rptr cs, K => K (.rptr cs)
  | .bad, K => K .bad
def sealCs (hp : List Blk) : List AV → (List AV → Prop) → Prop
  | [], K => K []
  | x :: l, K => sealC hp x fun y => sealCs hp l fun ys => K (y :: ys)
end

/-- temporaries are sealed -/
def sealTs (hp : List Blk) : List Nat → List AV → (List AV → Prop) → Prop
  | [], tm, K => K tm
  | t :: ts, tm, K => sealC hp (tm.getD t .bad) fun y => BIf y.isOwn False (sealTs hp ts (tm.set t y) K)

/-- a temporary that leans on blocks -/
def leans (tm : List AV) (x : Operand) : List Nat :=
  match x with
  | .tmp t => if (occ (tm.getD t .bad)).isEmpty then [] else [t]
  | _ => []

def isCallB : Op → Bool
  | .call c => match c.callee with
    | .builtin .append => true
    | _ => false
  | _ => false

/-- which temporaries an operation wants as data -/
def needFrz (pc : Nat → Bool) (s : RS) (o : Oper) : List Nat :=
  match o.op with
  | .call c => match c.callee with
    | .value _ => match opCall s.tm o with
      | some (k, args) => if pc k && !closeds args then (c.args.toList.flatMap (leans s.tm)).eraseDups else []
      | none => []
    | .builtin .append => match c.args[1]? with
      | some y => leans s.tm y
      | none => []
    | _ => []
  | .buildSlice _ _ parts => (parts.toList.flatMap fun p => leans s.tm p.2).eraseDups
  | _ => []

def frzC (pc : Nat → Bool) (s : RS) (o : Oper) (K : RS → Prop) : Prop :=
  match needFrz pc s o with
  | [] => K s
  | t :: ts => sealTs s.hp (t :: ts) s.tm fun tm1 => K ⟨tm1, frz s.hp (occs ((t :: ts).map fun t => s.tm.getD t .bad)), s.pv⟩

/-- both are constants -/
def constB (x y : Operand) : Bool :=
  match x, y with
  | .const _, .const _ => true
  | _, _ => false

/-- a slice without elements and without room -/
def isFull0 (ax : AV) (n : Nat) : Bool :=
  match ax with
  | .full k [] => decide (k = n)
  | _ => false

/-- operations that write blocks that grow; gt: of which elements such blocks are laid -/
def extC (P : Program) (gt : Nat → Bool) (s : RS) (o : Oper) (K : RS → Prop) : Option Prop :=
  match o.op with
  | .call c => match c.callee, c.args[0]?, c.args[1]? with
    | .builtin .append, some x, some y => match appInfo P c.argTypes with
      | some (e, i) => match evalA s.tm x with
        | .gref g ver n k => match s.hp[g]?, srcRows i.size (evalA s.tm y) with
          | some blk, some ys => some (BIf (decide (c.args.size = 2) && decide (k = i.size) && blk.grow && !blk.fro) (blk.ver = ver ∧ BIf (decide ((n + ys.length) * i.bytes ≤ 140737488355328))
              (K { tm := putA s.tm o.dst (.gref g (ver + 1) (n + ys.length) i.size), hp := s.hp.set g ⟨blk.cells ++ flatA ys, false, true, ver + 1⟩, pv := [] }) False) False)
          | _, _ => none
        | ax => if gt e && (isNilSlice ax || isFull0 ax i.size) then match srcRows i.size (evalA s.tm y) with
          | some ys => some (BIf (decide (c.args.size = 2) && decide (ys.length * i.bytes ≤ 140737488355328)) (BIf (decide (0 < ys.length))
              (K { tm := putA s.tm o.dst (.gref s.hp.length 0 ys.length i.size), hp := s.hp ++ [⟨flatA ys, false, true, 0⟩], pv := [] })
              (K { tm := putA s.tm o.dst ax, hp := s.hp, pv := [] })) False)
          | none => none
          else none
      | none => match c.argTypes[0]?, c.argTypes[1]? with
        | some t, some tn => match P.underlying t, P.underlying tn, evalA s.tm y with
          | some (.slice e), some (.int _), .d (.s (.int _ n)) => match P.info? e with
            | some i => if gt e && isNilSlice (evalA s.tm x) then match zrow i with
              | some zr => some (BIf (decide (c.args.size = 2) && decide (c.argTypes.size = 2) && decide (0 < n) && decide (n * (i.bytes : Int) ≤ 281474976710656) && decide (n ≤ 9223372036854775807) && decide (zr.length = i.size) && decide (0 < i.size) && decide (0 < i.bytes) && (zr.map AV.d).all AV.one)
                  (K { tm := putA s.tm o.dst (.gref s.hp.length 0 n.toNat i.size), hp := s.hp ++ [⟨flatA (List.replicate n.toNat zr), false, true, 0⟩], pv := [] }) False)
              | none => none
              else none
            | none => none
          | _, _, _ => none
        | _, _ => none
    | .builtin .copy, some x, some y => match evalA s.tm x, c.argTypes[0]? with
      | .gref g ver n k, some t => match s.hp[g]?, srcRows 1 (evalA s.tm y), P.underlying t with
        | some blk, some ys, some (.slice e) => match P.info? e with
          | some i => some (BIf (decide (c.args.size = 2) && decide (c.argTypes.size = 2) && decide (i.size = 1) && decide (k = 1) && blk.grow && !blk.fro) (blk.ver = ver ∧
              K { tm := putA s.tm o.dst (.d (.s (goInt ((ys.take n).length : Nat)))), hp := s.hp.set g { blk with cells := flatA (ys.take n) ++ blk.cells.drop (ys.take n).length }, pv := [] }) False)
          | none => none
        | _, _, _ => none
      | _, _ => none
    | _, _, _ => none
  | .makeSlice t lo co => match P.underlying t with
    | some (.slice e) => if gt e || !constB lo co then match evalA s.tm lo, evalA s.tm co, P.info? e with
      | .d (.s (.int _ l)), .d (.s (.int _ c)), some i => match zrow i with
        | some zr => some (BIf (decide (0 ≤ l) && decide (l ≤ c) && decide ((i.bytes : Int) * c ≤ 281474976710656) && decide (c ≤ 9223372036854775807) && decide (zr.length = i.size) && decide (0 < i.size) && (zr.map AV.d).all AV.one)
            (K { tm := putA s.tm o.dst (.gref s.hp.length 0 l.toNat i.size), hp := s.hp ++ [⟨flatA (List.replicate l.toNat zr), false, true, 0⟩], pv := [] }) False)
        | none => none
      | _, _, _ => none
      else none
    | _ => none
  | .slice t x none (some hi) none => match evalA s.tm x, evalA s.tm hi, P.underlying t with
    | .gref g ver n k, .d (.s (.int _ j)), some (.slice e) => match P.info? e, s.hp[g]? with
      | some i, some blk => some (BIf (decide (k = i.size) && blk.grow && !blk.fro && decide (0 ≤ j) && decide (j ≤ n)) (blk.ver = ver ∧
          K { tm := putA s.tm o.dst (.gref g (ver + 1) j.toNat i.size), hp := s.hp.set g ⟨blk.cells.take (j.toNat * i.size), false, true, ver + 1⟩, pv := [] }) False)
      | _, _ => none
    | _, _, _ => none
  | .store t ax x => match evalA s.tm ax with
    | .gptr g ver off => match P.info? t, s.hp[g]?, xCells (evalA s.tm x) with
      | some i, some blk, some xs => some (BIf (decide (xs.length = i.size) && blk.grow && !blk.fro) (blk.ver = ver ∧ BIf (decide (off + xs.length ≤ blk.cells.length))
          (K { tm := putA s.tm o.dst .bad, hp := s.hp.set g { blk with cells := blk.cells.take off ++ xs ++ blk.cells.drop (off + xs.length) }, pv := [] }) False) False)
      | _, _, _ => none
    | _ => none
  | _ => none

/-- tests against nil of slices of which that is not known: either way -/
def demC (P : Program) (s : RS) (o : Oper) (K : RS → Prop) : Option Prop :=
  match o.op with
  | .binOp op t x y _ => if isNilSlice (evalA s.tm y) then match (evalA s.tm x).rows?, op, P.underlying t with
      | some (_, xs), .eql, some (.slice _) => some (∀ t : Bool, (t = true → xs = []) → K { tm := putA s.tm o.dst (.d (.s (.bool t))), hp := s.hp, pv := pvPut s.pv o.dst })
      | some (_, xs), .neq, some (.slice _) => some (∀ t : Bool, (t = true → xs = []) → K { tm := putA s.tm o.dst (.d (.s (.bool !t))), hp := s.hp, pv := pvPut s.pv o.dst })
      | _, _, _ => none
    else none
  | _ => none

section
variable {β : Type}

def opC (P : Program) (X : CX β) (ops : Array Oper) (o : Oper) (s : RS) (b : β) (K : RS → β → Prop) : Prop :=
  guardC ops o s.tm
    (fun tm => frzC (fun k => (X.call.lookup k).isSome) { s with tm := tm } o fun s => match opCall s.tm o with
      | some (k, args) => match X.call.lookup k with
        | some f => BIf (closeds args) (f args fun x => K { tm := putA s.tm o.dst x.view, hp := s.hp, pv := pvPut s.pv o.dst } b) False
        | none => match X.scall.lookup k with
          | some f => f args s.hp fun x hp' => K { tm := putA s.tm o.dst x.view, hp := hp', pv := [] } b
          | none => False
      | none => match yieldArgs s.tm o with
        | some args => BIf (closeds args) (X.y b args fun cont b' => K { tm := putA s.tm o.dst (.d (.s (.bool cont))), hp := s.hp, pv := [] } b') False
        | none => match demC P s o fun s' => K s' b with
          | some p => p
          | none => match extC P (fun e => (X.scall.lookup (1000000 + e)).isSome) s o fun s' => K s' b with
          | some p => p
          | none => bodyC P s o fun s' => K s' b)
    (fun tm => K { s with tm := putA tm o.dst (.d (.s undef)), pv := pvPut s.pv o.dst } b)

def opsC (P : Program) (X : CX β) (ops : Array Oper) : List Oper → RS → β → (RS → β → Prop) → Prop
  | [], s, b, K => K s b
  | o :: l, s, b, K => opC P X ops o s b fun s b => opsC P X ops l s b K

/-- calls' answers, by the temporaries that take them -/
abbrev Tbl := List (Option Nat × Nat × List AV × AV)

def preC (P : Program) (X : CX β) (ops : Array Oper) (hp : List Blk) : List Oper → List AV → Tbl → (List AV → Tbl → Prop) → Prop
  | [], tm, tb, K => K tm tb
  | o :: l, tm, tb, K => guardC ops o tm
      (fun tm => match opCall tm o with
        | some (k, args) => match X.call.lookup k with
          | some f => BIf (closeds args) (f args fun x => preC P X ops hp l (putA tm o.dst x.view) ((o.dst, k, args, x) :: tb) K) False
          | none => False
        | none => match pickO tm o with
          | some (t, x, y) => BIf t (preC P X ops hp l (putA (setB tm (condOf o) true) o.dst x) tb K) (preC P X ops hp l (putA (setB tm (condOf o) false) o.dst y) tb K)
          | none => valC P hp tm o fun x => preC P X ops hp l (putA tm o.dst x) tb K)
      (fun tm => preC P X ops hp l (putA tm o.dst (.d (.s undef))) tb K)

/-- how many plain stores and new blocks stand at the head -/
def leadStores : List Oper → Nat
  | o :: l => match o.op, o.guard, o.dst with
    | .store .., none, none => leadStores l + 1
    | .alloc .., none, some _ => leadStores l + 1
    | _, _, _ => 0
  | [] => 0

def findN (ops : Array Oper) (k : Nat) : Nat → Option Nat
  | 0 => none
  | n + 1 => if drawLateOk ops k (n + 1) then some (n + 1) else findN ops k n

/-- where stores lay down how many cells -/
def storeFps (tm : List AV) : List Oper → List (Nat × Nat × Nat)
  | [] => []
  | o :: l => match o.op with
    | .store t a x => match evalA tm a, xCells (evalA tm x) with
      | .ptr g off, some xs => (g, off, xs.length) :: storeFps tm l
      | _, _ => storeFps tm l
    | _ => storeFps tm l

def apartB (fp : List (Nat × Nat × Nat)) (g off n : Nat) : Bool := fp.all fun q => q.1 != g || decide (q.2.1 + q.2.2 ≤ off) || decide (off + n ≤ q.2.1)

/-- what it looks at leans on the first n blocks alone -/
def lowB (n : Nat) (tm : List AV) (o : Oper) : Bool := o.op.operands.toList.all fun x => (evalA tm x).low n

/-- it reads none of the cells that are written -/
def frameB (P : Program) (tm : List AV) (fp : List (Nat × Nat × Nat)) (o : Oper) : Bool :=
  match o.op with
  | .load t a => match evalA tm a with
    | .ptr g off => match P.info? t with
      | some i => apartB fp g off (max i.size 1)
      | none => true
    | .gptr .. => false
    | _ => true
  | .call c => match c.callee with
    | .value _ => true
    | .builtin .len => true
    | .builtin .append => true
    | _ => false
  | _ => true

/-- a new block among them -/
def hasAlloc : List Oper → Bool
  | [] => false
  | o :: l => match o.op with
    | .alloc .. => true
    | _ => hasAlloc l

/-- each reads none of the cells that are written by a store that may come ahead of it -/
def frameAll (P : Program) (n : Nat) (tm tmF : List AV) (pre sts : List Oper) : Bool := (List.range pre.length).all fun j => match pre[j]? with
  | some o => frameB P tm (storeFps tmF (sts.filter fun o' => !(edgesOf o').contains j)) o && (!hasAlloc sts || lowB n tm o)
  | none => true

def preRegC (P : Program) (X : CX β) (ops : Array Oper) (k : Nat) (tm : List AV) (hp : List Blk) (b : β) (K : List AV → List Blk → β → Prop) : Prop :=
  if k ≤ ops.size then preC P X ops hp (ops.toList.take k) tm [] fun tmK tb =>
    if (tb.map (·.1)).Nodup then opsC P X ops (ops.toList.drop k) ⟨tmK, hp, pvAll P hp tmK (ops.toList.take k)⟩ b fun s b => K s.tm s.hp b else False
  else False

def lateRegC (P : Program) (X : CX β) (ops : Array Oper) (q n : Nat) (tm : List AV) (hp : List Blk) (b : β) (K : List AV → List Blk → β → Prop) : Prop :=
  if q + n ≤ ops.size then preC P X ops hp (ops.toList.take q) tm [] fun tmK tb =>
    if (tb.map (·.1)).Nodup then match xLates P ((ops.toList.drop q).take n) tmK hp with
      | some sts => match sts[n]? with
        | some st => BIf (frameAll P hp.length tmK st.1 (ops.toList.take q) ((ops.toList.drop q).take n))
            (opsC P X ops (ops.toList.drop (q + n)) ⟨st.1, st.2, []⟩ b fun s b => K s.tm s.hp b) False
        | none => False
      | none => False
    else False
  else False

/-- a slice that may grow -/
def growT (tm : List AV) (t : Nat) : Bool :=
  match tm.getD t .bad with
  | .gref .. => true
  | _ => false

def tmpOf : Operand → Option Nat
  | .tmp t => some t
  | _ => none

/-- temporaries that lean on blocks that grow, and that calls at the head take -/
def sealsOf (pc : Nat → Bool) (tm : List AV) (l : List Oper) : List Nat :=
  let as := l.flatMap fun o => match o.op with
    | .call c => match c.callee with
      | .value f => match callArgs tm (evalA tm f) #[] with
        | some (k, _) => if pc k then c.args.toList.filterMap tmpOf else []
        | none => []
      | _ => []
    | _ => []
  (l.filterMap fun o => match o.op, o.dst with
    | .move (.tmp t), some d => if as.contains d && growT tm t then some t else none
    | _, _ => none).eraseDups

def drawC (P : Program) (X : CX β) (ops : Array Oper) (tm : List AV) (hp : List Blk) (b : β) (K : List AV → List Blk → β → Prop) : Prop :=
  match findK ops (leadPure ops.toList) with
  | some k => preRegC P X ops k tm hp b K
  | none => match findN ops (leadPure ops.toList) (leadStores (ops.toList.drop (leadPure ops.toList))) with
    | some n => lateRegC P X ops (leadPure ops.toList) n tm hp b K
    | none => match findK ops (leadApp ops.toList) with
      | some k => preRegC P X ops k tm hp b K
      | none => match findN ops (leadApp ops.toList) (leadStores (ops.toList.drop (leadApp ops.toList))) with
        | some n => lateRegC P X ops (leadApp ops.toList) n tm hp b K
        | none => False

def regionC (P : Program) (X : CX β) (ops : Array Oper) (draw : Bool) (tm : List AV) (hp : List Blk) (b : β) (K : List AV → List Blk → β → Prop) : Prop :=
  if draw then match sealsOf (fun k => (X.call.lookup k).isSome) tm (ops.toList.take (leadApp ops.toList)) with
    | [t] => sealTs hp [t] tm fun tm1 => drawC P X ops tm1 (frz hp (occ (tm.getD t .bad))) b K
    | _ => drawC P X ops tm hp b K
  else opsC P X ops ops.toList ⟨tm, hp, []⟩ b fun s b => K s.tm s.hp b

def blockK (id : Nat) (K : Exit → List AV → List Blk → β → Prop) : Exit → List AV → List Blk → β → Prop
  | .exit id', tm, hp, b => if id' = id then K .normal tm hp b else K (.exit id') tm hp b
  | e, tm, hp, b => K e tm hp b

def thenK (K' : List AV → List Blk → β → Prop) (K : Exit → List AV → List Blk → β → Prop) : Exit → List AV → List Blk → β → Prop
  | .normal, tm, hp, b => K' tm hp b
  | e, tm, hp, b => K e tm hp b

/-- no jump to a label within -/
def scopeK (K : Exit → List AV → List Blk → β → Prop) : Exit → List AV → List Blk → β → Prop
  | .goto _, _, _, _ => False
  | e, tm, hp, b => K e tm hp b

def rounds (body : List AV → List Blk → β → (Exit → List AV → List Blk → β → Prop) → Prop) : Nat → List AV → List Blk → β → (Exit → List AV → List Blk → β → Prop) → Prop
  | 0, _, _, _, _ => False
  | m + 1, tm, hp, b, K => body tm hp b (thenK (fun tm hp b => rounds body m tm hp b K) K)

def wpc (P : Program) (X : CX β) : Nat → Code → List AV → List Blk → β → (Exit → List AV → List Blk → β → Prop) → Prop
  | 0, _, _, _, _, _ => False
  | n + 1, c, tm, hp, b, K => match c with
    | .skip => K .normal tm hp b
    | .label _ => K .normal tm hp b
    | .exit id => K (.exit id) tm hp b
    | .goto l => K (.goto l) tm hp b
    | .ret => K .ret tm hp b
    | .region _ ops d => regionC P X ops d tm hp b (K .normal)
    | .seq x y => wpc P X n x tm hp b (thenK (fun tm hp b => wpc P X n y tm hp b K) K)
    | .cond x c c' => match evalA tm x with
      | .d (.s (.bool t)) => BIf t (wpc P X n c (setB tm x true) hp b K) (wpc P X n c' (setB tm x false) hp b K)
      | _ => False
    | .block id c => wpc P X n c tm hp b (blockK id K)
    | .loop c => if X.unroll then rounds (wpc P X n c) 1000 tm hp b K else X.wl (.loop c) tm hp b K
    | .rangeFunc f ps assign body => X.wl (.rangeFunc f ps assign body) tm hp b K
    | .scope c => wpc P X n c tm hp b (scopeK K)
    | .refuse _ => False

/-- how a function's body ends -/
def fnK (P : Program) (fn : Func) (R : AV → β → Prop) : Exit → List AV → List Blk → β → Prop := fun e tm hp b =>
  BIf (match e with | .ret => true | .normal => true | _ => false) (match resAs P hp tm fn.results.toList with
    | some ys => sealC hp (resV ys) fun y => R y b
    | none => False) False

/-- of a function -/
def wpFn (P : Program) (X : CX β) (n : Nat) (fn : Func) (args : List AV) (b : β) (R : AV → β → Prop) : Prop :=
  match fn.body with
  | some c => wpc P X n c (startTm fn args) [] b (fnK P fn R)
  | none => False

end
end Go.Proofs.YtfeemohdpmdaoaaDoor.Am

/- What must be shown of code: it suffices. -/
namespace Go.Proofs.YtfeemohdpmdaoaaDoor.Am
set_option linter.unusedVariables false
set_option linter.unusedSimpArgs false
open Go Go.RowKit

structure CX.Ok {P : Program} (Ev : Env P) (X : CX Ev.β) : Prop where
  call : ∀ (k : Nat) f, X.call.lookup k = some f → ∀ args K, f args K → ∃ x, PCall P k args x ∧ K x
  scall : ∀ (k : Nat) f, X.scall.lookup k = some f → ∀ args hp K, f args hp K → ∃ x hp', SCall P k args hp x hp' ∧ K x hp'
  wl : ∀ c tm hp b K, X.wl c tm hp b K → W Ev c ⟨tm, hp, b⟩ (fun e s => K e s.tm s.hp s.b)
  y : X.y = Ev.Y

section
variable {P : Program} {hp hp' : List Blk} {tm tm' : List AV} {o : Oper} {ops : Array Oper} {Ev : Env P} {X : CX Ev.β} {s : RS} {b : Ev.β}

theorem setB_self {x : Operand} {v : Bool} (h : evalA tm x = .d (.s (.bool v))) : setB tm x v = tm := by
  cases x with
  | tmp t =>
    simp only [evalA, List.getD] at h
    simp only [setB]
    cases ht : tm[t]? with
    | none => rw [ht] at h; cases h
    | some y => rw [ht] at h; simp only [Option.getD_some] at h; subst h; exact list_set_self ht
  | _ => rfl

theorem guardC_sound {A B : List AV → Prop} (h : guardC ops o tm A B) : (wantedA ops o tm = some true ∧ A tm) ∨ (wantedA ops o tm = some false ∧ B tm) := by
  unfold guardC at h
  unfold wantedA
  split at h
  · rename_i hg; rw [hg]; exact .inl ⟨rfl, h⟩
  · rename_i j want hg
    rw [hg]
    split at h
    · rename_i t ht
      split at h
      · rename_i bb hb
        simp only [ht, hb]
        have hs : setB tm (.tmp t) bb = tm := setB_self hb
        rcases h.elim with ⟨rfl, h⟩ | ⟨rfl, h⟩ <;> rw [hs] at h <;> cases want <;> simp only [Bool.false_eq_true, if_true, if_false] at h
        · exact .inr ⟨rfl, h⟩
        · exact .inl ⟨rfl, h⟩
        · exact .inl ⟨rfl, h⟩
        · exact .inr ⟨rfl, h⟩
      · rename_i vs hb
        simp only [ht, hb]
        exact .inr ⟨trivial, h⟩
      · exact h.elim
    · exact h.elim

theorem pickO_cond {t : Bool} {x y : AV} (h : pickO tm o = some (t, x, y)) : setB tm (condOf o) t = tm := by
  unfold pickO at h
  split at h <;> try (cases h; done)
  rename_i c a b ho
  split at h <;> try (cases h; done)
  rename_i t' hc
  cases h
  simp only [condOf, ho]
  exact setB_self hc

theorem pickO_body {pv : List (Nat × Loc)} {t : Bool} {x y : AV} (h : pickO tm o = some (t, x, y)) : bodyX P ⟨tm, hp, pv⟩ o = some ⟨putA tm o.dst (if t then x else y), hp, pvPut pv o.dst⟩ := by
  unfold pickO at h
  split at h <;> try (cases h; done)
  rename_i c a b ho
  split at h <;> try (cases h; done)
  rename_i t' hc
  cases h
  have h1 : xa P ⟨tm, hp, pv⟩ o = none := by simp [xa, ho]
  have h2 : xh P noCall ⟨tm, hp, pv⟩ o = none := by simp [xh, ho]
  have h3 : pvRead P ⟨tm, hp, pv⟩ o = none := by
    unfold pvRead
    rw [ho]
    cases o.dst <;> rfl
  simp only [bodyX, h1, h2, h3]
  simp [xq, ho, hc]

theorem xStep_body (hw : wantedA ops o s.tm = some true) : xStep P noCall ops s o = bodyX P s o := by
  simp only [xStep, hw, bodyX]
  cases xa P s o with
  | some s1 => rfl
  | none => cases xh P noCall s o with
    | some s1 => rfl
    | none => cases xq P s.hp (evalA s.tm) o <;> rfl

theorem restC_sound {K : RS → Prop} (h : restC P s o K) : ∃ s', bodyX P s o = some s' ∧ K s' := by
  unfold restC at h
  split at h
  · rename_i s' hs; exact ⟨s', hs, h⟩
  · exact h.elim

theorem appendC_sound {c : Call} {K : RS → Prop} (ho : o.op = .call c) (h : appendC P s o c K) : ∃ s', bodyX P s o = some s' ∧ K s' := by
  unfold appendC at h
  split at h
  · rename_i x y hcal hx hy
    split at h
    · rename_i e' i hi
      split at h
      · rename_i ys hys
        split at h
        · rename_i loc e k xs hacc
          obtain ⟨hc, hK⟩ := h.elim'
          simp only [Bool.and_eq_true, decide_eq_true_eq] at hc
          obtain ⟨⟨⟨h1, h2⟩, h3⟩, h4⟩ := hc
          refine ⟨_, ?_, hK⟩
          unfold accOf at hacc
          split at hacc <;> try (cases hacc; done)
          rename_i t
          split at hacc <;> try (cases hacc; done)
          rename_i loc' hl
          split at hacc <;> try (cases hacc; done)
          rename_i e1 k1 xs1 hown
          cases hacc
          simp only [bodyX, xa, ho, hcal, hx, hy, h3, hl, hown, hi, hys, if_true]
          rw [if_pos ⟨h1, h2, h4⟩]
        · rename_i hacc
          rcases h.elim with ⟨hc, h⟩ | ⟨hc, h⟩
          · obtain ⟨h4, hK⟩ := h.elim'
            simp only [Bool.and_eq_true, decide_eq_true_eq] at hc h4
            refine ⟨_, ?_, hK⟩
            have hxa : xa P s o = none := by
              simp only [xa, ho, hcal, hx, hy]
              split <;> try rfl
              rename_i t y' _ e1 e2
              cases e1; cases e2
              split <;> try rfl
              split <;> try rfl
              rename_i loc hl
              split <;> try rfl
              rename_i e k xs e1 i1 hown hi1
              exfalso
              simp only [accOf, hl, hown] at hacc
              cases hacc
            have hxh : xh P noCall s o = none := by simp [xh, ho, hcal]
            have hxq : xq P s.hp (evalA s.tm) o = some (.own e' i.size ys) := by
              simp only [xq, ho, hcal, hx, hy, hc.2, if_true, xAppendQ, hi, hys, hc.1]
              rw [if_pos h4]
            simp only [bodyX, hxa, hxh, hxq]
          · split at h
            · rename_i k xs hfull
              rcases h.elim with ⟨hc, h⟩ | ⟨_, h⟩
              · obtain ⟨h4, h⟩ := h.elim'
                simp only [Bool.and_eq_true, decide_eq_true_eq] at hc h4
                have hxa : xa P s o = none := by
                  simp only [xa, ho, hcal, hx, hy]
                  split <;> try rfl
                  rename_i t y' _ e1 e2
                  cases e1; cases e2
                  split <;> try rfl
                  split <;> try rfl
                  rename_i loc hl
                  split <;> try rfl
                  rename_i e k xs e1 i1 hown hi1
                  exfalso
                  simp only [accOf, hl, hown] at hacc
                  cases hacc
                have hxh : xh P noCall s o = none := by simp [xh, ho, hcal]
                rcases h.elim with ⟨he, hK⟩ | ⟨he, hK⟩
                · have hxq : xq P s.hp (evalA s.tm) o = some (.full k xs) := by
                    simp only [xq, ho, hcal, hx, hy, hc.2, if_true, xAppendQ, hi, hys, hfull, isNilSlice]
                    rw [if_neg (by simp), if_pos ⟨hc.1, h4⟩, if_pos he]
                  exact ⟨_, by simp only [bodyX, hxa, hxh, hxq], hK⟩
                · have hxq : xq P s.hp (evalA s.tm) o = some (.own e' k (xs ++ ys)) := by
                    simp only [xq, ho, hcal, hx, hy, hc.2, if_true, xAppendQ, hi, hys, hfull, isNilSlice]
                    rw [if_neg (by simp), if_pos ⟨hc.1, h4⟩, if_neg (by simp [he])]
                  exact ⟨_, by simp only [bodyX, hxa, hxh, hxq], hK⟩
              · exact restC_sound h
            · exact restC_sound h
      · exact restC_sound h
    · exact restC_sound h
  · exact restC_sound h

theorem copyC_sound {c : Call} {K : RS → Prop} (ho : o.op = .call c) (hc : c.callee = .builtin .copy) (h : copyC P s o c K) : ∃ s', bodyX P s o = some s' ∧ K s' := by
  unfold copyC at h
  split at h
  · rename_i x y hx hy
    split at h
    · rename_i g off n cap k k' xs hd hs
      split at h
      · rename_i t ht
        split at h
        · rename_i e hu
          split at h
          · rename_i i blk hi hblk
            obtain ⟨hcond, h⟩ := h.elim'
            simp only [Bool.and_eq_true, decide_eq_true_eq, Bool.not_eq_true'] at hcond
            obtain ⟨⟨⟨⟨⟨⟨⟨h1, h2⟩, h3⟩, h4⟩, h5⟩, h6⟩, h7⟩, h8⟩ := hcond
            obtain ⟨row, hrow, h⟩ := (shape_sound P 400).2 _ _ h
            obtain ⟨hone, hK⟩ := h.elim'
            refine ⟨_, ?_, hK⟩
            have hxa : xa P s o = none := by simp [xa, ho, hc]
            have hsrc : srcCells s.hp (evalA s.tm y) = some (xs.map fun r => AV.d (r.headD (.s undef))) := by
              have hr := hs
              unfold srcCells
              have hnil : isNilSlice (evalA s.tm y) = false := by
                unfold isNilSlice
                split
                · rename_i he; rw [he] at hr; cases hr
                · rfl
              rw [hnil]
              simp only [Bool.false_eq_true, if_false]
              split
              · rename_i he; rw [he] at hr; cases hr
              · rw [hs]; simp only [h5, if_true]
            have htake : (xs.map fun r => AV.d (r.headD (.s undef))).take n = (xs.take n).map fun r => AV.d (r.headD (.s undef)) := by rw [List.map_take]
            have hlen : ((xs.take n).map fun r => AV.d (r.headD (.s undef))).length = min n xs.length := by simp
            have hall : (((xs.map fun r => AV.d (r.headD (.s undef))).take n).all AV.one) = true := by
              rw [htake]
              rw [← hrow, List.all_append, Bool.and_eq_true] at hone
              exact hone.1
            have hcopy : xCopy P s.hp c.argTypes (evalA s.tm x) (evalA s.tm y) = some (.d (.s (goInt (min n xs.length : Nat))), s.hp.set g { blk with cells := blk.cells.take off ++ row.map AV.d ++ blk.cells.drop (off + n) }) := by
              unfold xCopy
              simp only [ht, hu, hi, hd, hsrc, hblk]
              rw [if_pos ⟨h2, h3, h4, h6, h7, hall, h8⟩, htake, hlen]
              congr 4
              rw [← hrow, List.append_assoc, List.append_assoc, List.append_assoc]
              congr 2
              have e1 : blk.cells.drop (off + min n xs.length) = (blk.cells.drop off).drop (min n xs.length) := by rw [List.drop_drop]
              have e2 : blk.cells.drop (off + n) = (blk.cells.drop off).drop n := by rw [List.drop_drop]
              rw [e1, e2]
              conv => lhs; rw [← List.take_append_drop n (blk.cells.drop off)]
              rw [List.drop_append_of_le_length]
              simp only [List.length_take, List.length_drop]
              omega
            have hxh : xh P noCall s o = some { tm := putA s.tm o.dst (.d (.s (goInt (min n xs.length : Nat)))), hp := s.hp.set g { blk with cells := blk.cells.take off ++ row.map AV.d ++ blk.cells.drop (off + n) }, pv := [] } := by
              simp only [xh, ho, hc, hx, hy, h1, if_true, hcopy]
            simp only [bodyX, hxa, hxh]
          · exact h.elim
        · exact h.elim
      · exact h.elim
    · exact restC_sound h
  · exact restC_sound h

theorem valG_xa {K : AV → Prop} {p : Prop} (h : valG P s.hp s.tm o K = some p) : xa P s o = none ∧ xh P noCall s o = none := by
  unfold valG at h
  split at h
  · rename_i ho; exact ⟨by simp [xa, ho], by simp [xh, ho]⟩
  · rename_i ho; exact ⟨by simp [xa, ho], by simp [xh, ho]⟩
  · rename_i ho; exact ⟨by simp [xa, ho], by simp [xh, ho]⟩
  · rename_i c ho
    split at h <;> try (cases h; done)
    · rename_i x hc hx0
      exact ⟨by simp [xa, ho, hc], by simp [xh, ho, hc]⟩
    · rename_i x hc hx0
      exact ⟨by simp [xa, ho, hc], by simp [xh, ho, hc]⟩
  · cases h

theorem bodyC_sound {K : RS → Prop} (h : bodyC P s o K) : ∃ s', bodyX P s o = some s' ∧ K s' := by
  unfold bodyC at h
  split at h
  · rename_i p hv
    obtain ⟨x, hx, hK⟩ := valG_sound hv h
    obtain ⟨h1, h2⟩ := valG_xa hv
    exact ⟨_, by simp only [bodyX, h1, h2, hx], hK⟩
  split at h
  · rename_i t x y hp'
    have hs := pickO_cond hp'
    rcases h.elim with ⟨rfl, hK⟩ | ⟨rfl, hK⟩
    · rw [hs] at hK; exact ⟨_, pickO_body hp', hK⟩
    · rw [hs] at hK; exact ⟨_, pickO_body hp', hK⟩
  · split at h
    · rename_i hq
      obtain ⟨x, hx, hK⟩ := valC_sound h
      refine ⟨_, ?_, hK⟩
      have hxa : xa P s o = none := by
        unfold xa
        split <;> try rfl
        rename_i c ho; rw [ho] at hq; cases hq
      have hxh : xh P noCall s o = none := by
        unfold xh
        split <;> first | rfl | (rename_i ho; rw [ho] at hq; cases hq)
      simp only [bodyX, hxa, hxh, hx]
    · split at h
      · rename_i c ho
        split at h
        · rename_i hc; exact copyC_sound ho hc h
        · exact appendC_sound ho h
      · exact restC_sound h

mutual
theorem sealC_sound : ∀ {x : AV} {K : AV → Prop}, sealC hp x K → ∃ y, SealR hp x y ∧ K y
  | .gref g ver n k, K, h => by
    simp only [sealC] at h
    split at h
    · rename_i blk hb
      obtain ⟨hg, hv, xs, h1, h2, h3, hK⟩ := h.elim'
      exact ⟨_, .gref hb hg hv h1 h2 h3, hK⟩
    · exact h.elim
  | .agg cs, K, h => by
    simp only [sealC] at h
    obtain ⟨ys, hl, hs, hK⟩ := sealCs_sound h
    exact ⟨_, .agg hl hs, hK⟩
  | .tup cs, K, h => by
    simp only [sealC] at h
    obtain ⟨ys, hl, hs, hK⟩ := sealCs_sound h
    exact ⟨_, .tup hl hs, hK⟩
  | .fn f a b, K, h => by
    simp only [sealC] at h
    obtain ⟨ys, hl, hs, h2⟩ := sealCs_sound h
    obtain ⟨zs, hl', hs', hK⟩ := sealCs_sound h2
    exact ⟨_, .fn hl hl' hs hs', hK⟩
  | .own e k xs, K, h => ⟨.d (.sl k xs), .v (by simp [sealV]), by simpa only [sealC] using h⟩
  | .ref g off n cap k, K, h => by
    simp only [sealC] at h
    split at h
    · rename_i y hy; exact ⟨y, .v hy, h⟩
    · exact h.elim
  | .ptr g off, K, h => by
    simp only [sealC] at h
    split at h
    · rename_i y hy; exact ⟨y, .v hy, h⟩
    · exact h.elim
  | .gptr .., K, h => by simp only [sealC] at h
  | .yl, K, h => by simp only [sealC] at h
  | .d x, K, h => ⟨.d x, .v (by simp [sealV]), by simpa only [sealC] using h⟩
  | .full k xs, K, h => ⟨.full k xs, .v (by simp [sealV]), by simpa only [sealC] using h⟩
  | .rptr cs, K, h => ⟨.rptr cs, .v (by simp [sealV]), by simpa only [sealC] using h⟩
  | .bad, K, h => ⟨.bad, .v (by simp [sealV]), by simpa only [sealC] using h⟩
theorem sealCs_sound : ∀ {cs : List AV} {K : List AV → Prop}, sealCs hp cs K → ∃ ys, cs.length = ys.length ∧ (∀ (i : Nat) (c y : AV), cs[i]? = some c → ys[i]? = some y → SealR hp c y) ∧ K ys
  | [], K, h => ⟨[], rfl, fun i c y h => by simp at h, by simpa only [sealCs] using h⟩
  | x :: l, K, h => by
    simp only [sealCs] at h
    obtain ⟨y, hy, h2⟩ := sealC_sound h
    obtain ⟨ys, hl, hs, hK⟩ := sealCs_sound h2
    refine ⟨y :: ys, by simp [hl], fun i c z h3 h4 => ?_, hK⟩
    cases i with
    | zero => simp at h3 h4; subst h3; subst h4; exact hy
    | succ i => exact hs i c z (by simpa using h3) (by simpa using h4)
end

theorem frzTm_refl (gs : List Nat) : ∀ l : List AV, FrzTm hp gs l l
  | [] => trivial
  | x :: l => ⟨.inl rfl, frzTm_refl gs l⟩
/-- temporaries that are not named keep their readings -/
theorem sealTs_sound {gs : List Nat} {tm0 : List AV} : ∀ {ts : List Nat} {tm : List AV} {K : List AV → Prop}, sealTs hp ts tm K → ts.Nodup → FrzTm hp gs tm0 tm → (∀ t ∈ ts, tm.getD t .bad = tm0.getD t .bad) → (∀ t ∈ ts, ∀ g ∈ occ (tm0.getD t .bad), g ∈ gs) →
    ∃ tm1, FrzTm hp gs tm0 tm1 ∧ K tm1
  | [], tm, K, h, _, hf, _, _ => ⟨tm, hf, h⟩
  | t :: ts, tm, K, h, hnd, hf, hsame, hocc => by
    simp only [sealTs] at h
    obtain ⟨y, hy, h⟩ := sealC_sound h
    rcases h.elim with ⟨_, h⟩ | ⟨ho, h⟩
    · exact h.elim
    obtain ⟨hn1, hn2⟩ := List.nodup_cons.1 hnd
    have hset : FrzTm hp gs tm0 (tm.set t y) := by
      have key : ∀ (l l' : List AV) (t : Nat), FrzTm hp gs l l' → (t < l.length → SealR hp (l.getD t .bad) y ∧ ∀ g ∈ occ (l.getD t .bad), g ∈ gs) → FrzTm hp gs l (l'.set t y) := by
        intro l
        induction l with
        | nil =>
          intro l' t h _
          cases l' with
          | nil => exact trivial
          | cons _ _ => exact h.elim
        | cons x l ih =>
          intro l' t h hs
          cases l' with
          | nil => exact h.elim
          | cons z l' =>
            cases t with
            | zero =>
              have := hs (by simp)
              exact ⟨.inr ⟨by simpa using this.1, by simpa using this.2, ho⟩, h.2⟩
            | succ t => exact ⟨h.1, ih l' t h.2 fun ht => by simpa using hs (by simpa using ht)⟩
      refine key tm0 tm t hf fun ht => ⟨?_, hocc t (List.mem_cons_self ..)⟩
      rw [← hsame t (List.mem_cons_self ..)]; exact hy
    refine sealTs_sound h hn2 hset (fun t' ht' => ?_) fun t' ht' => hocc t' (List.mem_cons_of_mem _ ht')
    have hne : t ≠ t' := fun he => hn1 (he ▸ ht')
    rw [← hsame t' (List.mem_cons_of_mem _ ht')]
    simp [List.getD, List.getElem?_set_ne hne]

theorem FrzTm.at {gs : List Nat} : ∀ {l l' : List AV} {t : Nat} {x : Dv}, FrzTm hp gs l l' → l.getD t .bad = .d x → l'.getD t .bad = .d x
  | [], [], _, _, _, h => h
  | [], _ :: _, _, _, h, _ => h.elim
  | _ :: _, [], _, _, h, _ => h.elim
  | y :: l, z :: l', 0, x, h, hx => by
    simp only [List.getD_cons_zero] at hx ⊢
    subst hx
    rcases h.1 with rfl | ⟨h1, _⟩
    · rfl
    · cases h1 with
      | v h1 => simp only [sealV, Option.some.injEq] at h1; exact h1.symm
  | y :: l, z :: l', t + 1, x, h, hx => by
    simp only [List.getD_cons_succ] at hx ⊢
    exact FrzTm.at h.2 hx
theorem wantedA_frz {gs : List Nat} {tm tm' : List AV} {v : Bool} (h : FrzTm hp gs tm tm') (hw : wantedA ops o tm = some v) : wantedA ops o tm' = some v := by
  unfold wantedA at hw ⊢
  split at hw
  · exact hw
  · rename_i j want hg
    split at hw <;> try (cases hw; done)
    rename_i t ht
    split at hw <;> try (cases hw; done)
    · rename_i b hb
      simp only [h.at hb]; exact hw
    · rename_i b hb
      simp only [h.at hb]; exact hw
theorem frzC_sound {pc : Nat → Bool} {K : RS → Prop} (h : frzC pc s o K) (hnd : (needFrz pc s o).Nodup) : ∃ s0, FrzOk s s0 ∧ (∀ v, wantedA ops o s.tm = some v → wantedA ops o s0.tm = some v) ∧ K s0 := by
  unfold frzC at h
  split at h
  · exact ⟨s, .rfl, fun _ h => h, h⟩
  · rename_i t ts hn
    rw [hn] at hnd
    obtain ⟨tm1, hf, hK⟩ := sealTs_sound (gs := occs ((t :: ts).map fun t => s.tm.getD t .bad)) (tm0 := s.tm) h hnd (frzTm_refl _ _) (fun _ _ => rfl) fun t' ht' g hg => by
      obtain ⟨j, hj⟩ := List.mem_iff_getElem?.1 ht'
      exact occs_get (i := j) (by rw [List.getElem?_map, hj]; rfl) g hg
    exact ⟨_, frz_ok hf, fun v hw => wantedA_frz hf hw, hK⟩

theorem nodup_eraseDups (l : List Nat) : l.eraseDups.Nodup := by
  have key : ∀ (n : Nat) (l : List Nat), l.length ≤ n → l.eraseDups.Nodup := by
    intro n
    induction n with
    | zero => intro l h; have : l = [] := List.length_eq_zero_iff.1 (by omega); subst this; simp
    | succ n ih =>
      intro l h
      cases l with
      | nil => simp
      | cons a l =>
        rw [List.eraseDups_cons]
        refine List.nodup_cons.2 ⟨?_, ih _ ?_⟩
        · rw [List.mem_eraseDups]; simp
        · have := List.length_filter_le (fun b => !b == a) l
          simp only [List.length_cons] at h; omega
  exact key l.length l (Nat.le_refl _)
theorem needFrz_nodup (pc : Nat → Bool) (s : RS) (o : Oper) : (needFrz pc s o).Nodup := by
  unfold needFrz
  split
  · split
    · split
      · split
        · exact nodup_eraseDups _
        · simp
      · simp
    · split
      · unfold leans
        split
        · split <;> simp
        · simp
      · simp
    · simp
  · exact nodup_eraseDups _
  · simp

theorem extC_sound {gt : Nat → Bool} {K : RS → Prop} {p : Prop} (h : extC P gt s o K = some p) (hp0 : p) : ∃ s', ExtOk P o s s' ∧ K s' := by
  unfold extC at h
  split at h
  · rename_i c ho
    split at h <;> try (cases h; done)
    · rename_i x y hc h0 h1
      split at h
      rotate_left
      · split at h <;> try (cases h; done)
        rename_i t tn ht htn
        split at h <;> try (cases h; done)
        rename_i e kn k n hu hun hy
        split at h <;> try (cases h; done)
        rename_i i hi
        split at h <;> try (cases h; done)
        rename_i hgt
        split at h <;> try (cases h; done)
        rename_i zr hz
        cases h
        obtain ⟨hcc, hK⟩ := hp0.elim'
        simp only [Bool.and_eq_true, decide_eq_true_eq] at hcc hgt
        obtain ⟨⟨⟨⟨⟨⟨⟨⟨a1, a2⟩, a3⟩, a4⟩, a5⟩, a6⟩, a7⟩, a8⟩, a9⟩ := hcc
        exact ⟨_, ext_zeros ho hc a1 h0 h1 a2 ht htn hu hun hi hgt.2 hy hz a3 a4 a5 a6 a7 a8 a9, hK⟩
      rename_i e i hinf
      split at h
      · rename_i g ver n k hx
        split at h <;> try (cases h; done)
        rename_i blk ys hg hys
        cases h
        obtain ⟨hcc, hv, h2⟩ := hp0.elim'
        obtain ⟨hfit, hK⟩ := h2.elim'
        simp only [Bool.and_eq_true, decide_eq_true_eq, Bool.not_eq_true'] at hcc hfit
        obtain ⟨⟨⟨hsz, rfl⟩, hgr⟩, hf⟩ := hcc
        exact ⟨_, ext_append ho hc hsz h0 h1 hinf hx hys hg hgr hv hf hfit, hK⟩
      · split at h <;> try (cases h; done)
        rename_i hgt
        split at h <;> try (cases h; done)
        rename_i ys hys
        cases h
        obtain ⟨hcc, h2⟩ := hp0.elim'
        simp only [Bool.and_eq_true, decide_eq_true_eq, Bool.or_eq_true] at hcc hgt
        have hbase : isNilSlice (evalA s.tm x) = true ∨ evalA s.tm x = .full i.size [] := by
          rcases hgt.2 with h3 | h3
          · exact .inl h3
          · right
            unfold isFull0 at h3
            split at h3
            · rename_i k hk; rw [hk]; simp only [decide_eq_true_eq] at h3; rw [h3]
            · cases h3
        rcases h2.elim with ⟨hpos, hK⟩ | ⟨hpos, hK⟩
        · have hpos : 0 < ys.length := by simpa using hpos
          exact ⟨_, ext_first ho hc hcc.1 h0 h1 hinf hbase hys (List.length_pos_iff.1 hpos) hcc.2, hK⟩
        · have hpos : ys = [] := by
            have : ¬ 0 < ys.length := by simpa using hpos
            exact List.length_eq_zero_iff.1 (by omega)
          subst hpos
          exact ⟨_, ext_zero ho hc hcc.1 h0 h1 hinf hbase hys, hK⟩
    · rename_i x y hc h0 h1
      split at h <;> try (cases h; done)
      rename_i g ver n k t hx ht
      split at h <;> try (cases h; done)
      rename_i blk ys e hg hys hu
      split at h <;> try (cases h; done)
      rename_i i hi
      cases h
      obtain ⟨hcc, hv, hK⟩ := hp0.elim'
      simp only [Bool.and_eq_true, decide_eq_true_eq, Bool.not_eq_true'] at hcc
      obtain ⟨⟨⟨⟨⟨a1, a2⟩, a3⟩, rfl⟩, a5⟩, a6⟩ := hcc
      exact ⟨_, ext_copy ho hc a1 h0 h1 a2 ht hu hi a3 hx hys hg a5 hv a6, hK⟩
  · rename_i t lo co ho
    split at h <;> try (cases h; done)
    rename_i e hu
    split at h <;> try (cases h; done)
    split at h <;> try (cases h; done)
    rename_i kl l kc c i hl hc hi
    split at h <;> try (cases h; done)
    rename_i zr hz
    cases h
    obtain ⟨hcc, hK⟩ := hp0.elim'
    simp only [Bool.and_eq_true, decide_eq_true_eq] at hcc
    obtain ⟨⟨⟨⟨⟨⟨a1, a2⟩, a3⟩, a4⟩, a5⟩, a6⟩, a7⟩ := hcc
    exact ⟨_, ext_make ho hu hi hl hc hz a1 a2 a3 a4 a5 a6 a7, hK⟩
  · rename_i t x hi ho
    split at h <;> try (cases h; done)
    rename_i g ver n k kk j e hx hj hu
    split at h <;> try (cases h; done)
    rename_i i blk hi' hg
    cases h
    obtain ⟨hcc, hv, hK⟩ := hp0.elim'
    simp only [Bool.and_eq_true, decide_eq_true_eq, Bool.not_eq_true'] at hcc
    obtain ⟨⟨⟨⟨rfl, a2⟩, a3⟩, a4⟩, a5⟩ := hcc
    exact ⟨_, ext_cut ho hu hi' hx hj hg a2 hv a3 a4 a5, hK⟩
  · rename_i t ax x ho
    split at h <;> try (cases h; done)
    rename_i g ver off hax
    split at h <;> try (cases h; done)
    rename_i i blk xs hi hg hxs
    cases h
    obtain ⟨hcc, hv, h2⟩ := hp0.elim'
    obtain ⟨hoff, hK⟩ := h2.elim'
    simp only [Bool.and_eq_true, decide_eq_true_eq, Bool.not_eq_true'] at hcc hoff
    exact ⟨_, ext_store ho hi hax hxs hg hcc.1.1 hcc.1.2 hv hcc.2 hoff, hK⟩
  · cases h

theorem demC_sound {K : RS → Prop} {p : Prop} (h : demC P s o K = some p) (hp0 : p) : ∃ T : RS → Prop, DemOk P o s T ∧ ∀ s', T s' → K s' := by
  unfold demC at h
  split at h <;> try (cases h; done)
  rename_i op t x y ty ho
  split at h <;> try (cases h; done)
  rename_i hn
  split at h <;> try (cases h; done)
  all_goals
    rename_i k xs e hrows hu
    cases h
  · refine ⟨fun s' => ∃ t : Bool, (t = true → xs = []) ∧ s' = { tm := putA s.tm o.dst (.d (.s (.bool t))), hp := s.hp, pv := pvPut s.pv o.dst }, ?_, ?_⟩
    · intro r S X yv w m B hv a K' Q hr hK
      have h1 := rows?_spec hrows (evalA_sound hr x)
      have h2 := isNilSlice_spec hn (evalA_sound hr y)
      obtain ⟨hl, hr', hpv⟩ := hr
      obtain ⟨base, n, cap, hv1, hbb⟩ : ∃ base n cap, a.eval x = .slice base n cap ∧ (base.isNone = true → xs = []) := by
        generalize a.eval x = v at h1
        cases h1 with
        | nil => exact ⟨_, _, _, rfl, fun _ => rfl⟩
        | sl => exact ⟨_, _, _, rfl, fun h => by cases h⟩
      obtain ⟨q1, q2, q3, q4⟩ := eql_nil_run hu base n cap x y w
      have hexec : (execOp a.eval o).run P w = .ok (.value (.bool base.isNone)) w := by
        unfold execOp; rw [ho]; simp only [hv1, h2, Sem.run_bind]; simp only [Sem.run_bind] at q1; rw [q1]; rfl
      refine wpIn_value (by simp [ho]) hexec (.inl rfl) ?_
      exact Nx.of (hK _ ⟨base.isNone, hbb, rfl⟩) (Gs.refl S X none w m) hl (hr'.cons (x := .d (.s (.bool base.isNone))) (v := .bool base.isNone) (.d (.s _)) rfl) (pvPut_ok hpv _ _)
    · rintro _ ⟨t, ht, rfl⟩; exact hp0 t ht
  · refine ⟨fun s' => ∃ t : Bool, (t = true → xs = []) ∧ s' = { tm := putA s.tm o.dst (.d (.s (.bool !t))), hp := s.hp, pv := pvPut s.pv o.dst }, ?_, ?_⟩
    · intro r S X yv w m B hv a K' Q hr hK
      have h1 := rows?_spec hrows (evalA_sound hr x)
      have h2 := isNilSlice_spec hn (evalA_sound hr y)
      obtain ⟨hl, hr', hpv⟩ := hr
      obtain ⟨base, n, cap, hv1, hbb⟩ : ∃ base n cap, a.eval x = .slice base n cap ∧ (base.isNone = true → xs = []) := by
        generalize a.eval x = v at h1
        cases h1 with
        | nil => exact ⟨_, _, _, rfl, fun _ => rfl⟩
        | sl => exact ⟨_, _, _, rfl, fun h => by cases h⟩
      obtain ⟨q1, q2, q3, q4⟩ := eql_nil_run hu base n cap x y w
      have hexec : (execOp a.eval o).run P w = .ok (.value (.bool !base.isNone)) w := by
        unfold execOp; rw [ho]; simp only [hv1, h2, Sem.run_bind]; simp only [Sem.run_bind] at q2; rw [q2]; rfl
      refine wpIn_value (by simp [ho]) hexec (.inl rfl) ?_
      exact Nx.of (hK _ ⟨base.isNone, hbb, rfl⟩) (Gs.refl S X none w m) hl (hr'.cons (x := .d (.s (.bool !base.isNone))) (v := .bool !base.isNone) (.d (.s _)) rfl) (pvPut_ok hpv _ _)
    · rintro _ ⟨t, ht, rfl⟩; exact hp0 t ht

theorem opC_sound {K : RS → Ev.β → Prop} {R : RS → Ev.β → Prop} {l : List Oper} (hX : X.Ok) (h : opC P X ops o s b K) (hK : ∀ s' b', K s' b' → wOps Ev ops l s' b' R) : wOps Ev ops (o :: l) s b R := by
  unfold opC at h
  rcases guardC_sound h with ⟨hw0, h⟩ | ⟨hw, h⟩
  · obtain ⟨s0, hfz, hgd, h⟩ := frzC_sound h (needFrz_nodup _ _ _)
    have hw : wantedA ops o s0.tm = some true := hgd _ hw0
    refine ⟨s0, hfz, ?_⟩
    split at h
    · rename_i k args hc
      split at h
      · rename_i f hf
        obtain ⟨hcl, h⟩ := h.elim'
        obtain ⟨x, hp, h⟩ := hX.call k f hf args _ h
        exact .inr (.inl ⟨hw, k, args, hc, .inl ⟨hcl, x, hp, hK _ _ h⟩⟩)
      · split at h
        · rename_i f hf
          obtain ⟨x, hp', hp, h⟩ := hX.scall k f hf args _ _ h
          exact .inr (.inl ⟨hw, k, args, hc, .inr ⟨x, hp', hp, hK _ _ h⟩⟩)
        · exact h.elim
    · split at h
      · rename_i args hy
        obtain ⟨hcl, h⟩ := h.elim'
        rw [hX.y] at h
        exact .inr (.inr (.inl ⟨hw, args, hy, hcl, Ev.Ymono h fun _ _ h => hK _ _ h⟩))
      · split at h
        · rename_i p hpx
          obtain ⟨T, he, h⟩ := demC_sound hpx h
          exact .inr (.inr (.inr ⟨hw, T, he, fun s' hs => hK _ _ (h s' hs)⟩))
        split at h
        · rename_i p hpx
          obtain ⟨s', he, h⟩ := extC_sound hpx h
          exact .inr (.inr (.inr ⟨hw, _, he.dem, fun s'' hs => by subst hs; exact hK _ _ h⟩))
        · obtain ⟨s', hs, h⟩ := bodyC_sound h
          exact .inl ⟨s', by rw [xStep_body hw]; exact hs, hK _ _ h⟩
  · exact ⟨s, .rfl, .inl ⟨_, by simp only [xStep, hw], hK _ _ h⟩⟩

theorem opsC_sound (hX : X.Ok) {R : RS → Ev.β → Prop} : ∀ {l : List Oper} {s : RS} {b : Ev.β} {K : RS → Ev.β → Prop}, opsC P X ops l s b K → (∀ s' b', K s' b' → R s' b') → wOps Ev ops l s b R
  | [], s, b, K, h, hK => hK _ _ h
  | o :: l, s, b, K, h, hK => opC_sound hX h fun s' b' h => opsC_sound hX h hK

/-! ### the pure operations of a region that draws its order -/
open Classical in
noncomputable def tblD (tb : Tbl) : CallT :=
  ⟨fun d k args => match tb.find? (fun t => t.1 == d) with
    | some t => if t.2.1 = k ∧ t.2.2.1 = args then some t.2.2.2 else none
    | none => none, fun _ _ _ => none⟩

theorem tblD_ok {tb : Tbl} (h : ∀ t ∈ tb, PCall P t.2.1 t.2.2.1 t.2.2.2) : CallOk P (tblD tb) := by
  refine ⟨fun d f args r hr => ?_, fun _ _ _ _ _ h => by cases h⟩
  simp only [tblD] at hr
  split at hr <;> try (cases hr; done)
  rename_i t ht
  split at hr <;> try (cases hr; done)
  rename_i hc
  cases hr
  have := h t (List.mem_of_find?_eq_some ht)
  rw [hc.1, hc.2] at this; exact this

theorem xp_other {call : CallT} {x : AV} (hw : wantedA ops o tm = some true) (hx : xq P hp (evalA tm) o = some x) : xp P call ops hp tm o = some x := by
  unfold xp
  rw [hw]
  simp only
  split
  · rename_i c ho
    split
    · rename_i f hc
      simp [xq, ho, hc] at hx
    · exact hx
  · exact hx

theorem find_of_nodup : ∀ {T : Tbl}, (T.map (·.1)).Nodup → ∀ t ∈ T, T.find? (fun e => e.1 == t.1) = some t
  | [], _, t, h => by cases h
  | e :: T, hn, t, h => by
    simp only [List.map_cons, List.nodup_cons] at hn
    rcases List.mem_cons.1 h with rfl | h
    · simp
    · have hne : ¬ e.1 = t.1 := fun he => hn.1 (he ▸ List.mem_map.2 ⟨t, h, rfl⟩)
      rw [List.find?_cons_of_neg (by simpa using hne)]
      exact find_of_nodup hn.2 t h

theorem preC_sound (hX : X.Ok) : ∀ {l : List Oper} {tm : List AV} {tb : Tbl} {K : List AV → Tbl → Prop}, preC P X ops hp l tm tb K →
    ∃ tmK tb', K tmK tb' ∧ (∀ t ∈ tb, t ∈ tb') ∧ ((∀ t ∈ tb, PCall P t.2.1 t.2.2.1 t.2.2.2) → ∀ t ∈ tb', PCall P t.2.1 t.2.2.1 t.2.2.2) ∧ ∀ T : Tbl, (∀ t ∈ tb', T.find? (fun e => e.1 == t.1) = some t) → xPre P (tblD T) ops hp l tm = some tmK
  | [], tm, tb, K, h => ⟨tm, tb, h, fun _ h => h, fun h => h, fun _ _ => rfl⟩
  | o :: l, tm, tb, K, h => by
    simp only [preC] at h
    rcases guardC_sound h with ⟨hw, h⟩ | ⟨hw, h⟩
    · split at h
      · rename_i k args hc
        split at h
        · rename_i f hf
          obtain ⟨hcl, h⟩ := h.elim'
          obtain ⟨x, hpc, h⟩ := hX.call k f hf args _ h
          obtain ⟨tmK, tb', h1, h2, h3, h4⟩ := preC_sound hX h
          refine ⟨tmK, tb', h1, fun t ht => h2 t (List.mem_cons_of_mem _ ht), fun hall => h3 fun t ht => ?_, fun T hT => ?_⟩
          · rcases List.mem_cons.1 ht with rfl | ht
            · exact hpc
            · exact hall t ht
          · have hf' := hT _ (h2 _ (List.mem_cons_self ..))
            have hxp : xp P (tblD T) ops hp tm o = some x.view := by
              unfold opCall at hc
              split at hc <;> try (cases hc; done)
              rename_i c ho
              split at hc <;> try (cases hc; done)
              rename_i f hcc
              unfold xp
              simp only [hw, ho, hcc, hc, hcl, if_true]
              simp only at hf'
              simp [tblD, hf']
            simp only [xPre, hxp]; exact h4 T hT
        · exact h.elim
      · split at h
        · rename_i t x y hpick
          have hxq : xq P hp (evalA tm) o = some (if t then x else y) := by
            unfold pickO at hpick
            split at hpick <;> try (cases hpick; done)
            rename_i c a b ho
            split at hpick <;> try (cases hpick; done)
            rename_i t'' hc
            cases hpick
            simp [xq, ho, hc]
          have hs := pickO_cond hpick
          rcases h.elim with ⟨rfl, h⟩ | ⟨rfl, h⟩ <;> rw [hs] at h
          · obtain ⟨tmK, tb', h1, h2, h3, h4⟩ := preC_sound hX h
            exact ⟨tmK, tb', h1, h2, h3, fun T hT => by simp only [xPre, xp_other hw hxq]; exact h4 T hT⟩
          · obtain ⟨tmK, tb', h1, h2, h3, h4⟩ := preC_sound hX h
            exact ⟨tmK, tb', h1, h2, h3, fun T hT => by simp only [xPre, xp_other hw hxq]; exact h4 T hT⟩
        · obtain ⟨x, hxq, h⟩ := valC_sound h
          obtain ⟨tmK, tb', h1, h2, h3, h4⟩ := preC_sound hX h
          exact ⟨tmK, tb', h1, h2, h3, fun T hT => by simp only [xPre, xp_other hw hxq]; exact h4 T hT⟩
    · obtain ⟨tmK, tb', h1, h2, h3, h4⟩ := preC_sound hX h
      refine ⟨tmK, tb', h1, h2, h3, fun T hT => ?_⟩
      have : xp P (tblD T) ops hp tm o = some (.d (.s undef)) := by unfold xp; rw [hw]
      simp only [xPre, this]; exact h4 T hT

/-! ### what stores leave alone -/
def hdr (blk : Blk) : Bool × Nat × Nat := (blk.grow, blk.ver, blk.cells.length)

/-- blocks before and behind stores -/
structure Sim (fp : List (Nat × Nat × Nat)) (h h' : List Blk) : Prop where
  hd : ∀ g, g < h.length → (h'[g]?).map hdr = (h[g]?).map hdr
  ln : h.length ≤ h'.length
  same : ∀ (g : Nat) (blk blk' : Blk) (i : Nat), h[g]? = some blk → h'[g]? = some blk' → apartB fp g i 1 = true → blk'.cells[i]? = blk.cells[i]?

theorem Sim.refl (fp : List (Nat × Nat × Nat)) (h : List Blk) : Sim fp h h := ⟨fun _ _ => rfl, Nat.le_refl _, fun g blk blk' i h1 h2 _ => by rw [h1] at h2; cases h2; rfl⟩

theorem apartB_tail {fp : List (Nat × Nat × Nat)} {q : Nat × Nat × Nat} {g i n : Nat} (h : apartB (q :: fp) g i n = true) : apartB fp g i n = true := by
  simp only [apartB, List.all_cons, Bool.and_eq_true] at h
  exact h.2
theorem Sim.widen {fp fp1 : List (Nat × Nat × Nat)} {h h' : List Blk} (hs : Sim fp h h') : Sim (fp ++ fp1) h h' :=
  ⟨hs.hd, hs.ln, fun g blk blk' i h1 h2 h3 => hs.same g blk blk' i h1 h2 (by simp only [apartB, List.all_append, Bool.and_eq_true] at h3; exact h3.1)⟩
theorem storeFps_skip {tm : List AV} {o : Oper} {l : List Oper} (h : ∀ t a x, o.op ≠ .store t a x) : storeFps tm (o :: l) = storeFps tm l := by
  simp only [storeFps]

/-- late ones, the temporaries at their ends being known -/
theorem xLates_sim {l : List Oper} {tmF : List AV} : ∀ {tm : List AV} {h0 h : List Blk} {sts : List (List AV × List Blk)}, xLates P l tm h = some sts →
    (∀ (i : Nat) (o : Oper) (t : List AV) (hh : List Blk), l[i]? = some o → sts[i]? = some (t, hh) → ∀ a b c, o.op = .store a b c → evalA t b = evalA tmF b ∧ evalA t c = evalA tmF c) →
    ∀ fp0, Sim fp0 h0 h → ∀ st ∈ sts, Sim (fp0 ++ storeFps tmF l) h0 st.2 ∧ (hasAlloc l = false → st.2.length = h.length) := by
  induction l with
  | nil =>
    intro tm h0 h sts hx _ fp0 hs st hh
    simp only [xLates, Option.some.injEq] at hx
    subst hx
    rw [List.mem_singleton.1 hh]
    exact ⟨by simpa [storeFps] using hs, fun _ => rfl⟩
  | cons o l ih =>
    intro tm h0 h sts hx hev fp0 hs st hh
    simp only [xLates] at hx
    split at hx <;> try (cases hx; done)
    rename_i xr h1 hl
    simp only [Option.map_eq_some_iff] at hx
    obtain ⟨sts', hx, rfl⟩ := hx
    have hev' : ∀ (i : Nat) (o : Oper) (t : List AV) (hh : List Blk), l[i]? = some o → sts'[i]? = some (t, hh) → ∀ a b c, o.op = .store a b c → evalA t b = evalA tmF b ∧ evalA t c = evalA tmF c :=
      fun i o' t hh e1 e2 => hev (i + 1) o' t hh (by simpa using e1) (by simpa using e2)
    unfold xLate at hl
    split at hl <;> try (cases hl; done)
    · rename_i t a x ho hg hd
      obtain ⟨ea, ex⟩ := hev 0 o tm h rfl rfl t a x ho
      split at hl <;> try (cases hl; done)
      rename_i hown
      split at hl <;> try (cases hl; done)
      rename_i xs hxs
      simp only [Option.map_eq_some_iff, Prod.mk.injEq] at hl
      obtain ⟨h2, hl, rfl, rfl⟩ := hl
      unfold xStore at hl
      split at hl <;> try (cases hl; done)
      rename_i i g off hi ha
      split at hl <;> try (cases hl; done)
      rename_i blk hblk
      split at hl <;> try (cases hl; done)
      rename_i hc
      cases hl
      have e : storeFps tmF (o :: l) = (g, off, xs.length) :: storeFps tmF l := by simp only [storeFps, ho, ← ea, ← ex, ha, hxs]
      have hal : hasAlloc (o :: l) = hasAlloc l := by simp only [hasAlloc, ho]
      rw [e, hal]
      have hgl : g < h.length := (List.getElem?_eq_some_iff.1 hblk).1
      have hs1 : Sim (fp0 ++ [(g, off, xs.length)]) h0 (h.set g { blk with cells := blk.cells.take off ++ xs ++ blk.cells.drop (off + xs.length) }) := by
        refine ⟨fun g' hg' => ?_, by rw [List.length_set]; exact hs.ln, fun g' b0 b1 j e1 e2 e3 => ?_⟩
        · rw [← hs.hd g' hg']
          by_cases hgg : g' = g
          · subst hgg
            rw [List.getElem?_set_self hgl, hblk]
            have hlen : (blk.cells.take off ++ xs ++ blk.cells.drop (off + xs.length)).length = blk.cells.length := by
              simp only [List.length_append, List.length_take, List.length_drop]; have := hc.2.2.2; omega
            simp only [Option.map_some, hdr, hlen]
          · rw [List.getElem?_set_ne (Ne.symm hgg)]
        · simp only [apartB, List.all_append, Bool.and_eq_true] at e3
          obtain ⟨e3, e4⟩ := e3
          by_cases hgg : g' = g
          · subst hgg
            rw [List.getElem?_set_self hgl] at e2
            cases e2
            simp only [List.all_cons, List.all_nil, Bool.and_true, bne_self_eq_false, Bool.false_or, Bool.or_eq_true, decide_eq_true_eq] at e4
            rw [← hs.same g' b0 blk j e1 hblk e3]
            simp only
            rcases e4 with e4 | e4
            · rw [List.getElem?_append_right (by simp; omega), List.getElem?_drop]
              congr 1
              simp only [List.length_append, List.length_take]; have := hc.2.2.2; omega
            · rw [List.append_assoc, List.getElem?_append_left (by simp; have := hc.2.2.2; omega), List.getElem?_take, if_pos (by omega)]
          · rw [List.getElem?_set_ne (Ne.symm hgg)] at e2
            exact hs.same g' b0 b1 j e1 e2 e3
      rcases List.mem_cons.1 hh with rfl | hh
      · exact ⟨hs.widen, fun _ => rfl⟩
      · obtain ⟨h3, h4⟩ := ih hx hev' _ hs1 st hh
        exact ⟨by simpa using h3, fun ha => by rw [h4 ha, List.length_set]⟩
    · rename_i t d ho hg hd
      split at hl <;> try (cases hl; done)
      rename_i xs hxs
      simp only [Option.some.injEq, Prod.mk.injEq] at hl
      obtain ⟨rfl, rfl⟩ := hl
      have hal : hasAlloc (o :: l) = true := by simp only [hasAlloc, ho]
      rw [storeFps_skip (fun t a x h => by rw [ho] at h; cases h), hal]
      rcases List.mem_cons.1 hh with rfl | hh
      · exact ⟨hs.widen, fun h => by cases h⟩
      · have hs1 : Sim fp0 h0 (h ++ [⟨xs, false, false, 0⟩]) := by
          have hln := hs.ln
          refine ⟨fun g hg => ?_, by simp; omega, fun g b0 b1 j e1 e2 e3 => ?_⟩
          · rw [List.getElem?_append_left (by omega)]; exact hs.hd g hg
          · have hg := (List.getElem?_eq_some_iff.1 e1).1
            rw [List.getElem?_append_left (by omega)] at e2
            exact hs.same g b0 b1 j e1 e2 e3
        exact ⟨(ih hx hev' _ hs1 st hh).1, fun h => by cases h⟩

end
end Go.Proofs.YtfeemohdpmdaoaaDoor.Am

/- What must be shown of code: it suffices: regions, code, functions. -/
namespace Go.Proofs.YtfeemohdpmdaoaaDoor.Am
set_option linter.unusedVariables false
set_option linter.unusedSimpArgs false
open Go Go.RowKit

section
variable {P : Program} {hp hp' h h' : List Blk} {tm tm' : List AV} {o : Oper} {ops : Array Oper} {fp : List (Nat × Nat × Nat)}

theorem Sim.cases (hs : Sim fp h h') (g : Nat) (hg : g < h.length ∨ h'.length = h.length) : (h[g]? = none ∧ h'[g]? = none) ∨ ∃ b b', h[g]? = some b ∧ h'[g]? = some b' ∧ b'.grow = b.grow ∧ b'.ver = b.ver ∧ b'.cells.length = b.cells.length := by
  cases h1 : h[g]? with
  | none =>
    have h2 : h.length ≤ g := List.getElem?_eq_none_iff.1 h1
    exact .inl ⟨rfl, List.getElem?_eq_none (by omega)⟩
  | some b =>
    have := hs.hd g (List.getElem?_eq_some_iff.1 h1).1
    rw [h1] at this
    simp only [Option.map_some, Option.map_eq_some_iff] at this
    obtain ⟨b', h2, h3⟩ := this
    simp only [hdr, Prod.mk.injEq] at h3
    exact .inr ⟨b, b', rfl, h2, h3⟩
/-- it leans on the blocks of h alone -/
def LowIn (h h' : List Blk) (a : AV) : Prop := a.low h.length = true ∨ h'.length = h.length

theorem cellsAt_d (h h' : List Blk) (x : Dv) : cellsAt h' (.d x) = cellsAt h (.d x) := by
  cases x with
  | s v =>
    cases v <;> try rfl
    rename_i oa
    cases oa <;> rfl
  | sl k xs => rfl
theorem shiftPtr_d (h h' : List Blk) (x : Dv) (n : Nat) : shiftPtr h' (.d x) n = shiftPtr h (.d x) n := by
  cases x with
  | s v =>
    cases v <;> try rfl
    rename_i oa
    cases oa <;> rfl
  | sl k xs => rfl
theorem shiftPtr_sim (hs : Sim fp h h') (a : AV) (ha : LowIn h h' a) (n : Nat) : shiftPtr h' a n = shiftPtr h a n := by
  cases a <;> first | exact shiftPtr_d _ _ _ _ | simp only [shiftPtr]
  · rename_i g off
    rcases hs.cases g (ha.imp (fun h => by simpa [AV.low] using h) id) with ⟨h1, h2⟩ | ⟨b, b', h1, h2, h3, h4, h5⟩
    · simp only [h1, h2]
    · simp only [h1, h2, h3]
  · rename_i g v off
    rcases hs.cases g (ha.imp (fun h => by simpa [AV.low] using h) id) with ⟨h1, h2⟩ | ⟨b, b', h1, h2, h3, h4, h5⟩
    · simp only [h1, h2]
    · simp only [h1, h2, h3, h4]

theorem fieldAddr_sim (hs : Sim fp h h') (t : TypeId) (a : AV) (ha : LowIn h h' a) (f : Nat) : xFieldAddr P h' t a f = xFieldAddr P h t a f := by
  unfold xFieldAddr
  simp only [shiftPtr_sim hs a ha]

theorem indexAddr_sim (hs : Sim fp h h') (t : TypeId) (a ix : AV) (ha : LowIn h h' a) : xIndexAddr P h' t a ix = xIndexAddr P h t a ix := by
  unfold xIndexAddr
  simp only [shiftPtr_sim hs a ha]
  split <;> try rfl
  split <;> try rfl
  cases a <;> try rfl
  rename_i g v l k
  simp only
  rcases hs.cases g (ha.imp (fun h => by simpa [AV.low] using h) id) with ⟨h1, h2⟩ | ⟨b, b', h1, h2, h3, h4, h5⟩
  · simp only [h1, h2]
  · simp only [h1, h2, h3, h4]

theorem len_sim (hs : Sim fp h h') (a : AV) (ha : LowIn h h' a) : a.len? h' = a.len? h := by
  cases a
  case gref g v l k =>
    simp only [AV.len?]
    rcases hs.cases g (ha.imp (fun h => by simpa [AV.low] using h) id) with ⟨h1, h2⟩ | ⟨b, b', h1, h2, h3, h4, h5⟩
    · simp only [h1, h2]
    · simp only [h1, h2, h3, h4]
  all_goals first | rfl | (rename_i x; cases x <;> rfl)

theorem slice_sim (hs : Sim fp h h') (t : TypeId) (x : AV) (ha : LowIn h h' x) (lo hi mx : Option AV) : xSlice P h' t x lo hi mx = xSlice P h t x lo hi mx := by
  unfold xSlice
  split <;> try rfl
  split <;> try rfl
  cases x <;> try rfl
  rename_i g off
  simp only
  rcases hs.cases g (ha.imp (fun h => by simpa [AV.low] using h) id) with ⟨h1, h2⟩ | ⟨b, b', h1, h2, h3, h4, h5⟩
  · simp only [h1, h2]
  · simp only [h1, h2, h3, h5]

theorem load_sim (hs : Sim fp h h') (t : TypeId) (a : AV) (ha : LowIn h h' a) (hf : ∀ g off, a = .ptr g off → ∀ i, P.info? t = some i → apartB fp g off (max i.size 1) = true) (hg : ∀ g v off, a ≠ .gptr g v off) : xLoad P h' t a = xLoad P h t a := by
  unfold xLoad
  cases a <;> try rfl
  · rw [cellsAt_d h h']
  · rename_i g off
    simp only [cellsAt]
    rcases hs.cases g (ha.imp (fun h => by simpa [AV.low] using h) id) with ⟨h1, h2⟩ | ⟨b, b', h1, h2, h3, h4, h5⟩
    · simp only [h1, h2]
    · simp only [h1, h2, h3]
      cases hgr : b.grow
      · simp only [Bool.false_eq_true, if_false]
        unfold takeCs
        cases hi : P.info? t with
        | none => rfl
        | some i =>
          simp only
          have ha := hf g off rfl i hi
          have hcell : ∀ j, j < max i.size 1 → (b'.cells.drop off)[j]? = (b.cells.drop off)[j]? := by
            intro j hj
            simp only [List.getElem?_drop]
            refine hs.same g b b' (off + j) h1 h2 ?_
            simp only [apartB, List.all_eq_true, Bool.or_eq_true, bne_iff_ne, decide_eq_true_eq] at ha ⊢
            intro q hq
            rcases ha q hq with (h6 | h6) | h6
            · exact .inl (.inl h6)
            · exact .inl (.inr (by omega))
            · exact .inr (by omega)
          have hlen : (b'.cells.drop off).length = (b.cells.drop off).length := by simp [h5]
          have htake : (b'.cells.drop off).take i.size = (b.cells.drop off).take i.size := by
            apply List.ext_getElem?
            intro j
            simp only [List.getElem?_take]
            split
            · exact hcell j (by omega)
            · rfl
          rw [hlen, htake, hcell 0 (by omega)]
      · simp only [if_true]
  · exact absurd rfl (hg _ _ _)

theorem xq_sim (hs : Sim fp h h') (hl : lowB h.length tm o = true ∨ h'.length = h.length) (hf : frameB P tm fp o = true) : xq P h' (evalA tm) o = xq P h (evalA tm) o := by
  have hlo : ∀ x ∈ o.op.operands, LowIn h h' (evalA tm x) := fun x hx => hl.imp (fun h => by
    unfold lowB at h
    exact List.all_eq_true.1 h x (by simpa using hx)) id
  unfold frameB at hf
  unfold xq
  split <;> try rfl
  · rename_i t a ho
    simp only [ho] at hf
    refine load_sim hs t _ (hlo a (by simp [ho, Op.operands])) (fun g off he i hi => ?_) (fun g v off he => ?_)
    · rw [he] at hf; simp only [hi] at hf; exact hf
    · rw [he] at hf; cases hf
  · rename_i t x lo hi mx ho
    simp only [slice_sim hs t _ (hlo x (by simp [ho, Op.operands]))]
  · rename_i t x f ho
    simp only [fieldAddr_sim hs t _ (hlo x (by simp [ho, Op.operands]))]
  · rename_i t x ix ho
    simp only [indexAddr_sim hs t _ _ (hlo x (by simp [ho, Op.operands]))]
  · rename_i c ho
    split <;> try rfl
    split <;> try rfl
    rename_i x hx
    split <;> try rfl
    have hmem : x ∈ o.op.operands := by
      rw [ho]
      have := Array.mem_of_getElem? hx
      show x ∈ c.operands
      unfold Call.operands
      exact Array.mem_append_right _ this
    simp only [xLen, len_sim hs _ (hlo x hmem)]

theorem xp_sim {call : CallT} (hs : Sim fp h h') (hl : lowB h.length tm o = true ∨ h'.length = h.length) (hf : frameB P tm fp o = true) : xp P call ops h' tm o = xp P call ops h tm o := by
  unfold xp
  simp only [xq_sim hs hl hf]

theorem xLates_take : ∀ {l : List Oper} {tm : List AV} {h : List Blk} {sts : List (List AV × List Blk)} (i : Nat), xLates P l tm h = some sts → xLates P (l.take i) tm h = some (sts.take (i + 1))
  | [], tm, h, sts, i, hx => by simp only [xLates, Option.some.injEq] at hx; subst hx; simp [xLates]
  | o :: l, tm, h, sts, i, hx => by
    simp only [xLates] at hx
    split at hx <;> try (cases hx; done)
    rename_i x h1 hl
    simp only [Option.map_eq_some_iff] at hx
    obtain ⟨sts', hx, rfl⟩ := hx
    cases i with
    | zero => simp [xLates]
    | succ i => simp only [List.take_succ_cons, xLates, hl, xLates_take i hx, Option.map_some]
theorem storeFps_cons (tm : List AV) (o : Oper) (l : List Oper) : storeFps tm (o :: l) = storeFps tm [o] ++ storeFps tm l := by
  simp only [storeFps]
  split
  · split <;> rfl
  · rfl
theorem storeFps_mem {tm : List AV} {o : Oper} {q : Nat × Nat × Nat} (hq : q ∈ storeFps tm [o]) : ∀ {l : List Oper}, o ∈ l → q ∈ storeFps tm l
  | [], h => by cases h
  | x :: l, h => by
    rw [storeFps_cons]
    rcases List.mem_cons.1 h with rfl | h
    · exact List.mem_append_left _ hq
    · exact List.mem_append_right _ (storeFps_mem hq h)
theorem storeFps_sub {tm : List AV} {l' : List Oper} : ∀ {l : List Oper}, (∀ o ∈ l, o ∈ l') → ∀ q ∈ storeFps tm l, q ∈ storeFps tm l'
  | [], h, q, hq => by simp [storeFps] at hq
  | x :: l, h, q, hq => by
    rw [storeFps_cons] at hq
    rcases List.mem_append.1 hq with hq | hq
    · exact storeFps_mem hq (h x List.mem_cons_self)
    · exact storeFps_sub (fun o ho => h o (List.mem_cons_of_mem _ ho)) q hq
theorem Sim.sub {fp fp' : List (Nat × Nat × Nat)} {h h' : List Blk} (hs : Sim fp h h') (hf : ∀ q ∈ fp, q ∈ fp') : Sim fp' h h' :=
  ⟨hs.hd, hs.ln, fun g blk blk' i h1 h2 h3 => hs.same g blk blk' i h1 h2 (List.all_eq_true.2 fun q hq => List.all_eq_true.1 h3 q (hf q hq))⟩

theorem findN_spec {k : Nat} : ∀ {m n : Nat}, findN ops k m = some n → drawLateOk ops k n = true
  | 0, n, h => by simp [findN] at h
  | m + 1, n, h => by
    simp only [findN] at h
    split at h
    · rename_i h1; cases h; exact h1
    · exact findN_spec h

end

section
variable {P : Program} {hp hp' : List Blk} {tm tm' : List AV} {ops : Array Oper} {Ev : Env P} {X : CX Ev.β} {b : Ev.β}

theorem preRegC_sound {id k : Nat} (hm : P.follows .mixedOrders = true) (hX : X.Ok) (hk : drawOk ops k = true) {K : List AV → List Blk → Ev.β → Prop} {Q : Exit → St Ev.β → Prop} (h : preRegC P X ops k tm hp b K) (hq : ∀ tm' hp' b', K tm' hp' b' → Q .normal ⟨tm', hp', b'⟩) :
    W Ev (.region id ops true) ⟨tm, hp, b⟩ Q := by
  unfold preRegC at h
  split at h
  · rename_i hks
    obtain ⟨tmK, tb, h1, h2, h3, h4⟩ := preC_sound hX h
    split at h1
    · rename_i hnd
      exact W.draw (s := ⟨tm, hp, b⟩) k (tblD tb) hm (tblD_ok (h3 (by simp))) hk hks (h4 tb (find_of_nodup hnd)) (opsC_sound hX h1 fun s' b' h => hq _ _ _ h)
    · exact h1.elim
  · exact h.elim

theorem lateRegC_sound {id q n : Nat} (hm : P.follows .mixedOrders = true) (hX : X.Ok) (hn : drawLateOk ops q n = true) {K : List AV → List Blk → Ev.β → Prop} {Q : Exit → St Ev.β → Prop} (h : lateRegC P X ops q n tm hp b K) (hq : ∀ tm' hp' b', K tm' hp' b' → Q .normal ⟨tm', hp', b'⟩) :
    W Ev (.region id ops true) ⟨tm, hp, b⟩ Q := by
  unfold lateRegC at h
  split at h
  · rename_i hks
    obtain ⟨tmK, tb, h1, h2, h3, h4⟩ := preC_sound hX h
    split at h1
    · rename_i hnd
      split at h1
      · rename_i sts hlates
        split at h1
        · rename_i st hlast
          obtain ⟨hfr, h1⟩ := h1.elim'
          obtain ⟨tmF, hpn⟩ := st
          obtain ⟨sl1, sl2, sl3⟩ := xLates_get hlates
          obtain ⟨L1, L2⟩ := lates_tm hn hks hlates hlast
          have hedges : ∀ (i : Nat) (o : Oper), ops[i]? = some o → (∀ j ∈ edgesOf o, j < i) := fun i o ho => (late_at hn ho).1
          have hev : ∀ (i : Nat) (o : Oper) (t : List AV) (hh : List Blk), ((ops.toList.drop q).take n)[i]? = some o → sts[i]? = some (t, hh) → ∀ a b c, o.op = .store a b c → evalA t b = evalA tmF b ∧ evalA t c = evalA tmF c := by
            intro i o t hh e1 e2 a b c hst
            rw [List.getElem?_take] at e1
            split at e1 <;> try (cases e1; done)
            rename_i hin
            rw [List.getElem?_drop] at e1
            have ho : ops[q + i]? = some o := by simpa using e1
            have hcon := evalA_congr (o := o) (ops := ops) (tm := t) (tm' := tmF) fun x hx => getD_of (L2 i t hh e2 (by omega) x fun j' o' hj' hjn ho' hd' => by
              have h3 := (late_at hn ho).2.1 (by omega) x hx (q + j') o' (by omega) ho' hd'
              have := hedges _ o ho _ h3
              omega)
            exact ⟨hcon b (by simp [hst, Op.operands]), hcon c (by simp [hst, Op.operands])⟩
          refine W.late (s := ⟨tm, hp, b⟩) q n (tblD tb) hm (tblD_ok (h3 (by simp))) hn hks hlates (h4 tb (find_of_nodup hnd)) (fun i t h' hh j o hj ho hne => ?_) hlast (opsC_sound hX h1 fun s' b' h => hq _ _ _ h)
          have ho' : (ops.toList.take q)[j]? = some o := by rw [List.getElem?_take, if_pos hj]; simpa using ho
          have hfj := List.all_eq_true.1 hfr j (List.mem_range.2 (List.getElem?_eq_some_iff.1 ho').1)
          rw [ho'] at hfj
          simp only [Bool.and_eq_true, Bool.or_eq_true, Bool.not_eq_true'] at hfj
          have hsimA := xLates_sim hlates hev [] (Sim.refl _ _) (t, h') (List.mem_of_getElem? hh)
          have hsim := xLates_sim (xLates_take i hlates) (fun i' o t hh e1 e2 => by
            rw [List.getElem?_take] at e1 e2
            split at e1 <;> try (cases e1; done)
            split at e2 <;> try (cases e2; done)
            exact hev i' o t hh e1 e2) [] (Sim.refl _ _) (t, h') (List.mem_of_getElem? (i := i) (by rw [List.getElem?_take, if_pos (by omega)]; exact hh))
          simp only [List.nil_append] at hsim
          refine xp_sim (hsim.1.sub (storeFps_sub fun o' ho' => ?_)) ?_ hfj.1
          · obtain ⟨i', hi'⟩ := List.mem_iff_getElem?.1 ho'
            rw [List.getElem?_take] at hi'
            split at hi' <;> try (cases hi'; done)
            rename_i hlt
            refine List.mem_filter.2 ⟨List.mem_of_getElem? hi', ?_⟩
            rw [List.getElem?_take] at hi'
            split at hi' <;> try (cases hi'; done)
            rw [List.getElem?_drop] at hi'
            have := hne i' o' hlt (by simpa using hi')
            simpa using this
          · rcases hfj.2 with h5 | h5
            · exact .inr (hsimA.2 h5)
            · exact .inl h5
        · exact h1.elim
      · exact h1.elim
    · exact h1.elim
  · exact h.elim

theorem drawC_sound {id : Nat} (hm : P.follows .mixedOrders = true) (hX : X.Ok) {K : List AV → List Blk → Ev.β → Prop} {Q : Exit → St Ev.β → Prop} (h : drawC P X ops tm hp b K) (hq : ∀ tm' hp' b', K tm' hp' b' → Q .normal ⟨tm', hp', b'⟩) :
    W Ev (.region id ops true) ⟨tm, hp, b⟩ Q := by
  unfold drawC at h
  split at h
  · rename_i k hk
    exact preRegC_sound hm hX (findK_spec hk) h hq
  · split at h
    · rename_i n hn
      exact lateRegC_sound hm hX (findN_spec hn) h hq
    · split at h
      · rename_i k hk
        exact preRegC_sound hm hX (findK_spec hk) h hq
      · split at h
        · rename_i n hn
          exact lateRegC_sound hm hX (findN_spec hn) h hq
        · exact h.elim

/-- what a temporary leans on turns no more: from here on it is data -/
theorem W.ofFrz {P : Program} {Ev : Env P} {c : Code} {b : Ev.β} {Q : Exit → St Ev.β → Prop} {tm tm1 : List AV} {hp hp1 : List Blk} (hf : FrzOk ⟨tm, hp, []⟩ ⟨tm1, hp1, []⟩) (h : W Ev c ⟨tm1, hp1, b⟩ Q) : W Ev c ⟨tm, hp, b⟩ Q := by
  intro lo r S X V w m B hv a ht
  obtain ⟨S', hg, hr⟩ := hf S X Ev.yl w m B hv a ht.rel
  have ht' := ht.step hg hr rfl
  refine wpIn_mono (h lo r S' X V w m B hv a ht') ?_
  rintro e a' w' ⟨s', S'', X', V', m', hv', hq, ⟨hw, hm⟩, h3⟩
  exact ⟨s', S'', X', V', m', hv', hq, ⟨(hg.went hr.slt).trans hw, hm⟩, h3⟩
theorem W.sealed {P : Program} {Ev : Env P} {c : Code} {b : Ev.β} {Q : Exit → St Ev.β → Prop} {tm : List AV} {hp : List Blk} {t : Nat} {K : List AV → Prop} (h : sealTs hp [t] tm K) (hK : ∀ tm1, K tm1 → W Ev c ⟨tm1, frz hp (occ (tm.getD t .bad)), b⟩ Q) : W Ev c ⟨tm, hp, b⟩ Q := by
  obtain ⟨tm1, hf, h1⟩ := sealTs_sound (gs := occ (tm.getD t .bad)) (tm0 := tm) h (by simp) (frzTm_refl _ _) (fun _ _ => rfl) fun t' ht' g hg => by
    simp at ht'; subst ht'; exact hg
  exact W.ofFrz (frz_ok (s := ⟨tm, hp, []⟩) hf) (hK _ h1)

theorem regionC_sound {id : Nat} {d : Bool} (hm : P.follows .mixedOrders = true) (hX : X.Ok) {K : List AV → List Blk → Ev.β → Prop} {Q : Exit → St Ev.β → Prop} (h : regionC P X ops d tm hp b K) (hq : ∀ tm' hp' b', K tm' hp' b' → Q .normal ⟨tm', hp', b'⟩) :
    W Ev (.region id ops d) ⟨tm, hp, b⟩ Q := by
  unfold regionC at h
  cases d with
  | false =>
    simp only [Bool.false_eq_true, if_false] at h
    exact W.region (s := ⟨tm, hp, b⟩) (opsC_sound hX h fun s' b' h => hq _ _ _ h)
  | true =>
    simp only [if_true] at h
    split at h
    · exact W.sealed h fun tm1 h1 => drawC_sound hm hX h1 hq
    · exact drawC_sound hm hX h hq

theorem stepR_scope {c : Code} {fr : Frame} {a : Act} {k : List Item} {cs : List Frame} {w : World} : step P (lone (fr.atR a (.code (.scope c) :: k)) cs w) = .next (lone (fr.atR a (.code c :: .inScope c :: k)) cs w) :=
  step_lone_go (by simp [stepG, stepG.exec, Frame.atR])
theorem stepR_inScope {c : Code} {fr : Frame} {a : Act} {k : List Item} {cs : List Frame} {w : World} : step P (lone (fr.atR a (.inScope c :: k)) cs w) = .next (lone (fr.atR a k) cs w) :=
  step_lone_go (by simp [stepG, stepG.exec, Frame.atR])

def noGoto {α : Type} (Q : Exit → α → Prop) : Exit → α → Prop
  | .goto _, _ => False
  | e, s => Q e s

theorem wpIn_scope {F : Fence} {n : Nat} {c : Code} {Q : Exit → Act → World → Prop} {a : Act} {w : World} (h : c.wpIn F n P (Exit.noGoto Q) a w) : (Code.scope c).wpIn F n P Q a w := by
  intro b k cs hro hb hr
  have h0 : (lone (b.atR a (.code (.scope c) :: k)) cs w).fenced P F := fenced_calm hb hr rfl
  obtain ⟨e, a₁, w₁, hq, harr⟩ := h b (.inScope c :: k) cs hro hb hr
  cases e with
  | normal => exact ⟨.normal, a₁, w₁, hq, .head h0 stepR_scope (StepsIn.trans harr (.one (fenced_calm hb hr rfl) stepR_inScope))⟩
  | exit id =>
    have hx : exitTo id (.inScope c :: k) = exitTo id k := by simp [exitTo]
    exact ⟨.exit id, a₁, w₁, hq, fun k' hk => .head h0 stepR_scope (harr.1 k' (by rw [hx]; exact hk)),
        fun hr' hk => let ⟨k₁, h1, h2⟩ := harr.2 hr' (by rw [hx]; exact hk); ⟨k₁, h1, .head h0 stepR_scope h2⟩⟩
  | goto l => exact hq.elim
  | ret => exact ⟨_, a₁, w₁, hq, .of_steps (.one h0 stepR_scope) harr⟩
  | panic ch => exact ⟨_, a₁, w₁, hq, .of_steps (.one h0 stepR_scope) harr⟩
  | outgrown => exact ⟨_, a₁, w₁, hq, .of_steps (.one h0 stepR_scope) harr⟩

theorem W.scope {c : Code} {s : St Ev.β} {Q : Exit → St Ev.β → Prop} (h : W Ev c s (noGoto Q)) : W Ev (.scope c) s Q := by
  intro lo r S X V w m B hv a ht
  refine wpIn_scope (wpIn_mono (h lo r S X V w m B hv a ht) fun e a' w' ⟨s', S', X', V', m', hv', h1, h2, h3⟩ => ?_)
  cases e with
  | goto l => exact h1.elim
  | normal => exact ⟨s', S', X', V', m', hv', h1, h2, h3⟩
  | exit id => exact ⟨s', S', X', V', m', hv', h1, h2, h3⟩
  | ret => exact ⟨s', S', X', V', m', hv', h1, h2, h3⟩
  | panic ch => exact ⟨s', S', X', V', m', hv', h1, h2, h3⟩
  | outgrown => exact ⟨s', S', X', V', m', hv', h1, h2, h3⟩

/-- rounds of a loop, one behind the other -/
def WR (Ev : Env P) (c : Code) : Nat → St Ev.β → (Exit → St Ev.β → Prop) → Prop
  | 0, _, _ => False
  | m + 1, s, Q => W Ev c s (thenW (fun s' => WR Ev c m s' Q) Q)

theorem W.rounds {c : Code} {Q : Exit → St Ev.β → Prop} {m : Nat} {s : St Ev.β} (h : WR Ev c m s Q) : W Ev (.loop c) s Q := by
  intro lo r S X V w m0 B hv a ht
  have key : ∀ (n : Nat) (s : St Ev.β) (S0 X0 V0 : Pr) (w0 : World) (m1 : List MB) (hv : List (List Value)) (a : Act), WR Ev c n s Q → (Went Ev.L S X V w S0 X0 V0 w0 ∧ MStep m0 m1) → Tie Ev lo r S0 X0 V0 w0 m1 B hv s.rs s.b a →
      Code.roundsIn (Fn r) 0 P c (Beh Ev lo r S X V w m0 B Q) n a w0 := by
    intro n
    induction n with
    | zero => intro s S0 X0 V0 w0 m1 hv a h; exact h.elim
    | succ n ih =>
      intro s S0 X0 V0 w0 m1 hv a h hm ht
      rw [roundsIn_succ]
      refine wpIn_mono (h lo r S0 X0 V0 w0 m1 B hv a ht) fun e a' w' ⟨s', S', X', V', m', hv', h1, h2, h3⟩ => ?_
      cases e with
      | normal => exact ih s' S' X' V' w' m' hv' a' h1 ⟨hm.1.trans h2.1, hm.2.trans h2.2⟩ h3
      | exit id => exact Beh.from hm ⟨s', S', X', V', m', hv', h1, h2, h3⟩
      | goto l => exact Beh.from hm ⟨s', S', X', V', m', hv', h1, h2, h3⟩
      | ret => exact Beh.from hm ⟨s', S', X', V', m', hv', h1, h2, h3⟩
      | panic ch => exact Beh.from hm ⟨s', S', X', V', m', hv', h1, h2, h3⟩
      | outgrown => exact Beh.from hm ⟨s', S', X', V', m', hv', h1, h2, h3⟩
  exact wpIn_loop_rounds m (key m s S X V w m0 hv a h ⟨Went.refl ht.rel.slt, MStep.refl m0⟩ ht)

theorem rounds_sound {c : Code} {n : Nat} (ih : ∀ {tm : List AV} {hp : List Blk} {b : Ev.β} {K : Exit → List AV → List Blk → Ev.β → Prop} {Q : Exit → St Ev.β → Prop}, wpc P X n c tm hp b K → (∀ e tm hp b, K e tm hp b → Q e ⟨tm, hp, b⟩) → W Ev c ⟨tm, hp, b⟩ Q) :
    ∀ {m : Nat} {tm : List AV} {hp : List Blk} {b : Ev.β} {K : Exit → List AV → List Blk → Ev.β → Prop} {Q : Exit → St Ev.β → Prop}, rounds (wpc P X n c) m tm hp b K → (∀ e tm hp b, K e tm hp b → Q e ⟨tm, hp, b⟩) → WR Ev c m ⟨tm, hp, b⟩ Q
  | 0, tm, hp, b, K, Q, h, hq => h.elim
  | m + 1, tm, hp, b, K, Q, h, hq => by
    simp only [rounds] at h
    refine ih h fun e tm' hp' b' hK => ?_
    cases e with
    | normal => exact rounds_sound ih (m := m) hK hq
    | exit id => exact hq _ _ _ _ hK
    | goto l => exact hq _ _ _ _ hK
    | ret => exact hq _ _ _ _ hK
    | panic ch => exact hq _ _ _ _ hK
    | outgrown => exact hq _ _ _ _ hK

/-- **what must be shown of code suffices** -/
theorem wpc_sound (hm : P.follows .mixedOrders = true) (hX : X.Ok) : ∀ {n : Nat} {c : Code} {tm : List AV} {hp : List Blk} {b : Ev.β} {K : Exit → List AV → List Blk → Ev.β → Prop} {Q : Exit → St Ev.β → Prop},
    wpc P X n c tm hp b K → (∀ e tm hp b, K e tm hp b → Q e ⟨tm, hp, b⟩) → W Ev c ⟨tm, hp, b⟩ Q
  | 0, c, tm, hp, b, K, Q, h, hq => h.elim
  | n + 1, c, tm, hp, b, K, Q, h, hq => by
    cases c with
    | skip => exact W.skip (hq _ _ _ _ h)
    | label l => exact W.label (hq _ _ _ _ h)
    | exit id => exact W.exit (hq _ _ _ _ h)
    | goto l => exact W.goto (hq _ _ _ _ h)
    | ret => exact W.ret (hq _ _ _ _ h)
    | region id ops d => exact regionC_sound hm hX h fun _ _ _ h => hq _ _ _ _ h
    | seq x y =>
      simp only [wpc] at h
      refine W.seq (wpc_sound hm hX h fun e tm' hp' b' hK => ?_)
      cases e with
      | normal => exact wpc_sound hm hX hK hq
      | exit id => exact hq _ _ _ _ hK
      | goto l => exact hq _ _ _ _ hK
      | ret => exact hq _ _ _ _ hK
      | panic ch => exact hq _ _ _ _ hK
      | outgrown => exact hq _ _ _ _ hK
    | cond x c c' =>
      simp only [wpc] at h
      split at h
      · rename_i t hx
        have hs := setB_self hx
        rcases h.elim with ⟨rfl, h⟩ | ⟨rfl, h⟩ <;> rw [hs] at h
        · exact W.cond (t := true) hx (wpc_sound hm hX h hq)
        · exact W.cond (t := false) hx (wpc_sound hm hX h hq)
      · exact h.elim
    | block id c =>
      simp only [wpc] at h
      refine W.block (wpc_sound hm hX h fun e tm' hp' b' hK => ?_)
      cases e with
      | exit id' =>
        simp only [blockK] at hK
        simp only [catchExit]
        split at hK
        · rename_i he; rw [if_pos he]; exact hq _ _ _ _ hK
        · rename_i he; rw [if_neg he]; exact hq _ _ _ _ hK
      | normal => exact hq _ _ _ _ hK
      | goto l => exact hq _ _ _ _ hK
      | ret => exact hq _ _ _ _ hK
      | panic ch => exact hq _ _ _ _ hK
      | outgrown => exact hq _ _ _ _ hK
    | loop c =>
      simp only [wpc] at h
      split at h
      · exact W.rounds (rounds_sound (fun h hq => wpc_sound hm hX h hq) h hq)
      · exact W.mono (hX.wl _ _ _ _ _ h) fun e s h => hq _ _ _ _ h
    | rangeFunc f ps assign body => exact W.mono (hX.wl _ _ _ _ _ h) fun e s h => hq _ _ _ _ h
    | scope body =>
      simp only [wpc] at h
      refine W.scope (wpc_sound hm hX h fun e tm' hp' b' hK => ?_)
      cases e with
      | goto l => exact hK.elim
      | normal => exact hq _ _ _ _ hK
      | exit id => exact hq _ _ _ _ hK
      | ret => exact hq _ _ _ _ hK
      | panic ch => exact hq _ _ _ _ hK
      | outgrown => exact hq _ _ _ _ hK
    | refuse why => exact h.elim

theorem fnK_sound {fn : Func} {R : AV → Ev.β → Prop} {e : Exit} {tm : List AV} {hp : List Blk} {b : Ev.β} (h : fnK P fn R e tm hp b) : FnPost P fn (fun y hp b => ∃ z, SealR hp y z ∧ R z b) e ⟨tm, hp, b⟩ := by
  unfold fnK at h
  obtain ⟨he, h⟩ := h.elim'
  split at h
  · rename_i ys hys
    obtain ⟨z, hz, h⟩ := sealC_sound h
    refine ⟨?_, ys, hys, z, hz, h⟩
    cases e <;> simp at he ⊢
  · exact h.elim

/-- loops are left to be walked by hand -/
def wlW (Ev : Env P) : Code → List AV → List Blk → Ev.β → (Exit → List AV → List Blk → Ev.β → Prop) → Prop := fun c tm hp b K => W Ev c ⟨tm, hp, b⟩ fun e s => K e s.tm s.hp s.b

def CallsOk (P : Program) (T : List (Nat × (List AV → (AV → Prop) → Prop))) : Prop := ∀ (k : Nat) f, T.lookup k = some f → ∀ args K, f args K → ∃ x, PCall P k args x ∧ K x
def SCallsOk (P : Program) (T : List (Nat × (List AV → List Blk → (AV → List Blk → Prop) → Prop))) : Prop := ∀ (k : Nat) f, T.lookup k = some f → ∀ args hp K, f args hp K → ∃ x hp', SCall P k args hp x hp' ∧ K x hp'

theorem CallsOk.nil : CallsOk P [] := fun _ _ h => by cases h
theorem SCallsOk.nil : SCallsOk P [] := fun _ _ h => by cases h
theorem CallsOk.cons {T : List (Nat × (List AV → (AV → Prop) → Prop))} {k : Nat} {f : List AV → (AV → Prop) → Prop} (h : ∀ args K, f args K → ∃ x, PCall P k args x ∧ K x) (hT : CallsOk P T) : CallsOk P ((k, f) :: T) := by
  intro k' f' hl
  rw [List.lookup_cons] at hl
  split at hl
  · rename_i he
    cases hl
    rw [eq_of_beq he]; exact h
  · exact hT k' f' hl

theorem CX.Ok.of {Ev : Env P} {T : List (Nat × (List AV → (AV → Prop) → Prop))} {S : List (Nat × (List AV → List Blk → (AV → List Blk → Prop) → Prop))} {u : Bool} (hT : CallsOk P T) (hS : SCallsOk P S) : CX.Ok Ev ⟨T, S, wlW Ev, Ev.Y, u⟩ :=
  ⟨hT, hS, fun _ _ _ _ _ h => h, rfl⟩

/-- **a function's contract** -/
theorem PCall.ofWp {f n : Nat} {fn : Func} {c : Code} {args : List AV} {x : AV} {T : List (Nat × (List AV → (AV → Prop) → Prop))} {S : List (Nat × (List AV → List Blk → (AV → List Blk → Prop) → Prop))} {u : Bool} (hm : P.follows .mixedOrders = true)
    (hT : CallsOk P T) (hS : SCallsOk P S) (hf : P.funcs[f]? = some fn) (hb : fn.body = some c) (hn : (fn.name == "runtime.NumGoroutine") = false) (hargs : args.map AV.view = args)
    (h : ∀ (Ev : Env P) (b : Ev.β), wpc P ⟨T, S, wlW Ev, Ev.Y, u⟩ n c (startTm fn args) [] b (fnK P fn fun y _ => y = x)) : PCall P f args x := by
  refine PCall.ofWS hf hb hn hargs fun Ev b => wpc_sound hm (CX.Ok.of hT hS) (h Ev b) fun e tm hp b hK => ?_
  obtain ⟨h1, ys, h2, z, h3, rfl⟩ := fnK_sound hK
  exact ⟨h1, ys, h2, h3⟩

/-- **an iterator's contract** -/
theorem ICall.ofWp {f n : Nat} {fn : Func} {c : Code} {args : List AV} {Sp : SpT} {T : List (Nat × (List AV → (AV → Prop) → Prop))} {S : List (Nat × (List AV → List Blk → (AV → List Blk → Prop) → Prop))} {u : Bool} (hm : P.follows .mixedOrders = true)
    (hT : CallsOk P T) (hS : SCallsOk P S) (hf : P.funcs[f]? = some fn) (hb : fn.body = some c) (hn : (fn.name == "runtime.NumGoroutine") = false)
    (h : ∀ (Ev : Env P) (b : Ev.β) (Q : Ev.β → Prop), Sp Ev.Y b Q → wpc P ⟨T, S, wlW Ev, Ev.Y, u⟩ n c (startTm fn args) [] b (fnK P fn fun _ b => Q b)) : ICall P f args Sp := by
  refine ICall.ofW hf hb hn fun Ev b Q hQ => wpc_sound hm (CX.Ok.of hT hS) (h Ev b Q hQ) fun e tm hp b hK => ?_
  obtain ⟨h1, ys, h2, z, h3, h4⟩ := fnK_sound hK
  exact ⟨h1, ys, h2, h4⟩

end
end Go.Proofs.YtfeemohdpmdaoaaDoor.Am

/- Words for abstract values; small laws for walks. -/
namespace Go.Proofs.YtfeemohdpmdaoaaDoor.Am
set_option linter.unusedVariables false
open Go Go.RowKit

def i64 (x : Int) : Dv := .s (.int .i64 x)
def u64 (x : Int) : Dv := .s (.int .u64 x)
def u8 (x : Int) : Dv := .s (.int .u8 x)
def u16 (x : Int) : Dv := .s (.int .u16 x)
def bo (x : Bool) : Dv := .s (.bool x)
noncomputable def code (fn : Func) : Code := fn.body.getD .skip
def firstOf : Code → Code
  | .seq x _ => x
  | c => c
def restOf : Code → Code
  | .seq _ y => y
  | c => c
def dropSeq : Nat → Code → Code
  | n + 1, .seq _ y => dropSeq n y
  | _, c => c
def inBlock : Code → Code
  | .block _ c => c
  | c => c
def inLoop : Code → Code
  | .loop c => c
  | c => c
def assignOf : Code → Code
  | .rangeFunc _ _ a _ => a
  | c => c
def bodyOf : Code → Code
  | .rangeFunc _ _ _ b => b
  | c => c

/-- by which one tells pieces of code apart: the first region's number, and one -/
def cidO : Code → Nat
  | .region id _ _ => id + 1
  | .seq x y => match cidO x with
    | 0 => cidO y
    | n => n
  | .block _ c => cidO c
  | .loop c => cidO c
  | .scope c => cidO c
  | .cond _ x _ => cidO x
  | .rangeFunc _ _ a b => match cidO a with
    | 0 => cidO b
    | n => n
  | _ => 0

abbrev WLT (β : Type) := Code → List AV → List Blk → β → (Exit → List AV → List Blk → β → Prop) → Prop

/-- a part of some code -/
def sub : List Nat → Code → Code
  | [], c => c
  | n :: p, c => match n, c with
    | 0, .seq x _ => sub p x
    | 1, .seq _ y => sub p y
    | 2, .block _ c => sub p c
    | 3, .loop c => sub p c
    | 4, .cond _ x _ => sub p x
    | 5, .cond _ _ y => sub p y
    | 6, .rangeFunc _ _ a _ => sub p a
    | 7, .rangeFunc _ _ _ b => sub p b
    | 8, .scope c => sub p c
    | _, _ => .skip

/-- an element -/
def nth (p : List Int) (i : Nat) : Int := p.getD i 0
/-- bytes, sixteen of them -/
def cells16 (p : List Int) : List AV := (List.range 16).map fun i => .d (u8 (nth p i))

end Go.Proofs.YtfeemohdpmdaoaaDoor.Am
