/- What must be shown of code: it suffices. -/
import Derived.Test.YtgdeoaiakdkhcaaAmZb
namespace Go.Proofs.Ytgdeoaiakdkhcaa.Am
set_option linter.unusedVariables false
set_option linter.unusedSimpArgs false
open Go Go.RowKit

structure CX.Ok {P : Program} (Ev : Env P) (X : CX Ev.β) : Prop where
  call : ∀ (k : Nat) f, X.call.lookup k = some f → ∀ args K, f args K → ∃ x, PCall P k args x ∧ K x
  scall : ∀ (k : Nat) f, X.scall.lookup k = some f → ∀ args hp K, f args hp K → ∃ x hp', SCall P k args hp x hp' ∧ K x hp'
  wl : ∀ c tm hp b K, X.wl c tm hp b K → W Ev c ⟨tm, hp, b⟩ (fun e s => K e s.tm s.hp s.b)
  y : X.y = Ev.Y

section
variable {P : Program} {hp hp' : List Blk} {tm tm' : List AV} {o : Oper} {ops : Array Oper} {Ev : Env P} {X : CX Ev.β} {s : RS} {b : Ev.β}

theorem setB_self {x : Operand} {v : Bool} (h : evalA tm x = .d (.s (.bool v))) : setB tm x v = tm := by
  cases x with
  | tmp t =>
    simp only [evalA, List.getD] at h
    simp only [setB]
    cases ht : tm[t]? with
    | none => rw [ht] at h; cases h
    | some y => rw [ht] at h; simp only [Option.getD_some] at h; subst h; exact list_set_self ht
  | _ => rfl

theorem guardC_sound {A B : List AV → Prop} (h : guardC ops o tm A B) : (wantedA ops o tm = some true ∧ A tm) ∨ (wantedA ops o tm = some false ∧ B tm) := by
  unfold guardC at h
  unfold wantedA
  split at h
  · rename_i hg; rw [hg]; exact .inl ⟨rfl, h⟩
  · rename_i j want hg
    rw [hg]
    split at h
    · rename_i t ht
      split at h
      · rename_i bb hb
        simp only [ht, hb]
        have hs : setB tm (.tmp t) bb = tm := setB_self hb
        rcases h.elim with ⟨rfl, h⟩ | ⟨rfl, h⟩ <;> rw [hs] at h <;> cases want <;> simp only [Bool.false_eq_true, if_true, if_false] at h
        · exact .inr ⟨rfl, h⟩
        · exact .inl ⟨rfl, h⟩
        · exact .inl ⟨rfl, h⟩
        · exact .inr ⟨rfl, h⟩
      · rename_i vs hb
        simp only [ht, hb]
        exact .inr ⟨trivial, h⟩
      · exact h.elim
    · exact h.elim

theorem pickO_cond {t : Bool} {x y : AV} (h : pickO tm o = some (t, x, y)) : setB tm (condOf o) t = tm := by
  unfold pickO at h
  split at h <;> try (cases h; done)
  rename_i c a b ho
  split at h <;> try (cases h; done)
  rename_i t' hc
  cases h
  simp only [condOf, ho]
  exact setB_self hc

theorem pickO_body {pv : List (Nat × Loc)} {t : Bool} {x y : AV} (h : pickO tm o = some (t, x, y)) : bodyX P ⟨tm, hp, pv⟩ o = some ⟨putA tm o.dst (if t then x else y), hp, pvPut pv o.dst⟩ := by
  unfold pickO at h
  split at h <;> try (cases h; done)
  rename_i c a b ho
  split at h <;> try (cases h; done)
  rename_i t' hc
  cases h
  have h1 : xa P ⟨tm, hp, pv⟩ o = none := by simp [xa, ho]
  have h2 : xh P noCall ⟨tm, hp, pv⟩ o = none := by simp [xh, ho]
  have h3 : pvRead P ⟨tm, hp, pv⟩ o = none := by
    unfold pvRead
    rw [ho]
    cases o.dst <;> rfl
  simp only [bodyX, h1, h2, h3]
  simp [xq, ho, hc]

theorem xStep_body (hw : wantedA ops o s.tm = some true) : xStep P noCall ops s o = bodyX P s o := by
  simp only [xStep, hw, bodyX]
  cases xa P s o with
  | some s1 => rfl
  | none => cases xh P noCall s o with
    | some s1 => rfl
    | none => cases xq P s.hp (evalA s.tm) o <;> rfl

theorem restC_sound {K : RS → Prop} (h : restC P s o K) : ∃ s', bodyX P s o = some s' ∧ K s' := by
  unfold restC at h
  split at h
  · rename_i s' hs; exact ⟨s', hs, h⟩
  · exact h.elim

theorem appendC_sound {c : Call} {K : RS → Prop} (ho : o.op = .call c) (h : appendC P s o c K) : ∃ s', bodyX P s o = some s' ∧ K s' := by
  unfold appendC at h
  split at h
  · rename_i x y hcal hx hy
    split at h
    · rename_i e' i hi
      split at h
      · rename_i ys hys
        split at h
        · rename_i loc e k xs hacc
          obtain ⟨hc, hK⟩ := h.elim'
          simp only [Bool.and_eq_true, decide_eq_true_eq] at hc
          obtain ⟨⟨⟨h1, h2⟩, h3⟩, h4⟩ := hc
          refine ⟨_, ?_, hK⟩
          unfold accOf at hacc
          split at hacc <;> try (cases hacc; done)
          rename_i t
          split at hacc <;> try (cases hacc; done)
          rename_i loc' hl
          split at hacc <;> try (cases hacc; done)
          rename_i e1 k1 xs1 hown
          cases hacc
          simp only [bodyX, xa, ho, hcal, hx, hy, h3, hl, hown, hi, hys, if_true]
          rw [if_pos ⟨h1, h2, h4⟩]
        · rename_i hacc
          rcases h.elim with ⟨hc, h⟩ | ⟨hc, h⟩
          · obtain ⟨h4, hK⟩ := h.elim'
            simp only [Bool.and_eq_true, decide_eq_true_eq] at hc h4
            refine ⟨_, ?_, hK⟩
            have hxa : xa P s o = none := by
              simp only [xa, ho, hcal, hx, hy]
              split <;> try rfl
              rename_i t y' _ e1 e2
              cases e1; cases e2
              split <;> try rfl
              split <;> try rfl
              rename_i loc hl
              split <;> try rfl
              rename_i e k xs e1 i1 hown hi1
              exfalso
              simp only [accOf, hl, hown] at hacc
              cases hacc
            have hxh : xh P noCall s o = none := by simp [xh, ho, hcal]
            have hxq : xq P s.hp (evalA s.tm) o = some (.own e' i.size ys) := by
              simp only [xq, ho, hcal, hx, hy, hc.2, if_true, xAppendQ, hi, hys, hc.1]
              rw [if_pos h4]
            simp only [bodyX, hxa, hxh, hxq]
          · exact restC_sound h
      · exact restC_sound h
    · exact restC_sound h
  · exact restC_sound h

theorem copyC_sound {c : Call} {K : RS → Prop} (ho : o.op = .call c) (hc : c.callee = .builtin .copy) (h : copyC P s o c K) : ∃ s', bodyX P s o = some s' ∧ K s' := by
  unfold copyC at h
  split at h
  · rename_i x y hx hy
    split at h
    · rename_i g off n cap k k' xs hd hs
      split at h
      · rename_i t ht
        split at h
        · rename_i e hu
          split at h
          · rename_i i blk hi hblk
            obtain ⟨hcond, h⟩ := h.elim'
            simp only [Bool.and_eq_true, decide_eq_true_eq, Bool.not_eq_true'] at hcond
            obtain ⟨⟨⟨⟨⟨⟨⟨h1, h2⟩, h3⟩, h4⟩, h5⟩, h6⟩, h7⟩, h8⟩ := hcond
            obtain ⟨row, hrow, h⟩ := (shape_sound P 400).2 _ _ h
            obtain ⟨hone, hK⟩ := h.elim'
            refine ⟨_, ?_, hK⟩
            have hxa : xa P s o = none := by simp [xa, ho, hc]
            have hsrc : srcCells s.hp (evalA s.tm y) = some (xs.map fun r => AV.d (r.headD (.s undef))) := by
              have hr := hs
              unfold srcCells
              have hnil : isNilSlice (evalA s.tm y) = false := by
                unfold isNilSlice
                split
                · rename_i he; rw [he] at hr; cases hr
                · rfl
              rw [hnil]
              simp only [Bool.false_eq_true, if_false]
              split
              · rename_i he; rw [he] at hr; cases hr
              · rw [hs]; simp only [h5, if_true]
            have htake : (xs.map fun r => AV.d (r.headD (.s undef))).take n = (xs.take n).map fun r => AV.d (r.headD (.s undef)) := by rw [List.map_take]
            have hlen : ((xs.take n).map fun r => AV.d (r.headD (.s undef))).length = min n xs.length := by simp
            have hall : (((xs.map fun r => AV.d (r.headD (.s undef))).take n).all AV.one) = true := by
              rw [htake]
              rw [← hrow, List.all_append, Bool.and_eq_true] at hone
              exact hone.1
            have hcopy : xCopy P s.hp c.argTypes (evalA s.tm x) (evalA s.tm y) = some (.d (.s (goInt (min n xs.length : Nat))), s.hp.set g { blk with cells := blk.cells.take off ++ row.map AV.d ++ blk.cells.drop (off + n) }) := by
              unfold xCopy
              simp only [ht, hu, hi, hd, hsrc, hblk]
              rw [if_pos ⟨h2, h3, h4, h6, h7, hall, h8⟩, htake, hlen]
              congr 4
              rw [← hrow, List.append_assoc, List.append_assoc, List.append_assoc]
              congr 2
              have e1 : blk.cells.drop (off + min n xs.length) = (blk.cells.drop off).drop (min n xs.length) := by rw [List.drop_drop]
              have e2 : blk.cells.drop (off + n) = (blk.cells.drop off).drop n := by rw [List.drop_drop]
              rw [e1, e2]
              conv => lhs; rw [← List.take_append_drop n (blk.cells.drop off)]
              rw [List.drop_append_of_le_length]
              simp only [List.length_take, List.length_drop]
              omega
            have hxh : xh P noCall s o = some { tm := putA s.tm o.dst (.d (.s (goInt (min n xs.length : Nat)))), hp := s.hp.set g { blk with cells := blk.cells.take off ++ row.map AV.d ++ blk.cells.drop (off + n) }, pv := [] } := by
              simp only [xh, ho, hc, hx, hy, h1, if_true, hcopy]
            simp only [bodyX, hxa, hxh]
          · exact h.elim
        · exact h.elim
      · exact h.elim
    · exact restC_sound h
  · exact restC_sound h

theorem bodyC_sound {K : RS → Prop} (h : bodyC P s o K) : ∃ s', bodyX P s o = some s' ∧ K s' := by
  unfold bodyC at h
  split at h
  · rename_i t x y hp'
    have hs := pickO_cond hp'
    rcases h.elim with ⟨rfl, hK⟩ | ⟨rfl, hK⟩
    · rw [hs] at hK; exact ⟨_, pickO_body hp', hK⟩
    · rw [hs] at hK; exact ⟨_, pickO_body hp', hK⟩
  · split at h
    · rename_i hq
      obtain ⟨x, hx, hK⟩ := valC_sound h
      refine ⟨_, ?_, hK⟩
      have hxa : xa P s o = none := by
        unfold xa
        split <;> try rfl
        rename_i c ho; rw [ho] at hq; cases hq
      have hxh : xh P noCall s o = none := by
        unfold xh
        split <;> first | rfl | (rename_i ho; rw [ho] at hq; cases hq)
      simp only [bodyX, hxa, hxh, hx]
    · split at h
      · rename_i c ho
        split at h
        · rename_i hc; exact copyC_sound ho hc h
        · exact appendC_sound ho h
      · exact restC_sound h

theorem opC_sound {K : RS → Ev.β → Prop} {R : RS → Ev.β → Prop} {l : List Oper} (hX : X.Ok) (h : opC P X ops o s b K) (hK : ∀ s' b', K s' b' → wOps Ev ops l s' b' R) : wOps Ev ops (o :: l) s b R := by
  unfold opC at h
  rcases guardC_sound h with ⟨hw, h⟩ | ⟨hw, h⟩
  · split at h
    · rename_i k args hc
      split at h
      · rename_i f hf
        obtain ⟨hcl, h⟩ := h.elim'
        obtain ⟨x, hp, h⟩ := hX.call k f hf args _ h
        exact .inr (.inl ⟨hw, k, args, hc, .inl ⟨hcl, x, hp, hK _ _ h⟩⟩)
      · split at h
        · rename_i f hf
          obtain ⟨x, hp', hp, h⟩ := hX.scall k f hf args _ _ h
          exact .inr (.inl ⟨hw, k, args, hc, .inr ⟨x, hp', hp, hK _ _ h⟩⟩)
        · exact h.elim
    · split at h
      · rename_i args hy
        obtain ⟨hcl, h⟩ := h.elim'
        rw [hX.y] at h
        exact .inr (.inr ⟨hw, args, hy, hcl, Ev.Ymono h fun _ _ h => hK _ _ h⟩)
      · obtain ⟨s', hs, h⟩ := bodyC_sound h
        exact .inl ⟨s', by rw [xStep_body hw]; exact hs, hK _ _ h⟩
  · exact .inl ⟨_, by simp only [xStep, hw], hK _ _ h⟩

theorem opsC_sound (hX : X.Ok) {R : RS → Ev.β → Prop} : ∀ {l : List Oper} {s : RS} {b : Ev.β} {K : RS → Ev.β → Prop}, opsC P X ops l s b K → (∀ s' b', K s' b' → R s' b') → wOps Ev ops l s b R
  | [], s, b, K, h, hK => hK _ _ h
  | o :: l, s, b, K, h, hK => opC_sound hX h fun s' b' h => opsC_sound hX h hK

/-! ### the pure operations of a region that draws its order -/
open Classical in
noncomputable def tblD (tb : Tbl) : CallT :=
  ⟨fun d k args => match tb.find? (fun t => t.1 == d) with
    | some t => if t.2.1 = k ∧ t.2.2.1 = args then some t.2.2.2 else none
    | none => none, fun _ _ _ => none⟩

theorem tblD_ok {tb : Tbl} (h : ∀ t ∈ tb, PCall P t.2.1 t.2.2.1 t.2.2.2) : CallOk P (tblD tb) := by
  refine ⟨fun d f args r hr => ?_, fun _ _ _ _ _ h => by cases h⟩
  simp only [tblD] at hr
  split at hr <;> try (cases hr; done)
  rename_i t ht
  split at hr <;> try (cases hr; done)
  rename_i hc
  cases hr
  have := h t (List.mem_of_find?_eq_some ht)
  rw [hc.1, hc.2] at this; exact this

theorem xp_other {call : CallT} {x : AV} (hw : wantedA ops o tm = some true) (hx : xq P hp (evalA tm) o = some x) : xp P call ops hp tm o = some x := by
  unfold xp
  rw [hw]
  simp only
  split
  · rename_i c ho
    split
    · rename_i f hc
      simp [xq, ho, hc] at hx
    · exact hx
  · exact hx

theorem find_of_nodup : ∀ {T : Tbl}, (T.map (·.1)).Nodup → ∀ t ∈ T, T.find? (fun e => e.1 == t.1) = some t
  | [], _, t, h => by cases h
  | e :: T, hn, t, h => by
    simp only [List.map_cons, List.nodup_cons] at hn
    rcases List.mem_cons.1 h with rfl | h
    · simp
    · have hne : ¬ e.1 = t.1 := fun he => hn.1 (he ▸ List.mem_map.2 ⟨t, h, rfl⟩)
      rw [List.find?_cons_of_neg (by simpa using hne)]
      exact find_of_nodup hn.2 t h

theorem preC_sound (hX : X.Ok) : ∀ {l : List Oper} {tm : List AV} {tb : Tbl} {K : List AV → Tbl → Prop}, preC P X ops hp l tm tb K →
    ∃ tmK tb', K tmK tb' ∧ (∀ t ∈ tb, t ∈ tb') ∧ ((∀ t ∈ tb, PCall P t.2.1 t.2.2.1 t.2.2.2) → ∀ t ∈ tb', PCall P t.2.1 t.2.2.1 t.2.2.2) ∧ ∀ T : Tbl, (∀ t ∈ tb', T.find? (fun e => e.1 == t.1) = some t) → xPre P (tblD T) ops hp l tm = some tmK
  | [], tm, tb, K, h => ⟨tm, tb, h, fun _ h => h, fun h => h, fun _ _ => rfl⟩
  | o :: l, tm, tb, K, h => by
    simp only [preC] at h
    rcases guardC_sound h with ⟨hw, h⟩ | ⟨hw, h⟩
    · split at h
      · rename_i k args hc
        split at h
        · rename_i f hf
          obtain ⟨hcl, h⟩ := h.elim'
          obtain ⟨x, hpc, h⟩ := hX.call k f hf args _ h
          obtain ⟨tmK, tb', h1, h2, h3, h4⟩ := preC_sound hX h
          refine ⟨tmK, tb', h1, fun t ht => h2 t (List.mem_cons_of_mem _ ht), fun hall => h3 fun t ht => ?_, fun T hT => ?_⟩
          · rcases List.mem_cons.1 ht with rfl | ht
            · exact hpc
            · exact hall t ht
          · have hf' := hT _ (h2 _ (List.mem_cons_self ..))
            have hxp : xp P (tblD T) ops hp tm o = some x.view := by
              unfold opCall at hc
              split at hc <;> try (cases hc; done)
              rename_i c ho
              split at hc <;> try (cases hc; done)
              rename_i f hcc
              unfold xp
              simp only [hw, ho, hcc, hc, hcl, if_true]
              simp only at hf'
              simp [tblD, hf']
            simp only [xPre, hxp]; exact h4 T hT
        · exact h.elim
      · split at h
        · rename_i t x y hpick
          have hxq : xq P hp (evalA tm) o = some (if t then x else y) := by
            unfold pickO at hpick
            split at hpick <;> try (cases hpick; done)
            rename_i c a b ho
            split at hpick <;> try (cases hpick; done)
            rename_i t'' hc
            cases hpick
            simp [xq, ho, hc]
          have hs := pickO_cond hpick
          rcases h.elim with ⟨rfl, h⟩ | ⟨rfl, h⟩ <;> rw [hs] at h
          · obtain ⟨tmK, tb', h1, h2, h3, h4⟩ := preC_sound hX h
            exact ⟨tmK, tb', h1, h2, h3, fun T hT => by simp only [xPre, xp_other hw hxq]; exact h4 T hT⟩
          · obtain ⟨tmK, tb', h1, h2, h3, h4⟩ := preC_sound hX h
            exact ⟨tmK, tb', h1, h2, h3, fun T hT => by simp only [xPre, xp_other hw hxq]; exact h4 T hT⟩
        · obtain ⟨x, hxq, h⟩ := valC_sound h
          obtain ⟨tmK, tb', h1, h2, h3, h4⟩ := preC_sound hX h
          exact ⟨tmK, tb', h1, h2, h3, fun T hT => by simp only [xPre, xp_other hw hxq]; exact h4 T hT⟩
    · obtain ⟨tmK, tb', h1, h2, h3, h4⟩ := preC_sound hX h
      refine ⟨tmK, tb', h1, h2, h3, fun T hT => ?_⟩
      have : xp P (tblD T) ops hp tm o = some (.d (.s undef)) := by unfold xp; rw [hw]
      simp only [xPre, this]; exact h4 T hT

/-! ### what stores leave alone -/
def hdr (blk : Blk) : Bool × Nat × Nat := (blk.grow, blk.ver, blk.cells.length)

/-- blocks before and behind stores -/
structure Sim (fp : List (Nat × Nat × Nat)) (h h' : List Blk) : Prop where
  hd : h'.map hdr = h.map hdr
  same : ∀ (g : Nat) (blk blk' : Blk) (i : Nat), h[g]? = some blk → h'[g]? = some blk' → apartB fp g i 1 = true → blk'.cells[i]? = blk.cells[i]?

theorem Sim.refl (fp : List (Nat × Nat × Nat)) (h : List Blk) : Sim fp h h := ⟨rfl, fun g blk blk' i h1 h2 _ => by rw [h1] at h2; cases h2; rfl⟩

theorem Sim.at {fp : List (Nat × Nat × Nat)} {h h' : List Blk} (hs : Sim fp h h') (g : Nat) : (h'[g]?).map hdr = (h[g]?).map hdr := by
  have := congrArg (fun l => l[g]?) hs.hd
  simpa using this

theorem apartB_tail {fp : List (Nat × Nat × Nat)} {q : Nat × Nat × Nat} {g i n : Nat} (h : apartB (q :: fp) g i n = true) : apartB fp g i n = true := by
  simp only [apartB, List.all_cons, Bool.and_eq_true] at h
  exact h.2

theorem Sim.weaken {fp : List (Nat × Nat × Nat)} {q : Nat × Nat × Nat} {h h' : List Blk} (hs : Sim fp h h') : Sim (q :: fp) h h' := ⟨hs.hd, fun g blk blk' i h1 h2 h3 => hs.same g blk blk' i h1 h2 (apartB_tail h3)⟩

theorem xLates_sim {l : List Oper} : ∀ {h0 h : List Blk} {hps : List (List Blk)}, xLates P tm l h = some hps → ∀ fp0, Sim fp0 h0 h → ∀ h' ∈ hps, Sim (fp0 ++ storeFps tm l) h0 h' := by
  induction l with
  | nil =>
    intro h0 h hps hx fp0 hs h' hh
    simp only [xLates, Option.some.injEq] at hx
    subst hx
    rw [List.mem_singleton.1 hh]
    simpa [storeFps] using hs
  | cons o l ih =>
    intro h0 h hps hx fp0 hs h' hh
    simp only [xLates] at hx
    split at hx <;> try (cases hx; done)
    rename_i h1 hl
    simp only [Option.map_eq_some_iff] at hx
    obtain ⟨hps', hx, rfl⟩ := hx
    -- the store
    unfold xLate at hl
    split at hl <;> try (cases hl; done)
    rename_i t a x ho hg hd
    split at hl <;> try (cases hl; done)
    rename_i hown
    split at hl <;> try (cases hl; done)
    rename_i xs hxs
    unfold xStore at hl
    split at hl <;> try (cases hl; done)
    rename_i i g off hi ha
    split at hl <;> try (cases hl; done)
    rename_i blk hblk
    split at hl <;> try (cases hl; done)
    rename_i hc
    cases hl
    have e : storeFps tm (o :: l) = (g, off, xs.length) :: storeFps tm l := by simp only [storeFps, ho, ha, hxs]
    rw [e]
    have hgl : g < h.length := (List.getElem?_eq_some_iff.1 hblk).1
    have hs1 : Sim (fp0 ++ [(g, off, xs.length)]) h0 (h.set g { blk with cells := blk.cells.take off ++ xs ++ blk.cells.drop (off + xs.length) }) := by
      refine ⟨?_, fun g' b0 b1 j e1 e2 e3 => ?_⟩
      · rw [← hs.hd, List.map_set]
        refine (list_set_self ?_)
        have hlen : (blk.cells.take off ++ xs ++ blk.cells.drop (off + xs.length)).length = blk.cells.length := by
          simp only [List.length_append, List.length_take, List.length_drop]; have := hc.2.2.2; omega
        simp only [List.getElem?_map, hblk, Option.map_some, hdr, hlen]
      · simp only [apartB, List.all_append, Bool.and_eq_true] at e3
        obtain ⟨e3, e4⟩ := e3
        by_cases hgg : g' = g
        · subst hgg
          rw [List.getElem?_set_self hgl] at e2
          cases e2
          simp only [List.all_cons, List.all_nil, Bool.and_true, bne_self_eq_false, Bool.false_or, Bool.or_eq_true, decide_eq_true_eq] at e4
          rw [← hs.same g' b0 blk j e1 hblk e3]
          simp only
          rcases e4 with e4 | e4
          · rw [List.getElem?_append_right (by simp; omega), List.getElem?_drop]
            congr 1
            simp only [List.length_append, List.length_take]; have := hc.2.2.2; omega
          · rw [List.append_assoc, List.getElem?_append_left (by simp; have := hc.2.2.2; omega), List.getElem?_take, if_pos (by omega)]
        · rw [List.getElem?_set_ne (Ne.symm hgg)] at e2
          exact hs.same g' b0 b1 j e1 e2 e3
    rcases List.mem_cons.1 hh with rfl | hh
    · have : ∀ fp1, Sim (fp0 ++ fp1) h0 h' := by
        intro fp1
        exact ⟨hs.hd, fun g blk blk' i h1 h2 h3 => hs.same g blk blk' i h1 h2 (by simp only [apartB, List.all_append, Bool.and_eq_true] at h3; exact h3.1)⟩
      exact this _
    · have := ih hx _ hs1 h' hh
      simpa using this

end
end Go.Proofs.Ytgdeoaiakdkhcaa.Am
