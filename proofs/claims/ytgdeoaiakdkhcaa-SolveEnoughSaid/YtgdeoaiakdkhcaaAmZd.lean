/- What must be shown of code: it suffices: regions, code, functions. -/
import Derived.Test.YtgdeoaiakdkhcaaAmZc
import Derived.Scope
namespace Go.Proofs.Ytgdeoaiakdkhcaa.Am
set_option linter.unusedVariables false
set_option linter.unusedSimpArgs false
open Go Go.RowKit

section
variable {P : Program} {hp hp' h h' : List Blk} {tm tm' : List AV} {o : Oper} {ops : Array Oper} {fp : List (Nat × Nat × Nat)}

theorem Sim.cases (hs : Sim fp h h') (g : Nat) : (h[g]? = none ∧ h'[g]? = none) ∨ ∃ b b', h[g]? = some b ∧ h'[g]? = some b' ∧ b'.grow = b.grow ∧ b'.ver = b.ver ∧ b'.cells.length = b.cells.length := by
  have := hs.at g
  cases h1 : h[g]? with
  | none =>
    rw [h1] at this
    simp only [Option.map_none, Option.map_eq_none_iff] at this
    exact .inl ⟨rfl, this⟩
  | some b =>
    rw [h1] at this
    simp only [Option.map_some, Option.map_eq_some_iff] at this
    obtain ⟨b', h2, h3⟩ := this
    simp only [hdr, Prod.mk.injEq] at h3
    exact .inr ⟨b, b', rfl, h2, h3⟩

theorem shiftPtr_sim (hs : Sim fp h h') (a : AV) (n : Nat) : shiftPtr h' a n = shiftPtr h a n := by
  cases a <;> simp only [shiftPtr]
  · rename_i g off
    rcases hs.cases g with ⟨h1, h2⟩ | ⟨b, b', h1, h2, h3, h4, h5⟩
    · simp only [h1, h2]
    · simp only [h1, h2, h3]
  · rename_i g v off
    rcases hs.cases g with ⟨h1, h2⟩ | ⟨b, b', h1, h2, h3, h4, h5⟩
    · simp only [h1, h2]
    · simp only [h1, h2, h3, h4]

theorem fieldAddr_sim (hs : Sim fp h h') (t : TypeId) (a : AV) (f : Nat) : xFieldAddr P h' t a f = xFieldAddr P h t a f := by
  unfold xFieldAddr
  simp only [shiftPtr_sim hs]

theorem indexAddr_sim (hs : Sim fp h h') (t : TypeId) (a ix : AV) : xIndexAddr P h' t a ix = xIndexAddr P h t a ix := by
  unfold xIndexAddr
  simp only [shiftPtr_sim hs]
  split <;> try rfl
  split <;> try rfl
  cases a <;> try rfl
  rename_i g v l k
  simp only
  rcases hs.cases g with ⟨h1, h2⟩ | ⟨b, b', h1, h2, h3, h4, h5⟩
  · simp only [h1, h2]
  · simp only [h1, h2, h3, h4]

theorem len_sim (hs : Sim fp h h') (a : AV) : a.len? h' = a.len? h := by
  cases a
  case gref g v l k =>
    simp only [AV.len?]
    rcases hs.cases g with ⟨h1, h2⟩ | ⟨b, b', h1, h2, h3, h4, h5⟩
    · simp only [h1, h2]
    · simp only [h1, h2, h3, h4]
  all_goals first | rfl | (rename_i x; cases x <;> rfl)

theorem slice_sim (hs : Sim fp h h') (t : TypeId) (x : AV) (lo hi mx : Option AV) : xSlice P h' t x lo hi mx = xSlice P h t x lo hi mx := by
  unfold xSlice
  split <;> try rfl
  split <;> try rfl
  cases x <;> try rfl
  rename_i g off
  simp only
  rcases hs.cases g with ⟨h1, h2⟩ | ⟨b, b', h1, h2, h3, h4, h5⟩
  · simp only [h1, h2]
  · simp only [h1, h2, h3, h5]

theorem load_sim (hs : Sim fp h h') (t : TypeId) (a : AV) (hf : ∀ g off, a = .ptr g off → ∀ i, P.info? t = some i → apartB fp g off (max i.size 1) = true) (hg : ∀ g v off, a ≠ .gptr g v off) : xLoad P h' t a = xLoad P h t a := by
  unfold xLoad
  cases a <;> try rfl
  · rename_i g off
    simp only [cellsAt]
    rcases hs.cases g with ⟨h1, h2⟩ | ⟨b, b', h1, h2, h3, h4, h5⟩
    · simp only [h1, h2]
    · simp only [h1, h2, h3]
      cases hgr : b.grow
      · simp only [Bool.false_eq_true, if_false]
        unfold takeCs
        cases hi : P.info? t with
        | none => rfl
        | some i =>
          simp only
          have ha := hf g off rfl i hi
          have hcell : ∀ j, j < max i.size 1 → (b'.cells.drop off)[j]? = (b.cells.drop off)[j]? := by
            intro j hj
            simp only [List.getElem?_drop]
            refine hs.same g b b' (off + j) h1 h2 ?_
            simp only [apartB, List.all_eq_true, Bool.or_eq_true, bne_iff_ne, decide_eq_true_eq] at ha ⊢
            intro q hq
            rcases ha q hq with (h6 | h6) | h6
            · exact .inl (.inl h6)
            · exact .inl (.inr (by omega))
            · exact .inr (by omega)
          have hlen : (b'.cells.drop off).length = (b.cells.drop off).length := by simp [h5]
          have htake : (b'.cells.drop off).take i.size = (b.cells.drop off).take i.size := by
            apply List.ext_getElem?
            intro j
            simp only [List.getElem?_take]
            split
            · exact hcell j (by omega)
            · rfl
          rw [hlen, htake, hcell 0 (by omega)]
      · simp only [if_true]
  · exact absurd rfl (hg _ _ _)

theorem xq_sim (hs : Sim fp h h') (hf : frameB P tm fp o = true) (hk : pureKind o = true) : xq P h' (evalA tm) o = xq P h (evalA tm) o := by
  unfold frameB at hf
  unfold xq
  split <;> try rfl
  · rename_i t a ho
    simp only [ho] at hf
    refine load_sim hs t _ (fun g off he i hi => ?_) (fun g v off he => ?_)
    · rw [he] at hf; simp only [hi] at hf; exact hf
    · rw [he] at hf; cases hf
  · simp only [slice_sim hs]
  · simp only [fieldAddr_sim hs]
  · simp only [indexAddr_sim hs]
  · rename_i c ho
    split <;> try rfl
    simp only [xLen, len_sim hs]

theorem xp_sim {call : CallT} (hs : Sim fp h h') (hf : frameB P tm fp o = true) (hk : pureKind o = true) : xp P call ops h' tm o = xp P call ops h tm o := by
  unfold xp
  simp only [xq_sim hs hf hk]

theorem findN_spec {k : Nat} : ∀ {m n : Nat}, findN ops k m = some n → drawLateOk ops k n = true
  | 0, n, h => by simp [findN] at h
  | m + 1, n, h => by
    simp only [findN] at h
    split at h
    · rename_i h1; cases h; exact h1
    · exact findN_spec h

theorem leadPure_spec : ∀ {l : List Oper} (j : Nat) (o : Oper), (l.take (leadPure l))[j]? = some o → pureKind o = true
  | [], j, o, h => by simp at h
  | x :: l, j, o, h => by
    simp only [leadPure] at h
    split at h
    · rename_i hx
      cases j with
      | zero => simp at h; subst h; exact hx
      | succ j => simp at h; exact leadPure_spec j o h
    · simp at h
end

section
variable {P : Program} {hp hp' : List Blk} {tm tm' : List AV} {ops : Array Oper} {Ev : Env P} {X : CX Ev.β} {b : Ev.β}

theorem regionC_sound {id : Nat} {d : Bool} (hm : P.follows .mixedOrders = true) (hX : X.Ok) {K : List AV → List Blk → Ev.β → Prop} {Q : Exit → St Ev.β → Prop} (h : regionC P X ops d tm hp b K) (hq : ∀ tm' hp' b', K tm' hp' b' → Q .normal ⟨tm', hp', b'⟩) :
    W Ev (.region id ops d) ⟨tm, hp, b⟩ Q := by
  unfold regionC at h
  cases d with
  | false =>
    simp only [Bool.false_eq_true, if_false] at h
    exact W.region (s := ⟨tm, hp, b⟩) (opsC_sound hX h fun s' b' h => hq _ _ _ h)
  | true =>
    simp only [if_true] at h
    split at h
    · rename_i k hk
      split at h
      · rename_i hks
        obtain ⟨tmK, tb, h1, h2, h3, h4⟩ := preC_sound hX h
        split at h1
        · rename_i hnd
          exact W.draw (s := ⟨tm, hp, b⟩) k (tblD tb) hm (tblD_ok (h3 (by simp))) (findK_spec hk) hks (h4 tb (find_of_nodup hnd)) (opsC_sound hX h1 fun s' b' h => hq _ _ _ h)
        · exact h1.elim
      · exact h.elim
    · split at h
      · rename_i n hn
        split at h
        · rename_i hks
          obtain ⟨tmK, tb, h1, h2, h3, h4⟩ := preC_sound hX h
          split at h1
          · rename_i hnd
            split at h1
            · rename_i hps hlates
              split at h1
              · rename_i hpn hlast
                obtain ⟨hfr, h1⟩ := h1.elim'
                refine W.late (s := ⟨tm, hp, b⟩) (leadPure ops.toList) n (tblD tb) hm (tblD_ok (h3 (by simp))) (findN_spec hn) hks hlates (h4 tb (find_of_nodup hnd)) (fun h' hh o ho => ?_) hlast (opsC_sound hX h1 fun s' b' h => hq _ _ _ h)
                have hsim := xLates_sim hlates [] (Sim.refl _ _) h' hh
                simp only [List.nil_append] at hsim
                obtain ⟨j, hj⟩ := List.mem_iff_getElem?.1 ho
                exact xp_sim hsim (List.all_eq_true.1 hfr o ho) (leadPure_spec j o hj)
              · exact h1.elim
            · exact h1.elim
          · exact h1.elim
        · exact h.elim
      · exact h.elim

theorem stepR_scope {c : Code} {fr : Frame} {a : Act} {k : List Item} {cs : List Frame} {w : World} : step P (lone (fr.atR a (.code (.scope c) :: k)) cs w) = .next (lone (fr.atR a (.code c :: .inScope c :: k)) cs w) :=
  step_lone_go (by simp [stepG, stepG.exec, Frame.atR])
theorem stepR_inScope {c : Code} {fr : Frame} {a : Act} {k : List Item} {cs : List Frame} {w : World} : step P (lone (fr.atR a (.inScope c :: k)) cs w) = .next (lone (fr.atR a k) cs w) :=
  step_lone_go (by simp [stepG, stepG.exec, Frame.atR])

def noGoto {α : Type} (Q : Exit → α → Prop) : Exit → α → Prop
  | .goto _, _ => False
  | e, s => Q e s

theorem wpIn_scope {F : Fence} {n : Nat} {c : Code} {Q : Exit → Act → World → Prop} {a : Act} {w : World} (h : c.wpIn F n P (Exit.noGoto Q) a w) : (Code.scope c).wpIn F n P Q a w := by
  intro b k cs hro hb hr
  have h0 : (lone (b.atR a (.code (.scope c) :: k)) cs w).fenced P F := fenced_calm hb hr rfl
  obtain ⟨e, a₁, w₁, hq, harr⟩ := h b (.inScope c :: k) cs hro hb hr
  cases e with
  | normal => exact ⟨.normal, a₁, w₁, hq, .head h0 stepR_scope (StepsIn.trans harr (.one (fenced_calm hb hr rfl) stepR_inScope))⟩
  | exit id =>
    have hx : exitTo id (.inScope c :: k) = exitTo id k := by simp [exitTo]
    exact ⟨.exit id, a₁, w₁, hq, fun k' hk => .head h0 stepR_scope (harr.1 k' (by rw [hx]; exact hk)),
        fun hr' hk => let ⟨k₁, h1, h2⟩ := harr.2 hr' (by rw [hx]; exact hk); ⟨k₁, h1, .head h0 stepR_scope h2⟩⟩
  | goto l => exact hq.elim
  | ret => exact ⟨_, a₁, w₁, hq, .of_steps (.one h0 stepR_scope) harr⟩
  | panic ch => exact ⟨_, a₁, w₁, hq, .of_steps (.one h0 stepR_scope) harr⟩
  | outgrown => exact ⟨_, a₁, w₁, hq, .of_steps (.one h0 stepR_scope) harr⟩

theorem W.scope {c : Code} {s : St Ev.β} {Q : Exit → St Ev.β → Prop} (h : W Ev c s (noGoto Q)) : W Ev (.scope c) s Q := by
  intro lo r S X V w m B hv a ht
  refine wpIn_scope (wpIn_mono (h lo r S X V w m B hv a ht) fun e a' w' ⟨s', S', X', V', m', hv', h1, h2, h3⟩ => ?_)
  cases e with
  | goto l => exact h1.elim
  | normal => exact ⟨s', S', X', V', m', hv', h1, h2, h3⟩
  | exit id => exact ⟨s', S', X', V', m', hv', h1, h2, h3⟩
  | ret => exact ⟨s', S', X', V', m', hv', h1, h2, h3⟩
  | panic ch => exact ⟨s', S', X', V', m', hv', h1, h2, h3⟩
  | outgrown => exact ⟨s', S', X', V', m', hv', h1, h2, h3⟩

/-- rounds of a loop, one behind the other -/
def WR (Ev : Env P) (c : Code) : Nat → St Ev.β → (Exit → St Ev.β → Prop) → Prop
  | 0, _, _ => False
  | m + 1, s, Q => W Ev c s (thenW (fun s' => WR Ev c m s' Q) Q)

theorem W.rounds {c : Code} {Q : Exit → St Ev.β → Prop} {m : Nat} {s : St Ev.β} (h : WR Ev c m s Q) : W Ev (.loop c) s Q := by
  intro lo r S X V w m0 B hv a ht
  have key : ∀ (n : Nat) (s : St Ev.β) (S0 X0 V0 : Pr) (w0 : World) (m1 : List MB) (hv : List (List Value)) (a : Act), WR Ev c n s Q → (Went Ev.L S X V w S0 X0 V0 w0 ∧ MStep m0 m1) → Tie Ev lo r S0 X0 V0 w0 m1 B hv s.rs s.b a →
      Code.roundsIn (Fn r) 0 P c (Beh Ev lo r S X V w m0 B Q) n a w0 := by
    intro n
    induction n with
    | zero => intro s S0 X0 V0 w0 m1 hv a h; exact h.elim
    | succ n ih =>
      intro s S0 X0 V0 w0 m1 hv a h hm ht
      rw [roundsIn_succ]
      refine wpIn_mono (h lo r S0 X0 V0 w0 m1 B hv a ht) fun e a' w' ⟨s', S', X', V', m', hv', h1, h2, h3⟩ => ?_
      cases e with
      | normal => exact ih s' S' X' V' w' m' hv' a' h1 ⟨hm.1.trans h2.1, hm.2.trans h2.2⟩ h3
      | exit id => exact Beh.from hm ⟨s', S', X', V', m', hv', h1, h2, h3⟩
      | goto l => exact Beh.from hm ⟨s', S', X', V', m', hv', h1, h2, h3⟩
      | ret => exact Beh.from hm ⟨s', S', X', V', m', hv', h1, h2, h3⟩
      | panic ch => exact Beh.from hm ⟨s', S', X', V', m', hv', h1, h2, h3⟩
      | outgrown => exact Beh.from hm ⟨s', S', X', V', m', hv', h1, h2, h3⟩
  exact wpIn_loop_rounds m (key m s S X V w m0 hv a h ⟨Went.refl ht.rel.slt, MStep.refl m0⟩ ht)

theorem rounds_sound {c : Code} {n : Nat} (ih : ∀ {tm : List AV} {hp : List Blk} {b : Ev.β} {K : Exit → List AV → List Blk → Ev.β → Prop} {Q : Exit → St Ev.β → Prop}, wpc P X n c tm hp b K → (∀ e tm hp b, K e tm hp b → Q e ⟨tm, hp, b⟩) → W Ev c ⟨tm, hp, b⟩ Q) :
    ∀ {m : Nat} {tm : List AV} {hp : List Blk} {b : Ev.β} {K : Exit → List AV → List Blk → Ev.β → Prop} {Q : Exit → St Ev.β → Prop}, rounds (wpc P X n c) m tm hp b K → (∀ e tm hp b, K e tm hp b → Q e ⟨tm, hp, b⟩) → WR Ev c m ⟨tm, hp, b⟩ Q
  | 0, tm, hp, b, K, Q, h, hq => h.elim
  | m + 1, tm, hp, b, K, Q, h, hq => by
    simp only [rounds] at h
    refine ih h fun e tm' hp' b' hK => ?_
    cases e with
    | normal => exact rounds_sound ih (m := m) hK hq
    | exit id => exact hq _ _ _ _ hK
    | goto l => exact hq _ _ _ _ hK
    | ret => exact hq _ _ _ _ hK
    | panic ch => exact hq _ _ _ _ hK
    | outgrown => exact hq _ _ _ _ hK

/-- **what must be shown of code suffices** -/
theorem wpc_sound (hm : P.follows .mixedOrders = true) (hX : X.Ok) : ∀ {n : Nat} {c : Code} {tm : List AV} {hp : List Blk} {b : Ev.β} {K : Exit → List AV → List Blk → Ev.β → Prop} {Q : Exit → St Ev.β → Prop},
    wpc P X n c tm hp b K → (∀ e tm hp b, K e tm hp b → Q e ⟨tm, hp, b⟩) → W Ev c ⟨tm, hp, b⟩ Q
  | 0, c, tm, hp, b, K, Q, h, hq => h.elim
  | n + 1, c, tm, hp, b, K, Q, h, hq => by
    cases c with
    | skip => exact W.skip (hq _ _ _ _ h)
    | label l => exact W.label (hq _ _ _ _ h)
    | exit id => exact W.exit (hq _ _ _ _ h)
    | goto l => exact W.goto (hq _ _ _ _ h)
    | ret => exact W.ret (hq _ _ _ _ h)
    | region id ops d => exact regionC_sound hm hX h fun _ _ _ h => hq _ _ _ _ h
    | seq x y =>
      simp only [wpc] at h
      refine W.seq (wpc_sound hm hX h fun e tm' hp' b' hK => ?_)
      cases e with
      | normal => exact wpc_sound hm hX hK hq
      | exit id => exact hq _ _ _ _ hK
      | goto l => exact hq _ _ _ _ hK
      | ret => exact hq _ _ _ _ hK
      | panic ch => exact hq _ _ _ _ hK
      | outgrown => exact hq _ _ _ _ hK
    | cond x c c' =>
      simp only [wpc] at h
      split at h
      · rename_i t hx
        have hs := setB_self hx
        rcases h.elim with ⟨rfl, h⟩ | ⟨rfl, h⟩ <;> rw [hs] at h
        · exact W.cond (t := true) hx (wpc_sound hm hX h hq)
        · exact W.cond (t := false) hx (wpc_sound hm hX h hq)
      · exact h.elim
    | block id c =>
      simp only [wpc] at h
      refine W.block (wpc_sound hm hX h fun e tm' hp' b' hK => ?_)
      cases e with
      | exit id' =>
        simp only [blockK] at hK
        simp only [catchExit]
        split at hK
        · rename_i he; rw [if_pos he]; exact hq _ _ _ _ hK
        · rename_i he; rw [if_neg he]; exact hq _ _ _ _ hK
      | normal => exact hq _ _ _ _ hK
      | goto l => exact hq _ _ _ _ hK
      | ret => exact hq _ _ _ _ hK
      | panic ch => exact hq _ _ _ _ hK
      | outgrown => exact hq _ _ _ _ hK
    | loop c =>
      simp only [wpc] at h
      split at h
      · exact W.rounds (rounds_sound (fun h hq => wpc_sound hm hX h hq) h hq)
      · exact W.mono (hX.wl _ _ _ _ _ h) fun e s h => hq _ _ _ _ h
    | rangeFunc f ps assign body => exact W.mono (hX.wl _ _ _ _ _ h) fun e s h => hq _ _ _ _ h
    | scope body =>
      simp only [wpc] at h
      refine W.scope (wpc_sound hm hX h fun e tm' hp' b' hK => ?_)
      cases e with
      | goto l => exact hK.elim
      | normal => exact hq _ _ _ _ hK
      | exit id => exact hq _ _ _ _ hK
      | ret => exact hq _ _ _ _ hK
      | panic ch => exact hq _ _ _ _ hK
      | outgrown => exact hq _ _ _ _ hK
    | refuse why => exact h.elim

theorem fnK_sound {fn : Func} {R : AV → Ev.β → Prop} {e : Exit} {tm : List AV} {hp : List Blk} {b : Ev.β} (h : fnK P fn R e tm hp b) : FnPost P fn (fun y hp b => ∃ z, sealV hp y = some z ∧ R z b) e ⟨tm, hp, b⟩ := by
  unfold fnK at h
  obtain ⟨he, h⟩ := h.elim'
  split at h
  · rename_i ys hys
    split at h
    · rename_i y hy
      refine ⟨?_, ys, hys, y, hy, h⟩
      cases e <;> simp at he ⊢
    · exact h.elim
  · exact h.elim

/-- loops are left to be walked by hand -/
def wlW (Ev : Env P) : Code → List AV → List Blk → Ev.β → (Exit → List AV → List Blk → Ev.β → Prop) → Prop := fun c tm hp b K => W Ev c ⟨tm, hp, b⟩ fun e s => K e s.tm s.hp s.b

def CallsOk (P : Program) (T : List (Nat × (List AV → (AV → Prop) → Prop))) : Prop := ∀ (k : Nat) f, T.lookup k = some f → ∀ args K, f args K → ∃ x, PCall P k args x ∧ K x
def SCallsOk (P : Program) (T : List (Nat × (List AV → List Blk → (AV → List Blk → Prop) → Prop))) : Prop := ∀ (k : Nat) f, T.lookup k = some f → ∀ args hp K, f args hp K → ∃ x hp', SCall P k args hp x hp' ∧ K x hp'

theorem CallsOk.nil : CallsOk P [] := fun _ _ h => by cases h
theorem SCallsOk.nil : SCallsOk P [] := fun _ _ h => by cases h
theorem CallsOk.cons {T : List (Nat × (List AV → (AV → Prop) → Prop))} {k : Nat} {f : List AV → (AV → Prop) → Prop} (h : ∀ args K, f args K → ∃ x, PCall P k args x ∧ K x) (hT : CallsOk P T) : CallsOk P ((k, f) :: T) := by
  intro k' f' hl
  rw [List.lookup_cons] at hl
  split at hl
  · rename_i he
    cases hl
    rw [eq_of_beq he]; exact h
  · exact hT k' f' hl

theorem CX.Ok.of {Ev : Env P} {T : List (Nat × (List AV → (AV → Prop) → Prop))} {S : List (Nat × (List AV → List Blk → (AV → List Blk → Prop) → Prop))} {u : Bool} (hT : CallsOk P T) (hS : SCallsOk P S) : CX.Ok Ev ⟨T, S, wlW Ev, Ev.Y, u⟩ :=
  ⟨hT, hS, fun _ _ _ _ _ h => h, rfl⟩

/-- **a function's contract** -/
theorem PCall.ofWp {f n : Nat} {fn : Func} {c : Code} {args : List AV} {x : AV} {T : List (Nat × (List AV → (AV → Prop) → Prop))} {S : List (Nat × (List AV → List Blk → (AV → List Blk → Prop) → Prop))} {u : Bool} (hm : P.follows .mixedOrders = true)
    (hT : CallsOk P T) (hS : SCallsOk P S) (hf : P.funcs[f]? = some fn) (hb : fn.body = some c) (hn : (fn.name == "runtime.NumGoroutine") = false) (hargs : args.map AV.view = args)
    (h : ∀ (Ev : Env P) (b : Ev.β), wpc P ⟨T, S, wlW Ev, Ev.Y, u⟩ n c (startTm fn args) [] b (fnK P fn fun y _ => y = x)) : PCall P f args x := by
  refine PCall.ofW hf hb hn hargs fun Ev b => wpc_sound hm (CX.Ok.of hT hS) (h Ev b) fun e tm hp b hK => ?_
  obtain ⟨h1, ys, h2, z, h3, rfl⟩ := fnK_sound hK
  exact ⟨h1, ys, h2, h3⟩

/-- **an iterator's contract** -/
theorem ICall.ofWp {f n : Nat} {fn : Func} {c : Code} {args : List AV} {Sp : SpT} {T : List (Nat × (List AV → (AV → Prop) → Prop))} {S : List (Nat × (List AV → List Blk → (AV → List Blk → Prop) → Prop))} {u : Bool} (hm : P.follows .mixedOrders = true)
    (hT : CallsOk P T) (hS : SCallsOk P S) (hf : P.funcs[f]? = some fn) (hb : fn.body = some c) (hn : (fn.name == "runtime.NumGoroutine") = false)
    (h : ∀ (Ev : Env P) (b : Ev.β) (Q : Ev.β → Prop), Sp Ev.Y b Q → wpc P ⟨T, S, wlW Ev, Ev.Y, u⟩ n c (startTm fn args) [] b (fnK P fn fun _ b => Q b)) : ICall P f args Sp := by
  refine ICall.ofW hf hb hn fun Ev b Q hQ => wpc_sound hm (CX.Ok.of hT hS) (h Ev b Q hQ) fun e tm hp b hK => ?_
  obtain ⟨h1, ys, h2, z, h3, h4⟩ := fnK_sound hK
  exact ⟨h1, ys, h2, h4⟩

end
end Go.Proofs.Ytgdeoaiakdkhcaa.Am
