import Derived.Test.YtfeemohdpmdaoaaDoorJ4
set_option linter.unusedSimpArgs false
namespace Go.Proofs.YtfeemohdpmdaoaaDoor.Am
set_option linter.unusedVariables false
open Go Go.RowKit Go.Proofs

theorem wr26 {Ev : Env Tryd.prog} {b : Ev.β} {Q : Exit → St Ev.β → Prop} (s : SprT) (hl : s.ps.length ≤ 1000000) : ∀ (ps qs : List (List Int)) (k : Nat), s.ps.drop k = ps → s.qs.drop k = qs → k ≤ s.ps.length → ps.length = qs.length →
    (allP s k ps qs = true → ∀ i : Int, Q (.exit 0) ⟨tm26 i, [blkS s], b⟩) → (allP s k ps qs = false → ∀ i : Int, Q .ret ⟨(tm26 i).set 2 (.d (bo false)), [blkS s], b⟩) →
    WR Ev lp26 (ps.length + 1) ⟨tm26 k, [blkS s], b⟩ Q
  | [], qs, k, hd, hd2, hk, hlen, h1, h2 => by
    refine WR.ofMaskT [1, 2, 3] mixed (CX.Ok.of (u := false) T26_ok SCallsOk.nil) (k := 100) ?_
    rw [r26, partsR_len]
    have := drop_nil hd
    exact BIf.f (by simp <;> omega) (h1 (by rw [allP]; intros; simp_all) _)
  | p :: ps, [], k, hd, hd2, hk, hlen, h1, h2 => by simp at hlen
  | p :: ps, q :: qs, k, hd, hd2, hk, hlen, h1, h2 => by
    refine WR.ofMaskT [1, 2, 3] mixed (CX.Ok.of (u := false) T26_ok SCallsOk.nil) (k := 100) ?_
    rw [r26, partsR_len]
    obtain ⟨hk', hr, hd'⟩ := drop_cons hd
    obtain ⟨hk2, hr2, hd2'⟩ := drop_cons hd2
    refine BIf.t (by simp <;> omega) ⟨_, _, rfl, rfl, BIf.t (by simp) ⟨bytesR p, by simp [partsR, hr], BIf.t (by simp) ⟨digR q, by simp [proofsR, hr2], _, _, _, p, q, _, rfl, rfl, BIf.of (fun g => ?_) fun g => ?_⟩⟩⟩
    · have g : provedS s k p q = false := by unfold provedS; simpa using g
      exact h2 (by rw [allP, g]; rfl) _
    · have g : provedS s k p q = true := by unfold provedS; simpa using g
      rw [allP, g, Bool.true_and] at h1 h2
      rw [wrap_succ hk' (by omega)]
      exact wr26 s hl ps qs (k + 1) hd' hd2' hk' (by simpa using hlen) h1 h2
def wl26 {β : Type} : WLT β := fun c tm hp b K => ∃ (s : SprT) (z : Bool), c = .loop lp26 ∧ maskTm [1, 3] 0 tm = tm26 0 ∧ hp = [blkS s] ∧ ((s.ps.length ≤ 1000000 ∧ s.qs.length = s.ps.length) ∧ z = allP s 0 s.ps s.qs) ∧
  BIf z (∀ i : Int, K (.exit 0) (tm26 i) [blkS s] b) (∀ i : Int, K .ret ((tm26 i).set 2 (.d (bo false))) [blkS s] b)
theorem wl26_ok {Ev : Env Tryd.prog} (c : Code) (tm : List AV) (hp : List Blk) (b : Ev.β) (K : Exit → List AV → List Blk → Ev.β → Prop) (h : wl26 c tm hp b K) : W Ev c ⟨tm, hp, b⟩ (fun e s => K e s.tm s.hp s.b) := by
  obtain ⟨s, z, rfl, htm, rfl, ⟨⟨hl, hlen⟩, hz⟩, hK⟩ := h
  refine W.cast (htm ▸ maskTm_le _ tm 0) (LeH.refl _) ?_
  exact W.rounds (wr26 (Q := fun e s => K e s.tm s.hp s.b) s hl s.ps s.qs 0 rfl rfl (Nat.zero_le _) hlen.symm (fun h => by rw [hz, h] at hK; exact hK) fun h => by rw [hz, h] at hK; exact hK)
/-- rows of a state, as they are typed -/
def RowsOk (s : SprT) : Prop := ∀ r ∈ s.rows, ∃ (m : Int) (xs : List (List Dv)), r = [i64 m, .sl 1 xs]
def rowLen : List Dv → Nat
  | [_, .sl _ xs] => xs.length
  | _ => 0
def nthR (l : List (List Dv)) (i : Nat) : List Dv := l.getD i []
theorem nthR_at {l : List (List Dv)} {i : Nat} (h : i < l.length) : l[i]? = some (nthR l i) := by simp [nthR, h]
theorem nthR_mem {l : List (List Dv)} {i : Nat} (h : i < l.length) : nthR l i ∈ l := by
  rw [nthR, List.getD_eq_getElem?_getD, List.getElem?_eq_getElem h]; exact List.getElem_mem h
def anyP (ps : List (List Int)) : Bool := (List.range ps.length).any fun i => decide (((nthL ps i).length : Int) > 1000)
def anyQ (qs : List (List Int)) : Bool := (List.range qs.length).any fun i => decide (((nthL qs i).length : Int) > 40)
def anyR (rs : List (List Dv)) : Bool := (List.range rs.length).any fun i => decide ((rowLen (nthR rs i) : Int) > 100)
theorem any_mem {ps : List (List Int)} {n : Int} (h : ((List.range ps.length).any fun i => decide (((nthL ps i).length : Int) > n)) = false) : ∀ p ∈ ps, (p.length : Int) ≤ n := by
  intro p hp
  rw [List.any_eq_false] at h
  obtain ⟨i, hi, rfl⟩ := List.mem_iff_getElem.1 hp
  have := h i (List.mem_range.2 hi)
  have e : nthL ps i = ps[i] := by simp [nthL, hi]
  rw [e] at this
  simp at this; omega
theorem wr12a {Ev : Env Tryd.prog} {b : Ev.β} {Q : Exit → St Ev.β → Prop} (s : SprT) (hb : s.ps.length ≤ 9223372036854775807) (h1 : anyP s.ps = false → ∀ i : Int, Q (.exit 0) ⟨tm12a i, [blkS s], b⟩) (h2 : anyP s.ps = true → ∀ i : Int, Q .ret ⟨(tm12a i).set 2 (.d (bo false)), [blkS s], b⟩) :
    WR Ev lp12a (s.ps.length + 1) ⟨tm12a (0 : Nat), [blkS s], b⟩ Q := by
  refine WR.scan (X := ⟨[], [], wlW Ev, Ev.Y, false⟩) (k := 100) [1, 2, 3] mixed (CX.Ok.of CallsOk.nil SCallsOk.nil) s.ps.length (fun i => decide (((nthL s.ps i).length : Int) > 1000)) (fun i => tm12a (i : Nat)) (fun i => (tm12a (i : Nat)).set 2 (.d (bo false))) [blkS s] 0 (fun i hi K k1 k2 => ?_) (fun K k1 => ?_) (fun h => h1 h _) fun h i => h2 h _
  · rw [r12a, partsR_len]
    refine BIf.t (by simp <;> omega) (BIf.t (by simp) ⟨_, by rw [Int.toNat_natCast]; exact parts_at hi, BIf.of (fun g => k1 (by rw [bytesR_len] at g; exact g)) fun g => ?_⟩)
    rw [wrap_succ hi hb]; exact k2 (by rw [bytesR_len] at g; exact g)
  · rw [r12a, partsR_len]
    exact BIf.f (by simp) k1
theorem wr12b {Ev : Env Tryd.prog} {b : Ev.β} {Q : Exit → St Ev.β → Prop} (s : SprT) (hb : s.qs.length ≤ 9223372036854775807) (h1 : anyQ s.qs = false → ∀ i : Int, Q (.exit 2) ⟨tm12b i, [blkS s], b⟩) (h2 : anyQ s.qs = true → ∀ i : Int, Q .ret ⟨(tm12b i).set 2 (.d (bo false)), [blkS s], b⟩) :
    WR Ev lp12b (s.qs.length + 1) ⟨tm12b (0 : Nat), [blkS s], b⟩ Q := by
  refine WR.scan (X := ⟨[], [], wlW Ev, Ev.Y, false⟩) (k := 100) [1, 2, 4] mixed (CX.Ok.of CallsOk.nil SCallsOk.nil) s.qs.length (fun i => decide (((nthL s.qs i).length : Int) > 40)) (fun i => tm12b (i : Nat)) (fun i => (tm12b (i : Nat)).set 2 (.d (bo false))) [blkS s] 2 (fun i hi K k1 k2 => ?_) (fun K k1 => ?_) (fun h => h1 h _) fun h i => h2 h _
  · rw [r12b, proofs_len]
    refine BIf.t (by simp <;> omega) (BIf.t (by simp) ⟨_, by rw [Int.toNat_natCast]; exact proofs_at hi, BIf.of (fun g => k1 (by rw [digR_len] at g; exact g)) fun g => ?_⟩)
    rw [wrap_succ hi hb]; exact k2 (by rw [digR_len] at g; exact g)
  · rw [r12b, proofs_len]
    exact BIf.f (by simp) k1
theorem wr12c {Ev : Env Tryd.prog} {b : Ev.β} {Q : Exit → St Ev.β → Prop} (s : SprT) (ho : RowsOk s) (hb : s.rows.length ≤ 9223372036854775807) (h1 : anyR s.rows = false → ∀ i : Int, Q (.exit 4) ⟨tm12c i, [blkS s], b⟩) (h2 : anyR s.rows = true → ∀ i : Int, Q .ret ⟨(tm12c i).set 2 (.d (bo false)), [blkS s], b⟩) :
    WR Ev lp12c (s.rows.length + 1) ⟨tm12c (0 : Nat), [blkS s], b⟩ Q := by
  refine WR.scan (X := ⟨[], [], wlW Ev, Ev.Y, false⟩) (k := 100) [1, 2, 5] mixed (CX.Ok.of CallsOk.nil SCallsOk.nil) s.rows.length (fun i => decide ((rowLen (nthR s.rows i) : Int) > 100)) (fun i => tm12c (i : Nat)) (fun i => (tm12c (i : Nat)).set 2 (.d (bo false))) [blkS s] 4 (fun i hi K k1 k2 => ?_) (fun K k1 => ?_) (fun h => h1 h _) fun h i => h2 h _
  · rw [r12c]
    obtain ⟨m, xs, he⟩ := ho _ (nthR_mem hi)
    rw [he] at k1 k2
    refine BIf.t (by simp <;> omega) (BIf.t (by simp) ⟨m, xs, by rw [Int.toNat_natCast, nthR_at hi, he], BIf.of (fun g => k1 g) fun g => ?_⟩)
    rw [wrap_succ hi hb]; exact k2 g
  · rw [r12c]
    exact BIf.f (by simp) k1
def wl12 {β : Type} : WLT β := fun c tm hp b K => match cidO c with
  | 5 => ∃ (s : SprT) (z : Bool), c = .loop lp12a ∧ maskTm [1, 3] 0 tm = tm12a 0 ∧ hp = [blkS s] ∧ (s.ps.length ≤ 9223372036854775807 ∧ z = anyP s.ps) ∧ BIf z (∀ i : Int, K .ret ((tm12a i).set 2 (.d (bo false))) [blkS s] b) (∀ i : Int, K (.exit 0) (tm12a i) [blkS s] b)
  | 10 => ∃ (s : SprT) (z : Bool), c = .loop lp12b ∧ maskTm [1, 4] 0 tm = tm12b 0 ∧ hp = [blkS s] ∧ (s.qs.length ≤ 9223372036854775807 ∧ z = anyQ s.qs) ∧ BIf z (∀ i : Int, K .ret ((tm12b i).set 2 (.d (bo false))) [blkS s] b) (∀ i : Int, K (.exit 2) (tm12b i) [blkS s] b)
  | 15 => ∃ (s : SprT) (z : Bool), c = .loop lp12c ∧ maskTm [1, 5] 0 tm = tm12c 0 ∧ hp = [blkS s] ∧ ((RowsOk s ∧ s.rows.length ≤ 9223372036854775807) ∧ z = anyR s.rows) ∧ BIf z (∀ i : Int, K .ret ((tm12c i).set 2 (.d (bo false))) [blkS s] b) (∀ i : Int, K (.exit 4) (tm12c i) [blkS s] b)
  | _ => False
theorem wl12_ok {Ev : Env Tryd.prog} (c : Code) (tm : List AV) (hp : List Blk) (b : Ev.β) (K : Exit → List AV → List Blk → Ev.β → Prop) (h : wl12 c tm hp b K) : W Ev c ⟨tm, hp, b⟩ (fun e s => K e s.tm s.hp s.b) := by
  unfold wl12 at h
  split at h
  · obtain ⟨s, z, rfl, htm, rfl, ⟨hb, hz⟩, hK⟩ := h
    refine W.cast (htm ▸ maskTm_le _ tm 0) (LeH.refl _) ?_
    exact W.rounds (wr12a (Q := fun e s => K e s.tm s.hp s.b) s hb (fun h => by rw [hz, h] at hK; exact hK) fun h => by rw [hz, h] at hK; exact hK)
  · obtain ⟨s, z, rfl, htm, rfl, ⟨hb, hz⟩, hK⟩ := h
    refine W.cast (htm ▸ maskTm_le _ tm 0) (LeH.refl _) ?_
    exact W.rounds (wr12b (Q := fun e s => K e s.tm s.hp s.b) s hb (fun h => by rw [hz, h] at hK; exact hK) fun h => by rw [hz, h] at hK; exact hK)
  · obtain ⟨s, z, rfl, htm, rfl, ⟨⟨ho, hb⟩, hz⟩, hK⟩ := h
    refine W.cast (htm ▸ maskTm_le _ tm 0) (LeH.refl _) ?_
    exact W.rounds (wr12c (Q := fun e s => K e s.tm s.hp s.b) s ho hb (fun h => by rw [hz, h] at hK; exact hK) fun h => by rw [hz, h] at hK; exact hK)
  · exact h.elim
section
variable {β : Type} (wl : WLT β) (y : YieldT β) (b : β) (R : AV → β → Prop) (K : Exit → List AV → List Blk → β → Prop)
theorem rSound_nf (s : SprT) : wpFn Tryd.prog ⟨T26, [], wl26, y, false⟩ 100 Tryd.f26 [spV s] b R = ( ∃ (a0 : Int), ∃ (n1 : Int), ∃ (r2 : Int), ∃ (t3 : Int), ∃ (z4 : Bool), [AV.agg [AV.d (i64 (NotT.v (SprT.no s))), AV.d (i64 (NotT.n (SprT.no s))), AV.d (u64 (NotT.r (SprT.no s))), AV.d (i64 (NotT.t (SprT.no s)))]] = [AV.agg [AV.d (i64 a0), AV.d (i64 n1), AV.d (u64 r2), AV.d (i64 t3)]] ∧ z4 = announcedS a0 n1 t3 ∧ BIf (!z4) (R (AV.d (bo false)) b) (∃ (n5 : Int), ∃ (z6 : Int), [AV.d (i64 (NotT.n (SprT.no s)))] = [AV.d (i64 n5)] ∧ z6 = countS n5 ∧ BIf (decide (((List.length (partsR (SprT.ps s)) : Nat) : Int) > z6)) (R (AV.d (bo false)) b) (BIf (((List.length (proofsR (SprT.qs s)) : Nat) : Int) != ((List.length (partsR (SprT.ps s)) : Nat) : Int)) (R (AV.d (bo false)) b) (∃ (ps7 : List (List Int)), ∃ (z8 : Bool), [AV.d (Dv.sl 1 (partsR (SprT.ps s)))] = [AV.d (Dv.sl 1 (partsR ps7))] ∧ (List.length ps7 ≤ 9223372036854775807 ∧ z8 = !anyOther ps7) ∧ BIf (!z8) (R (AV.d (bo false)) b) (∃ (s9 : SprT), ∃ (z10 : Bool), Code.loop lp26 = Code.loop lp26 ∧ [AV.bad, AV.ptr 0 0, AV.bad, AV.d (i64 (0 : Int)), AV.bad, AV.bad, AV.bad, AV.bad, AV.bad, AV.bad, AV.bad, AV.bad, AV.bad, AV.bad, AV.bad, AV.bad, AV.bad, AV.bad, AV.bad, AV.bad, AV.bad, AV.bad, AV.bad, AV.bad, AV.bad, AV.bad, AV.bad, AV.bad, AV.bad, AV.bad, AV.bad, AV.bad, AV.bad, AV.bad, AV.bad, AV.bad, AV.bad, AV.bad, AV.bad, AV.bad, AV.bad, AV.bad, AV.bad, AV.bad, AV.bad, AV.bad, AV.bad, AV.bad, AV.bad, AV.bad, AV.bad, AV.bad, AV.bad, AV.bad, AV.bad, AV.bad, AV.bad, AV.bad, AV.bad, AV.bad] = [AV.bad, AV.ptr 0 0, AV.bad, AV.d (i64 (0 : Int)), AV.bad, AV.bad, AV.bad, AV.bad, AV.bad, AV.bad, AV.bad, AV.bad, AV.bad, AV.bad, AV.bad, AV.bad, AV.bad, AV.bad, AV.bad, AV.bad, AV.bad, AV.bad, AV.bad, AV.bad, AV.bad, AV.bad, AV.bad, AV.bad, AV.bad, AV.bad, AV.bad, AV.bad, AV.bad, AV.bad, AV.bad, AV.bad, AV.bad, AV.bad, AV.bad, AV.bad, AV.bad, AV.bad, AV.bad, AV.bad, AV.bad, AV.bad, AV.bad, AV.bad, AV.bad, AV.bad, AV.bad, AV.bad, AV.bad, AV.bad, AV.bad, AV.bad, AV.bad, AV.bad, AV.bad, AV.bad] ∧ [Blk.mk [AV.d (i64 (NotT.v (SprT.no s))), AV.d (i64 (NotT.n (SprT.no s))), AV.d (u64 (NotT.r (SprT.no s))), AV.d (i64 (NotT.t (SprT.no s))), AV.d (Dv.sl 1 (partsR (SprT.ps s))), AV.d (Dv.sl 1 (proofsR (SprT.qs s))), AV.d (Dv.sl 2 (SprT.rows s)), AV.d (Dv.sl 1 (digR (SprT.pf s))), AV.d (i64 (SprT.i1 s)), AV.d (i64 (SprT.i2 s)), AV.d (i64 (SprT.i3 s)), AV.d (i64 (SprT.i4 s)), AV.d (i64 (SprT.i5 s))] false false 0] = [Blk.mk [AV.d (i64 (NotT.v (SprT.no s9))), AV.d (i64 (NotT.n (SprT.no s9))), AV.d (u64 (NotT.r (SprT.no s9))), AV.d (i64 (NotT.t (SprT.no s9))), AV.d (Dv.sl 1 (partsR (SprT.ps s9))), AV.d (Dv.sl 1 (proofsR (SprT.qs s9))), AV.d (Dv.sl 2 (SprT.rows s9)), AV.d (Dv.sl 1 (digR (SprT.pf s9))), AV.d (i64 (SprT.i1 s9)), AV.d (i64 (SprT.i2 s9)), AV.d (i64 (SprT.i3 s9)), AV.d (i64 (SprT.i4 s9)), AV.d (i64 (SprT.i5 s9))] false false 0] ∧ ((List.length (SprT.ps s9) ≤ 1000000 ∧ List.length (SprT.qs s9) = List.length (SprT.ps s9)) ∧ z10 = allP s9 0 (SprT.ps s9) (SprT.qs s9)) ∧ BIf z10 (∀ (i : Int), R (AV.d (bo true)) b) (∀ (i : Int), R (AV.d (bo false)) b)))))) := by kernel_rfl
theorem few_nf (s : SprT) : wpFn Tryd.prog ⟨[], [], wl12, y, false⟩ 100 Tryd.f12 [spV s] b R = ( BIf (decide (((List.length (partsR (SprT.ps s)) : Nat) : Int) > (20 : Int))) (R (AV.d (bo false)) b) (BIf (decide (((List.length (proofsR (SprT.qs s)) : Nat) : Int) > (20 : Int))) (R (AV.d (bo false)) b) (BIf (decide (((List.length (SprT.rows s) : Nat) : Int) > (40 : Int))) (R (AV.d (bo false)) b) (BIf (decide (((List.length (digR (SprT.pf s)) : Nat) : Int) > (40 : Int))) (R (AV.d (bo false)) b) (∃ (s0 : SprT), ∃ (z1 : Bool), Code.loop lp12a = Code.loop lp12a ∧ [AV.bad, AV.ptr 0 0, AV.bad, AV.d (i64 (0 : Int)), AV.bad, AV.bad, AV.bad, AV.bad, AV.bad, AV.bad, AV.bad, AV.bad, AV.bad, AV.bad, AV.bad, AV.bad, AV.bad, AV.bad, AV.bad, AV.bad, AV.bad, AV.bad, AV.bad, AV.bad, AV.bad, AV.bad, AV.bad, AV.bad, AV.bad, AV.bad, AV.bad, AV.bad, AV.bad, AV.bad, AV.bad, AV.bad, AV.bad, AV.bad, AV.bad, AV.bad, AV.bad, AV.bad, AV.bad, AV.bad, AV.bad, AV.bad, AV.bad, AV.bad, AV.bad, AV.bad, AV.bad, AV.bad, AV.bad, AV.bad, AV.bad, AV.bad, AV.bad, AV.bad, AV.bad, AV.bad, AV.bad, AV.bad, AV.bad, AV.bad, AV.bad, AV.bad, AV.bad, AV.bad, AV.bad, AV.bad, AV.bad] = [AV.bad, AV.ptr 0 0, AV.bad, AV.d (i64 (0 : Int)), AV.bad, AV.bad, AV.bad, AV.bad, AV.bad, AV.bad, AV.bad, AV.bad, AV.bad, AV.bad, AV.bad, AV.bad, AV.bad, AV.bad, AV.bad, AV.bad, AV.bad, AV.bad, AV.bad, AV.bad, AV.bad, AV.bad, AV.bad, AV.bad, AV.bad, AV.bad, AV.bad, AV.bad, AV.bad, AV.bad, AV.bad, AV.bad, AV.bad, AV.bad, AV.bad, AV.bad, AV.bad, AV.bad, AV.bad, AV.bad, AV.bad, AV.bad, AV.bad, AV.bad, AV.bad, AV.bad, AV.bad, AV.bad, AV.bad, AV.bad, AV.bad, AV.bad, AV.bad, AV.bad, AV.bad, AV.bad, AV.bad, AV.bad, AV.bad, AV.bad, AV.bad, AV.bad, AV.bad, AV.bad, AV.bad, AV.bad, AV.bad] ∧ [Blk.mk [AV.d (i64 (NotT.v (SprT.no s))), AV.d (i64 (NotT.n (SprT.no s))), AV.d (u64 (NotT.r (SprT.no s))), AV.d (i64 (NotT.t (SprT.no s))), AV.d (Dv.sl 1 (partsR (SprT.ps s))), AV.d (Dv.sl 1 (proofsR (SprT.qs s))), AV.d (Dv.sl 2 (SprT.rows s)), AV.d (Dv.sl 1 (digR (SprT.pf s))), AV.d (i64 (SprT.i1 s)), AV.d (i64 (SprT.i2 s)), AV.d (i64 (SprT.i3 s)), AV.d (i64 (SprT.i4 s)), AV.d (i64 (SprT.i5 s))] false false 0] = [Blk.mk [AV.d (i64 (NotT.v (SprT.no s0))), AV.d (i64 (NotT.n (SprT.no s0))), AV.d (u64 (NotT.r (SprT.no s0))), AV.d (i64 (NotT.t (SprT.no s0))), AV.d (Dv.sl 1 (partsR (SprT.ps s0))), AV.d (Dv.sl 1 (proofsR (SprT.qs s0))), AV.d (Dv.sl 2 (SprT.rows s0)), AV.d (Dv.sl 1 (digR (SprT.pf s0))), AV.d (i64 (SprT.i1 s0)), AV.d (i64 (SprT.i2 s0)), AV.d (i64 (SprT.i3 s0)), AV.d (i64 (SprT.i4 s0)), AV.d (i64 (SprT.i5 s0))] false false 0] ∧ (List.length (SprT.ps s0) ≤ 9223372036854775807 ∧ z1 = anyP (SprT.ps s0)) ∧ BIf z1 (∀ (i : Int), R (AV.d (bo false)) b) (∀ (i : Int), ∃ (s2 : SprT), ∃ (z3 : Bool), Code.loop lp12b = Code.loop lp12b ∧ [AV.bad, AV.ptr 0 0, AV.bad, AV.bad, AV.d (i64 (0 : Int)), AV.bad, AV.bad, AV.bad, AV.bad, AV.bad, AV.bad, AV.bad, AV.bad, AV.bad, AV.bad, AV.bad, AV.bad, AV.bad, AV.bad, AV.bad, AV.bad, AV.bad, AV.bad, AV.bad, AV.bad, AV.bad, AV.bad, AV.bad, AV.bad, AV.bad, AV.bad, AV.bad, AV.bad, AV.bad, AV.bad, AV.bad, AV.bad, AV.bad, AV.bad, AV.bad, AV.bad, AV.bad, AV.bad, AV.bad, AV.bad, AV.bad, AV.bad, AV.bad, AV.bad, AV.bad, AV.bad, AV.bad, AV.bad, AV.bad, AV.bad, AV.bad, AV.bad, AV.bad, AV.bad, AV.bad, AV.bad, AV.bad, AV.bad, AV.bad, AV.bad, AV.bad, AV.bad, AV.bad, AV.bad, AV.bad, AV.bad] = [AV.bad, AV.ptr 0 0, AV.bad, AV.bad, AV.d (i64 (0 : Int)), AV.bad, AV.bad, AV.bad, AV.bad, AV.bad, AV.bad, AV.bad, AV.bad, AV.bad, AV.bad, AV.bad, AV.bad, AV.bad, AV.bad, AV.bad, AV.bad, AV.bad, AV.bad, AV.bad, AV.bad, AV.bad, AV.bad, AV.bad, AV.bad, AV.bad, AV.bad, AV.bad, AV.bad, AV.bad, AV.bad, AV.bad, AV.bad, AV.bad, AV.bad, AV.bad, AV.bad, AV.bad, AV.bad, AV.bad, AV.bad, AV.bad, AV.bad, AV.bad, AV.bad, AV.bad, AV.bad, AV.bad, AV.bad, AV.bad, AV.bad, AV.bad, AV.bad, AV.bad, AV.bad, AV.bad, AV.bad, AV.bad, AV.bad, AV.bad, AV.bad, AV.bad, AV.bad, AV.bad, AV.bad, AV.bad, AV.bad] ∧ [Blk.mk [AV.d (i64 (NotT.v (SprT.no s0))), AV.d (i64 (NotT.n (SprT.no s0))), AV.d (u64 (NotT.r (SprT.no s0))), AV.d (i64 (NotT.t (SprT.no s0))), AV.d (Dv.sl 1 (partsR (SprT.ps s0))), AV.d (Dv.sl 1 (proofsR (SprT.qs s0))), AV.d (Dv.sl 2 (SprT.rows s0)), AV.d (Dv.sl 1 (digR (SprT.pf s0))), AV.d (i64 (SprT.i1 s0)), AV.d (i64 (SprT.i2 s0)), AV.d (i64 (SprT.i3 s0)), AV.d (i64 (SprT.i4 s0)), AV.d (i64 (SprT.i5 s0))] false false 0] = [Blk.mk [AV.d (i64 (NotT.v (SprT.no s2))), AV.d (i64 (NotT.n (SprT.no s2))), AV.d (u64 (NotT.r (SprT.no s2))), AV.d (i64 (NotT.t (SprT.no s2))), AV.d (Dv.sl 1 (partsR (SprT.ps s2))), AV.d (Dv.sl 1 (proofsR (SprT.qs s2))), AV.d (Dv.sl 2 (SprT.rows s2)), AV.d (Dv.sl 1 (digR (SprT.pf s2))), AV.d (i64 (SprT.i1 s2)), AV.d (i64 (SprT.i2 s2)), AV.d (i64 (SprT.i3 s2)), AV.d (i64 (SprT.i4 s2)), AV.d (i64 (SprT.i5 s2))] false false 0] ∧ (List.length (SprT.qs s2) ≤ 9223372036854775807 ∧ z3 = anyQ (SprT.qs s2)) ∧ BIf z3 (∀ (i : Int), R (AV.d (bo false)) b) (∀ (i : Int), ∃ (s4 : SprT), ∃ (z5 : Bool), Code.loop lp12c = Code.loop lp12c ∧ [AV.bad, AV.ptr 0 0, AV.bad, AV.bad, AV.bad, AV.d (i64 (0 : Int)), AV.bad, AV.bad, AV.bad, AV.bad, AV.bad, AV.bad, AV.bad, AV.bad, AV.bad, AV.bad, AV.bad, AV.bad, AV.bad, AV.bad, AV.bad, AV.bad, AV.bad, AV.bad, AV.bad, AV.bad, AV.bad, AV.bad, AV.bad, AV.bad, AV.bad, AV.bad, AV.bad, AV.bad, AV.bad, AV.bad, AV.bad, AV.bad, AV.bad, AV.bad, AV.bad, AV.bad, AV.bad, AV.bad, AV.bad, AV.bad, AV.bad, AV.bad, AV.bad, AV.bad, AV.bad, AV.bad, AV.bad, AV.bad, AV.bad, AV.bad, AV.bad, AV.bad, AV.bad, AV.bad, AV.bad, AV.bad, AV.bad, AV.bad, AV.bad, AV.bad, AV.bad, AV.bad, AV.bad, AV.bad, AV.bad] = [AV.bad, AV.ptr 0 0, AV.bad, AV.bad, AV.bad, AV.d (i64 (0 : Int)), AV.bad, AV.bad, AV.bad, AV.bad, AV.bad, AV.bad, AV.bad, AV.bad, AV.bad, AV.bad, AV.bad, AV.bad, AV.bad, AV.bad, AV.bad, AV.bad, AV.bad, AV.bad, AV.bad, AV.bad, AV.bad, AV.bad, AV.bad, AV.bad, AV.bad, AV.bad, AV.bad, AV.bad, AV.bad, AV.bad, AV.bad, AV.bad, AV.bad, AV.bad, AV.bad, AV.bad, AV.bad, AV.bad, AV.bad, AV.bad, AV.bad, AV.bad, AV.bad, AV.bad, AV.bad, AV.bad, AV.bad, AV.bad, AV.bad, AV.bad, AV.bad, AV.bad, AV.bad, AV.bad, AV.bad, AV.bad, AV.bad, AV.bad, AV.bad, AV.bad, AV.bad, AV.bad, AV.bad, AV.bad, AV.bad] ∧ [Blk.mk [AV.d (i64 (NotT.v (SprT.no s2))), AV.d (i64 (NotT.n (SprT.no s2))), AV.d (u64 (NotT.r (SprT.no s2))), AV.d (i64 (NotT.t (SprT.no s2))), AV.d (Dv.sl 1 (partsR (SprT.ps s2))), AV.d (Dv.sl 1 (proofsR (SprT.qs s2))), AV.d (Dv.sl 2 (SprT.rows s2)), AV.d (Dv.sl 1 (digR (SprT.pf s2))), AV.d (i64 (SprT.i1 s2)), AV.d (i64 (SprT.i2 s2)), AV.d (i64 (SprT.i3 s2)), AV.d (i64 (SprT.i4 s2)), AV.d (i64 (SprT.i5 s2))] false false 0] = [Blk.mk [AV.d (i64 (NotT.v (SprT.no s4))), AV.d (i64 (NotT.n (SprT.no s4))), AV.d (u64 (NotT.r (SprT.no s4))), AV.d (i64 (NotT.t (SprT.no s4))), AV.d (Dv.sl 1 (partsR (SprT.ps s4))), AV.d (Dv.sl 1 (proofsR (SprT.qs s4))), AV.d (Dv.sl 2 (SprT.rows s4)), AV.d (Dv.sl 1 (digR (SprT.pf s4))), AV.d (i64 (SprT.i1 s4)), AV.d (i64 (SprT.i2 s4)), AV.d (i64 (SprT.i3 s4)), AV.d (i64 (SprT.i4 s4)), AV.d (i64 (SprT.i5 s4))] false false 0] ∧ (((∀ (r : List Dv), r ∈ SprT.rows s4 → ∃ (m6 : Int), ∃ (xs7 : List (List Dv)), r = [i64 m6, Dv.sl 1 xs7]) ∧ List.length (SprT.rows s4) ≤ 9223372036854775807) ∧ z5 = anyR (SprT.rows s4)) ∧ BIf z5 (∀ (i : Int), R (AV.d (bo false)) b) (∀ (i : Int), R (AV.d (bo true)) b)))))))) := by kernel_rfl
end
end Go.Proofs.YtfeemohdpmdaoaaDoor.Am

namespace Go.Proofs.YtfeemohdpmdaoaaDoor.Am
set_option linter.unusedVariables false
open Go Go.RowKit Go.Proofs

theorem pcRSound (s : SprT) (hl : s.ps.length ≤ 9223372036854775807) : PCall Tryd.prog 26 [spV s] (.d (bo (soundS s))) := by
  refine PCall.ofFnW (n := 100) (u := false) (fun _ => wl26) mixed T26_ok SCallsOk.nil (fun Ev => wl26_ok) Tryd.func26 (by rfl) (by rfl) fun Ev bb => ?_
  rw [rSound_nf]
  refine ⟨_, _, _, _, _, rfl, rfl, BIf.of (fun g => ?_) fun g1 => ⟨_, _, rfl, rfl, BIf.of (fun g => ?_) fun g2 => BIf.of (fun g => ?_) fun g3 => ⟨_, _, rfl, ⟨hl, rfl⟩, BIf.of (fun g => ?_) fun g4 => ⟨s, _, rfl, rfl, rfl, ⟨⟨?_, ?_⟩, rfl⟩, BIf.of (fun g5 _ => ?_) fun g5 _ => ?_⟩⟩⟩⟩
  · have : announcedS s.no.v s.no.n s.no.t = false := by simpa using g
    rw [soundS, this]; rfl
  · rw [partsR_len] at g
    have h1 : announcedS s.no.v s.no.n s.no.t = true := by simpa using g1
    rw [soundS, h1, g]; rfl
  · rw [partsR_len, proofs_len] at g
    rw [partsR_len] at g2
    have h1 : announcedS s.no.v s.no.n s.no.t = true := by simpa using g1
    rw [soundS, h1, g2, g]; rfl
  · rw [partsR_len, proofs_len] at g3
    rw [partsR_len] at g2
    have h1 : announcedS s.no.v s.no.n s.no.t = true := by simpa using g1
    have h4 : anyOther s.ps = true := by simpa using g
    rw [soundS, h1, g2, g3, h4]; rfl
  · rw [partsR_len] at g2
    have h1 : announcedS s.no.v s.no.n s.no.t = true := by simpa using g1
    have h6 : sizedS s.no.n = true := by simp only [announcedS, Bool.and_eq_true] at h1; exact h1.2.2.1
    obtain ⟨k, hk, hk1, hk2⟩ := sized_nat h6
    rw [hk, countS_eq (by omega)] at g2
    simp at g2; omega
  · rw [partsR_len, proofs_len] at g3
    simp at g3; omega
  · rw [partsR_len] at g2
    rw [partsR_len, proofs_len] at g3
    have h1 : announcedS s.no.v s.no.n s.no.t = true := by simpa using g1
    have h4 : anyOther s.ps = false := by simpa using g4
    rw [soundS, h1, g2, g3, h4, g5]; rfl
  · rw [partsR_len] at g2
    rw [partsR_len, proofs_len] at g3
    have h1 : announcedS s.no.v s.no.n s.no.t = true := by simpa using g1
    have h4 : anyOther s.ps = false := by simpa using g4
    rw [soundS, h1, g2, g3, h4, g5]; rfl
def cRSound (args : List AV) (K : AV → Prop) : Prop := ∃ (s : SprT) (z : Bool), args = [spV s] ∧ (s.ps.length ≤ 9223372036854775807 ∧ z = soundS s) ∧ K (.d (bo z))
theorem cRSound_ok : ∀ args K, cRSound args K → ∃ x, PCall Tryd.prog 26 args x ∧ K x := by
  rintro _ K ⟨s, _, rfl, ⟨hl, rfl⟩, h⟩; exact ⟨_, pcRSound s hl, h⟩
def fewS (s : SprT) : Bool := !decide ((s.ps.length : Int) > 20) && (!decide ((s.qs.length : Int) > 20) && (!decide ((s.rows.length : Int) > 40) && (!decide ((s.pf.length : Int) > 40) && (!anyP s.ps && (!anyQ s.qs && !anyR s.rows)))))
theorem pcFew (s : SprT) (ho : RowsOk s) : PCall Tryd.prog 12 [spV s] (.d (bo (fewS s))) := by
  refine PCall.ofFnW (n := 100) (u := false) (fun _ => wl12) mixed CallsOk.nil SCallsOk.nil (fun Ev => wl12_ok) Tryd.func12 (by rfl) (by rfl) fun Ev bb => ?_
  rw [few_nf, partsR_len, proofs_len, digR_len]
  refine BIf.of (fun g => by rw [fewS, g]; rfl) fun g1 => BIf.of (fun g => by rw [fewS, g1, g]; rfl) fun g2 => BIf.of (fun g => by rw [fewS, g1, g2, g]; rfl) fun g3 => BIf.of (fun g => by rw [fewS, g1, g2, g3, g]; rfl) fun g4 => ?_
  have n1 := of_decide_eq_false g1
  have n2 := of_decide_eq_false g2
  have n3 := of_decide_eq_false g3
  refine ⟨s, _, rfl, rfl, rfl, ⟨by omega, rfl⟩, BIf.of (fun g _ => by rw [fewS, g1, g2, g3, g4, g]; rfl) fun g5 _ => ⟨s, _, rfl, rfl, rfl, ⟨by omega, rfl⟩, BIf.of (fun g _ => by rw [fewS, g1, g2, g3, g4, g5, g]; rfl) fun g6 _ => ⟨s, _, rfl, rfl, rfl, ⟨⟨ho, by omega⟩, rfl⟩, BIf.of (fun g _ => by rw [fewS, g1, g2, g3, g4, g5, g6, g]; rfl) fun g7 _ => by rw [fewS, g1, g2, g3, g4, g5, g6, g7]; rfl⟩⟩⟩
def cFew (args : List AV) (K : AV → Prop) : Prop := ∃ (s : SprT) (z : Bool), args = [spV s] ∧ (RowsOk s ∧ z = fewS s) ∧ K (.d (bo z))
theorem cFew_ok : ∀ args K, cFew args K → ∃ x, PCall Tryd.prog 12 args x ∧ K x := by
  rintro _ K ⟨s, _, rfl, ⟨hl, rfl⟩, h⟩; exact ⟨_, pcFew s hl, h⟩
/-! ### the reference's Split -/
noncomputable def lp14a : Code := sub [1, 1, 1, 0, 1, 2, 3] (code Tryd.f14)
noncomputable def lp14b : Code := sub [1, 1, 1, 0, 1, 2, 3, 1, 0, 2, 1, 0, 1, 2, 3] (code Tryd.f14)
def tm14a (p acc : List (List Dv)) (i : Int) : List AV := [.d (.sl 1 p), .bad, .bad, .bad, .own 22 1 acc, .d (i64 i)] ++ List.replicate 42 .bad
def tm14b (p acc : List (List Dv)) (i k : Int) : List AV := [.d (.sl 1 p), .bad, .bad, .bad, .own 22 1 acc, .d (i64 i), .gref 0 0 256 1, .d (i64 k)] ++ List.replicate 40 .bad
section
variable {β : Type} (wl : WLT β) (y : YieldT β) (b : β) (R : AV → β → Prop) (K : Exit → List AV → List Blk → β → Prop)
theorem r14b (p acc : List (List Dv)) (i k : Int) (cs : List AV) : wpc Tryd.prog ⟨[], GByte, wl, y, false⟩ 100 lp14b (tm14b p acc i k) [blkG cs 0] b (maskT [0, 4, 5, 6, 7] K) = ( BIf (decide (k < (256 : Int))) (BIf (decide (IntKind.wrap IntKind.i64 (IntKind.wrap IntKind.i64 (i * (256 : Int)) + k) < ((List.length p : Nat) : Int))) (BIf (true && decide ((0 : Int) ≤ IntKind.wrap IntKind.i64 (IntKind.wrap IntKind.i64 (i * (256 : Int)) + k))) (∃ (x0 : Int), p[Int.toNat (IntKind.wrap IntKind.i64 (IntKind.wrap IntKind.i64 (i * (256 : Int)) + k))]? = some [u8 x0] ∧ 0 = 0 ∧ BIf (decide ((0 : Int) ≤ k) && decide (k < (256 : Int))) (0 = 0 ∧ BIf (decide (Int.toNat k * 1 + 1 ≤ List.length cs)) (K Exit.normal [AV.d (Dv.sl 1 p), AV.bad, AV.bad, AV.bad, AV.own 22 1 acc, AV.d (i64 i), AV.gref 0 0 256 1, AV.d (i64 (IntKind.wrap IntKind.i64 (k + (1 : Int)))), AV.bad, AV.bad, AV.bad, AV.bad, AV.bad, AV.bad, AV.bad, AV.bad, AV.bad, AV.bad, AV.bad, AV.bad, AV.bad, AV.bad, AV.bad, AV.bad, AV.bad, AV.bad, AV.bad, AV.bad, AV.bad, AV.bad, AV.bad, AV.bad, AV.bad, AV.bad, AV.bad, AV.bad, AV.bad, AV.bad, AV.bad, AV.bad, AV.bad, AV.bad, AV.bad, AV.bad, AV.bad, AV.bad, AV.bad, AV.bad] [Blk.mk (List.take (Int.toNat k * 1) cs ++ [AV.d (u8 x0)] ++ List.drop (Int.toNat k * 1 + 1) cs) false true 0] b) False) False) False) (K (Exit.exit 2) [AV.d (Dv.sl 1 p), AV.bad, AV.bad, AV.bad, AV.own 22 1 acc, AV.d (i64 i), AV.gref 0 0 256 1, AV.d (i64 k), AV.bad, AV.bad, AV.bad, AV.bad, AV.bad, AV.bad, AV.bad, AV.bad, AV.bad, AV.bad, AV.bad, AV.bad, AV.bad, AV.bad, AV.bad, AV.bad, AV.bad, AV.bad, AV.bad, AV.bad, AV.bad, AV.bad, AV.bad, AV.bad, AV.bad, AV.bad, AV.bad, AV.bad, AV.bad, AV.bad, AV.bad, AV.bad, AV.bad, AV.bad, AV.bad, AV.bad, AV.bad, AV.bad, AV.bad, AV.bad] [Blk.mk cs false true 0] b)) (K (Exit.exit 2) [AV.d (Dv.sl 1 p), AV.bad, AV.bad, AV.bad, AV.own 22 1 acc, AV.d (i64 i), AV.gref 0 0 256 1, AV.d (i64 k), AV.bad, AV.bad, AV.bad, AV.bad, AV.bad, AV.bad, AV.bad, AV.bad, AV.bad, AV.bad, AV.bad, AV.bad, AV.bad, AV.bad, AV.bad, AV.bad, AV.bad, AV.bad, AV.bad, AV.bad, AV.bad, AV.bad, AV.bad, AV.bad, AV.bad, AV.bad, AV.bad, AV.bad, AV.bad, AV.bad, AV.bad, AV.bad, AV.bad, AV.bad, AV.bad, AV.bad, AV.bad, AV.bad, AV.bad, AV.bad] [Blk.mk cs false true 0] b)) := by kernel_rfl
end
/-- a page that is being filled: k bytes of p are there -/
def fillP (p : List Int) (k : Nat) : List Int := p.take k ++ List.replicate (256 - k) 0
/-- the i-th piece -/
def pieceP (p : List Int) (i : Nat) : List Int := (p.drop (i * 256)).take 256
end Go.Proofs.YtfeemohdpmdaoaaDoor.Am

namespace Go.Proofs.YtfeemohdpmdaoaaDoor.Am
set_option linter.unusedVariables false
open Go Go.RowKit Go.Proofs

theorem fillP_step {q : List Int} {k : Nat} {x : Int} (hk : k < 256) (hx : q[k]? = some x) :
    (flatA (bytesR (fillP q k))).take (k * 1) ++ [AV.d (u8 x)] ++ (flatA (bytesR (fillP q k))).drop (k * 1 + 1) = flatA (bytesR (fillP q (k + 1))) := by
  have hq : k < q.length := (List.getElem?_eq_some_iff.1 hx).1
  have e0 : (q.take k).length = k := by simp; omega
  have e1 : fillP q (k + 1) = q.take k ++ [x] ++ List.replicate (256 - (k + 1)) 0 := by
    rw [fillP, List.take_add_one, hx]; rfl
  have e2 : List.replicate (256 - k) (0 : Int) = 0 :: List.replicate (256 - (k + 1)) 0 := by
    rw [show 256 - k = (256 - (k + 1)) + 1 by omega, List.replicate_succ]
  rw [flatA_bytes, flatA_bytes, e1, Nat.mul_one, fillP, e2]
  rw [← List.map_take, ← List.map_drop, List.take_left' e0, List.drop_append, List.drop_of_length_le (by omega), e0]
  simp
theorem fillP_full {q : List Int} (h : q.length ≤ 256) : fillP q q.length = padS q := by rw [fillP, List.take_length]; rfl
set_option maxRecDepth 20000 in
theorem wr14b {Ev : Env Tryd.prog} {b : Ev.β} {Q : Exit → St Ev.β → Prop} (p : List Int) (hp : p.length ≤ 1000000) (acc : List (List Dv)) (i : Nat) (hi : i ≤ 10000) : ∀ (n k : Nat), (pieceP p i).length - k ≤ n → k ≤ (pieceP p i).length →
    (∀ k' : Int, Q (.exit 2) ⟨tm14b (bytesR p) acc i k', [blkG (flatA (bytesR (padS (pieceP p i)))) 0], b⟩) → WR Ev lp14b (n + 1) ⟨tm14b (bytesR p) acc i k, [blkG (flatA (bytesR (fillP (pieceP p i) k))) 0], b⟩ Q
  | n, k, hn, hk, h => by
    refine WR.ofMaskT [0, 4, 5, 6, 7] mixed (CX.Ok.of (u := false) CallsOk.nil GByte_ok) (k := 100) ?_
    rw [r14b, bytesR_len]
    have hlen : (pieceP p i).length = min 256 (p.length - i * 256) := by rw [pieceP, List.length_take, List.length_drop]
    have ew : IntKind.wrap IntKind.i64 (IntKind.wrap IntKind.i64 ((i : Int) * 256) + k) = ((i * 256 + k : Nat) : Int) := by
      rw [wrap_i64 (x := (i : Int) * 256) (by omega) (by omega), wrap_i64 (by omega) (by omega)]; omega
    rw [ew]
    have hfull : k = (pieceP p i).length → ∀ k' : Int, Q (.exit 2) ⟨tm14b (bytesR p) acc i k', [blkG (flatA (bytesR (fillP (pieceP p i) k))) 0], b⟩ := by
      intro hkl k'
      rw [hkl, fillP_full (by omega)]; exact h k'
    refine BIf.of (fun g1 => BIf.of (fun g2 => ?_) fun g2 => hfull ?_ _) fun g1 => hfull ?_ _
    · have h1 := of_decide_eq_true g1
      have h2 := of_decide_eq_true g2
      have hkl : k < (pieceP p i).length := by omega
      have hx : (pieceP p i)[k]? = some (nth (pieceP p i) k) := by simp [nth, hkl]
      have hx2 : p[i * 256 + k]? = some (nth (pieceP p i) k) := by
        rw [← hx, pieceP, List.getElem?_take_of_lt (by omega), List.getElem?_drop]
      have hcl : (flatA (bytesR (fillP (pieceP p i) k))).length = 256 := by
        rw [flatA_bytes, List.length_map, fillP, List.length_append, List.length_take, List.length_replicate]; omega
      refine BIf.t (by simp <;> omega) ⟨nth (pieceP p i) k, by rw [Int.toNat_natCast]; simp [bytesR, hx2], rfl, BIf.t (by simp <;> omega) ⟨rfl, BIf.t (by rw [hcl]; simp <;> omega) ?_⟩⟩
      rw [Int.toNat_natCast, fillP_step (by omega) hx, wrap_succ (n := 256) (by omega) (by omega)]
      cases n with
      | zero => omega
      | succ n => exact wr14b p hp acc i hi n (k + 1) (by omega) (by omega) h
    · have h2 := of_decide_eq_false g2; omega
    · have h1 := of_decide_eq_false g1; omega
def wl14b {β : Type} : WLT β := fun c tm hp b K => ∃ (p : List Int) (acc : List (List Dv)) (i : Nat) (z : List Int), c = .loop lp14b ∧ maskTm [0, 4, 5, 6, 7] 0 tm = tm14b (bytesR p) acc i 0 ∧ hp = [blkG (flatA (List.replicate 256 [u8 0])) 0] ∧ ((p.length ≤ 1000000 ∧ i ≤ 10000) ∧ z = padS (pieceP p i)) ∧
  ∀ k : Int, K (.exit 2) (tm14b (bytesR p) acc i k) [blkG (flatA (bytesR z)) 0] b
theorem wl14b_ok {Ev : Env Tryd.prog} (c : Code) (tm : List AV) (hp : List Blk) (b : Ev.β) (K : Exit → List AV → List Blk → Ev.β → Prop) (h : wl14b c tm hp b K) : W Ev c ⟨tm, hp, b⟩ (fun e s => K e s.tm s.hp s.b) := by
  obtain ⟨p, acc, i, z, rfl, htm, rfl, ⟨⟨hl, hi⟩, rfl⟩, hK⟩ := h
  refine W.cast (htm ▸ maskTm_le _ tm 0) (LeH.refl _) ?_
  have e : List.replicate 256 [u8 0] = bytesR (fillP (pieceP p i) 0) := by rw [fillP, List.take_zero, List.nil_append]; simp only [bytesR, List.map_replicate]
  rw [e]
  exact W.rounds (wr14b (Q := fun e s => K e s.tm s.hp s.b) p hl acc i hi _ 0 (Nat.le_refl _) (Nat.zero_le _) hK)
section
variable {β : Type} (wl : WLT β) (y : YieldT β) (b : β) (R : AV → β → Prop) (K : Exit → List AV → List Blk → β → Prop)
set_option maxRecDepth 20000 in
theorem r14a (p acc : List (List Dv)) (i : Int) : wpc Tryd.prog ⟨[(27, cRCount)], GByte, wl14b, y, false⟩ 100 lp14a (tm14a p acc i) [] b (maskK 0 [0, 4, 5] K) = ( ∃ (n0 : Int), ∃ (z1 : Int), [AV.d (i64 ((List.length p : Nat) : Int))] = [AV.d (i64 n0)] ∧ z1 = countS n0 ∧ BIf (decide (i < z1)) (∃ (p2 : List Int), ∃ (acc3 : List (List Dv)), ∃ (i4 : Nat), ∃ (z5 : List Int), Code.loop lp14b = Code.loop lp14b ∧ [AV.d (Dv.sl 1 p), AV.bad, AV.bad, AV.bad, AV.own 22 1 acc, AV.d (i64 i), AV.gref 0 0 256 1, AV.d (i64 (0 : Int)), AV.bad, AV.bad, AV.bad, AV.bad, AV.bad, AV.bad, AV.bad, AV.bad, AV.bad, AV.bad, AV.bad, AV.bad, AV.bad, AV.bad, AV.bad, AV.bad, AV.bad, AV.bad, AV.bad, AV.bad, AV.bad, AV.bad, AV.bad, AV.bad, AV.bad, AV.bad, AV.bad, AV.bad, AV.bad, AV.bad, AV.bad, AV.bad, AV.bad, AV.bad, AV.bad, AV.bad, AV.bad, AV.bad, AV.bad, AV.bad] = [AV.d (Dv.sl 1 (bytesR p2)), AV.bad, AV.bad, AV.bad, AV.own 22 1 acc3, AV.d (i64 (i4 : Int)), AV.gref 0 0 256 1, AV.d (i64 (0 : Int)), AV.bad, AV.bad, AV.bad, AV.bad, AV.bad, AV.bad, AV.bad, AV.bad, AV.bad, AV.bad, AV.bad, AV.bad, AV.bad, AV.bad, AV.bad, AV.bad, AV.bad, AV.bad, AV.bad, AV.bad, AV.bad, AV.bad, AV.bad, AV.bad, AV.bad, AV.bad, AV.bad, AV.bad, AV.bad, AV.bad, AV.bad, AV.bad, AV.bad, AV.bad, AV.bad, AV.bad, AV.bad, AV.bad, AV.bad, AV.bad] ∧ [Blk.mk [AV.d (u8 (0 : Int)), AV.d (u8 (0 : Int)), AV.d (u8 (0 : Int)), AV.d (u8 (0 : Int)), AV.d (u8 (0 : Int)), AV.d (u8 (0 : Int)), AV.d (u8 (0 : Int)), AV.d (u8 (0 : Int)), AV.d (u8 (0 : Int)), AV.d (u8 (0 : Int)), AV.d (u8 (0 : Int)), AV.d (u8 (0 : Int)), AV.d (u8 (0 : Int)), AV.d (u8 (0 : Int)), AV.d (u8 (0 : Int)), AV.d (u8 (0 : Int)), AV.d (u8 (0 : Int)), AV.d (u8 (0 : Int)), AV.d (u8 (0 : Int)), AV.d (u8 (0 : Int)), AV.d (u8 (0 : Int)), AV.d (u8 (0 : Int)), AV.d (u8 (0 : Int)), AV.d (u8 (0 : Int)), AV.d (u8 (0 : Int)), AV.d (u8 (0 : Int)), AV.d (u8 (0 : Int)), AV.d (u8 (0 : Int)), AV.d (u8 (0 : Int)), AV.d (u8 (0 : Int)), AV.d (u8 (0 : Int)), AV.d (u8 (0 : Int)), AV.d (u8 (0 : Int)), AV.d (u8 (0 : Int)), AV.d (u8 (0 : Int)), AV.d (u8 (0 : Int)), AV.d (u8 (0 : Int)), AV.d (u8 (0 : Int)), AV.d (u8 (0 : Int)), AV.d (u8 (0 : Int)), AV.d (u8 (0 : Int)), AV.d (u8 (0 : Int)), AV.d (u8 (0 : Int)), AV.d (u8 (0 : Int)), AV.d (u8 (0 : Int)), AV.d (u8 (0 : Int)), AV.d (u8 (0 : Int)), AV.d (u8 (0 : Int)), AV.d (u8 (0 : Int)), AV.d (u8 (0 : Int)), AV.d (u8 (0 : Int)), AV.d (u8 (0 : Int)), AV.d (u8 (0 : Int)), AV.d (u8 (0 : Int)), AV.d (u8 (0 : Int)), AV.d (u8 (0 : Int)), AV.d (u8 (0 : Int)), AV.d (u8 (0 : Int)), AV.d (u8 (0 : Int)), AV.d (u8 (0 : Int)), AV.d (u8 (0 : Int)), AV.d (u8 (0 : Int)), AV.d (u8 (0 : Int)), AV.d (u8 (0 : Int)), AV.d (u8 (0 : Int)), AV.d (u8 (0 : Int)), AV.d (u8 (0 : Int)), AV.d (u8 (0 : Int)), AV.d (u8 (0 : Int)), AV.d (u8 (0 : Int)), AV.d (u8 (0 : Int)), AV.d (u8 (0 : Int)), AV.d (u8 (0 : Int)), AV.d (u8 (0 : Int)), AV.d (u8 (0 : Int)), AV.d (u8 (0 : Int)), AV.d (u8 (0 : Int)), AV.d (u8 (0 : Int)), AV.d (u8 (0 : Int)), AV.d (u8 (0 : Int)), AV.d (u8 (0 : Int)), AV.d (u8 (0 : Int)), AV.d (u8 (0 : Int)), AV.d (u8 (0 : Int)), AV.d (u8 (0 : Int)), AV.d (u8 (0 : Int)), AV.d (u8 (0 : Int)), AV.d (u8 (0 : Int)), AV.d (u8 (0 : Int)), AV.d (u8 (0 : Int)), AV.d (u8 (0 : Int)), AV.d (u8 (0 : Int)), AV.d (u8 (0 : Int)), AV.d (u8 (0 : Int)), AV.d (u8 (0 : Int)), AV.d (u8 (0 : Int)), AV.d (u8 (0 : Int)), AV.d (u8 (0 : Int)), AV.d (u8 (0 : Int)), AV.d (u8 (0 : Int)), AV.d (u8 (0 : Int)), AV.d (u8 (0 : Int)), AV.d (u8 (0 : Int)), AV.d (u8 (0 : Int)), AV.d (u8 (0 : Int)), AV.d (u8 (0 : Int)), AV.d (u8 (0 : Int)), AV.d (u8 (0 : Int)), AV.d (u8 (0 : Int)), AV.d (u8 (0 : Int)), AV.d (u8 (0 : Int)), AV.d (u8 (0 : Int)), AV.d (u8 (0 : Int)), AV.d (u8 (0 : Int)), AV.d (u8 (0 : Int)), AV.d (u8 (0 : Int)), AV.d (u8 (0 : Int)), AV.d (u8 (0 : Int)), AV.d (u8 (0 : Int)), AV.d (u8 (0 : Int)), AV.d (u8 (0 : Int)), AV.d (u8 (0 : Int)), AV.d (u8 (0 : Int)), AV.d (u8 (0 : Int)), AV.d (u8 (0 : Int)), AV.d (u8 (0 : Int)), AV.d (u8 (0 : Int)), AV.d (u8 (0 : Int)), AV.d (u8 (0 : Int)), AV.d (u8 (0 : Int)), AV.d (u8 (0 : Int)), AV.d (u8 (0 : Int)), AV.d (u8 (0 : Int)), AV.d (u8 (0 : Int)), AV.d (u8 (0 : Int)), AV.d (u8 (0 : Int)), AV.d (u8 (0 : Int)), AV.d (u8 (0 : Int)), AV.d (u8 (0 : Int)), AV.d (u8 (0 : Int)), AV.d (u8 (0 : Int)), AV.d (u8 (0 : Int)), AV.d (u8 (0 : Int)), AV.d (u8 (0 : Int)), AV.d (u8 (0 : Int)), AV.d (u8 (0 : Int)), AV.d (u8 (0 : Int)), AV.d (u8 (0 : Int)), AV.d (u8 (0 : Int)), AV.d (u8 (0 : Int)), AV.d (u8 (0 : Int)), AV.d (u8 (0 : Int)), AV.d (u8 (0 : Int)), AV.d (u8 (0 : Int)), AV.d (u8 (0 : Int)), AV.d (u8 (0 : Int)), AV.d (u8 (0 : Int)), AV.d (u8 (0 : Int)), AV.d (u8 (0 : Int)), AV.d (u8 (0 : Int)), AV.d (u8 (0 : Int)), AV.d (u8 (0 : Int)), AV.d (u8 (0 : Int)), AV.d (u8 (0 : Int)), AV.d (u8 (0 : Int)), AV.d (u8 (0 : Int)), AV.d (u8 (0 : Int)), AV.d (u8 (0 : Int)), AV.d (u8 (0 : Int)), AV.d (u8 (0 : Int)), AV.d (u8 (0 : Int)), AV.d (u8 (0 : Int)), AV.d (u8 (0 : Int)), AV.d (u8 (0 : Int)), AV.d (u8 (0 : Int)), AV.d (u8 (0 : Int)), AV.d (u8 (0 : Int)), AV.d (u8 (0 : Int)), AV.d (u8 (0 : Int)), AV.d (u8 (0 : Int)), AV.d (u8 (0 : Int)), AV.d (u8 (0 : Int)), AV.d (u8 (0 : Int)), AV.d (u8 (0 : Int)), AV.d (u8 (0 : Int)), AV.d (u8 (0 : Int)), AV.d (u8 (0 : Int)), AV.d (u8 (0 : Int)), AV.d (u8 (0 : Int)), AV.d (u8 (0 : Int)), AV.d (u8 (0 : Int)), AV.d (u8 (0 : Int)), AV.d (u8 (0 : Int)), AV.d (u8 (0 : Int)), AV.d (u8 (0 : Int)), AV.d (u8 (0 : Int)), AV.d (u8 (0 : Int)), AV.d (u8 (0 : Int)), AV.d (u8 (0 : Int)), AV.d (u8 (0 : Int)), AV.d (u8 (0 : Int)), AV.d (u8 (0 : Int)), AV.d (u8 (0 : Int)), AV.d (u8 (0 : Int)), AV.d (u8 (0 : Int)), AV.d (u8 (0 : Int)), AV.d (u8 (0 : Int)), AV.d (u8 (0 : Int)), AV.d (u8 (0 : Int)), AV.d (u8 (0 : Int)), AV.d (u8 (0 : Int)), AV.d (u8 (0 : Int)), AV.d (u8 (0 : Int)), AV.d (u8 (0 : Int)), AV.d (u8 (0 : Int)), AV.d (u8 (0 : Int)), AV.d (u8 (0 : Int)), AV.d (u8 (0 : Int)), AV.d (u8 (0 : Int)), AV.d (u8 (0 : Int)), AV.d (u8 (0 : Int)), AV.d (u8 (0 : Int)), AV.d (u8 (0 : Int)), AV.d (u8 (0 : Int)), AV.d (u8 (0 : Int)), AV.d (u8 (0 : Int)), AV.d (u8 (0 : Int)), AV.d (u8 (0 : Int)), AV.d (u8 (0 : Int)), AV.d (u8 (0 : Int)), AV.d (u8 (0 : Int)), AV.d (u8 (0 : Int)), AV.d (u8 (0 : Int)), AV.d (u8 (0 : Int)), AV.d (u8 (0 : Int)), AV.d (u8 (0 : Int)), AV.d (u8 (0 : Int)), AV.d (u8 (0 : Int)), AV.d (u8 (0 : Int)), AV.d (u8 (0 : Int)), AV.d (u8 (0 : Int)), AV.d (u8 (0 : Int)), AV.d (u8 (0 : Int)), AV.d (u8 (0 : Int)), AV.d (u8 (0 : Int)), AV.d (u8 (0 : Int)), AV.d (u8 (0 : Int)), AV.d (u8 (0 : Int)), AV.d (u8 (0 : Int)), AV.d (u8 (0 : Int)), AV.d (u8 (0 : Int)), AV.d (u8 (0 : Int)), AV.d (u8 (0 : Int)), AV.d (u8 (0 : Int)), AV.d (u8 (0 : Int)), AV.d (u8 (0 : Int))] false true 0] = [Blk.mk [AV.d (u8 (0 : Int)), AV.d (u8 (0 : Int)), AV.d (u8 (0 : Int)), AV.d (u8 (0 : Int)), AV.d (u8 (0 : Int)), AV.d (u8 (0 : Int)), AV.d (u8 (0 : Int)), AV.d (u8 (0 : Int)), AV.d (u8 (0 : Int)), AV.d (u8 (0 : Int)), AV.d (u8 (0 : Int)), AV.d (u8 (0 : Int)), AV.d (u8 (0 : Int)), AV.d (u8 (0 : Int)), AV.d (u8 (0 : Int)), AV.d (u8 (0 : Int)), AV.d (u8 (0 : Int)), AV.d (u8 (0 : Int)), AV.d (u8 (0 : Int)), AV.d (u8 (0 : Int)), AV.d (u8 (0 : Int)), AV.d (u8 (0 : Int)), AV.d (u8 (0 : Int)), AV.d (u8 (0 : Int)), AV.d (u8 (0 : Int)), AV.d (u8 (0 : Int)), AV.d (u8 (0 : Int)), AV.d (u8 (0 : Int)), AV.d (u8 (0 : Int)), AV.d (u8 (0 : Int)), AV.d (u8 (0 : Int)), AV.d (u8 (0 : Int)), AV.d (u8 (0 : Int)), AV.d (u8 (0 : Int)), AV.d (u8 (0 : Int)), AV.d (u8 (0 : Int)), AV.d (u8 (0 : Int)), AV.d (u8 (0 : Int)), AV.d (u8 (0 : Int)), AV.d (u8 (0 : Int)), AV.d (u8 (0 : Int)), AV.d (u8 (0 : Int)), AV.d (u8 (0 : Int)), AV.d (u8 (0 : Int)), AV.d (u8 (0 : Int)), AV.d (u8 (0 : Int)), AV.d (u8 (0 : Int)), AV.d (u8 (0 : Int)), AV.d (u8 (0 : Int)), AV.d (u8 (0 : Int)), AV.d (u8 (0 : Int)), AV.d (u8 (0 : Int)), AV.d (u8 (0 : Int)), AV.d (u8 (0 : Int)), AV.d (u8 (0 : Int)), AV.d (u8 (0 : Int)), AV.d (u8 (0 : Int)), AV.d (u8 (0 : Int)), AV.d (u8 (0 : Int)), AV.d (u8 (0 : Int)), AV.d (u8 (0 : Int)), AV.d (u8 (0 : Int)), AV.d (u8 (0 : Int)), AV.d (u8 (0 : Int)), AV.d (u8 (0 : Int)), AV.d (u8 (0 : Int)), AV.d (u8 (0 : Int)), AV.d (u8 (0 : Int)), AV.d (u8 (0 : Int)), AV.d (u8 (0 : Int)), AV.d (u8 (0 : Int)), AV.d (u8 (0 : Int)), AV.d (u8 (0 : Int)), AV.d (u8 (0 : Int)), AV.d (u8 (0 : Int)), AV.d (u8 (0 : Int)), AV.d (u8 (0 : Int)), AV.d (u8 (0 : Int)), AV.d (u8 (0 : Int)), AV.d (u8 (0 : Int)), AV.d (u8 (0 : Int)), AV.d (u8 (0 : Int)), AV.d (u8 (0 : Int)), AV.d (u8 (0 : Int)), AV.d (u8 (0 : Int)), AV.d (u8 (0 : Int)), AV.d (u8 (0 : Int)), AV.d (u8 (0 : Int)), AV.d (u8 (0 : Int)), AV.d (u8 (0 : Int)), AV.d (u8 (0 : Int)), AV.d (u8 (0 : Int)), AV.d (u8 (0 : Int)), AV.d (u8 (0 : Int)), AV.d (u8 (0 : Int)), AV.d (u8 (0 : Int)), AV.d (u8 (0 : Int)), AV.d (u8 (0 : Int)), AV.d (u8 (0 : Int)), AV.d (u8 (0 : Int)), AV.d (u8 (0 : Int)), AV.d (u8 (0 : Int)), AV.d (u8 (0 : Int)), AV.d (u8 (0 : Int)), AV.d (u8 (0 : Int)), AV.d (u8 (0 : Int)), AV.d (u8 (0 : Int)), AV.d (u8 (0 : Int)), AV.d (u8 (0 : Int)), AV.d (u8 (0 : Int)), AV.d (u8 (0 : Int)), AV.d (u8 (0 : Int)), AV.d (u8 (0 : Int)), AV.d (u8 (0 : Int)), AV.d (u8 (0 : Int)), AV.d (u8 (0 : Int)), AV.d (u8 (0 : Int)), AV.d (u8 (0 : Int)), AV.d (u8 (0 : Int)), AV.d (u8 (0 : Int)), AV.d (u8 (0 : Int)), AV.d (u8 (0 : Int)), AV.d (u8 (0 : Int)), AV.d (u8 (0 : Int)), AV.d (u8 (0 : Int)), AV.d (u8 (0 : Int)), AV.d (u8 (0 : Int)), AV.d (u8 (0 : Int)), AV.d (u8 (0 : Int)), AV.d (u8 (0 : Int)), AV.d (u8 (0 : Int)), AV.d (u8 (0 : Int)), AV.d (u8 (0 : Int)), AV.d (u8 (0 : Int)), AV.d (u8 (0 : Int)), AV.d (u8 (0 : Int)), AV.d (u8 (0 : Int)), AV.d (u8 (0 : Int)), AV.d (u8 (0 : Int)), AV.d (u8 (0 : Int)), AV.d (u8 (0 : Int)), AV.d (u8 (0 : Int)), AV.d (u8 (0 : Int)), AV.d (u8 (0 : Int)), AV.d (u8 (0 : Int)), AV.d (u8 (0 : Int)), AV.d (u8 (0 : Int)), AV.d (u8 (0 : Int)), AV.d (u8 (0 : Int)), AV.d (u8 (0 : Int)), AV.d (u8 (0 : Int)), AV.d (u8 (0 : Int)), AV.d (u8 (0 : Int)), AV.d (u8 (0 : Int)), AV.d (u8 (0 : Int)), AV.d (u8 (0 : Int)), AV.d (u8 (0 : Int)), AV.d (u8 (0 : Int)), AV.d (u8 (0 : Int)), AV.d (u8 (0 : Int)), AV.d (u8 (0 : Int)), AV.d (u8 (0 : Int)), AV.d (u8 (0 : Int)), AV.d (u8 (0 : Int)), AV.d (u8 (0 : Int)), AV.d (u8 (0 : Int)), AV.d (u8 (0 : Int)), AV.d (u8 (0 : Int)), AV.d (u8 (0 : Int)), AV.d (u8 (0 : Int)), AV.d (u8 (0 : Int)), AV.d (u8 (0 : Int)), AV.d (u8 (0 : Int)), AV.d (u8 (0 : Int)), AV.d (u8 (0 : Int)), AV.d (u8 (0 : Int)), AV.d (u8 (0 : Int)), AV.d (u8 (0 : Int)), AV.d (u8 (0 : Int)), AV.d (u8 (0 : Int)), AV.d (u8 (0 : Int)), AV.d (u8 (0 : Int)), AV.d (u8 (0 : Int)), AV.d (u8 (0 : Int)), AV.d (u8 (0 : Int)), AV.d (u8 (0 : Int)), AV.d (u8 (0 : Int)), AV.d (u8 (0 : Int)), AV.d (u8 (0 : Int)), AV.d (u8 (0 : Int)), AV.d (u8 (0 : Int)), AV.d (u8 (0 : Int)), AV.d (u8 (0 : Int)), AV.d (u8 (0 : Int)), AV.d (u8 (0 : Int)), AV.d (u8 (0 : Int)), AV.d (u8 (0 : Int)), AV.d (u8 (0 : Int)), AV.d (u8 (0 : Int)), AV.d (u8 (0 : Int)), AV.d (u8 (0 : Int)), AV.d (u8 (0 : Int)), AV.d (u8 (0 : Int)), AV.d (u8 (0 : Int)), AV.d (u8 (0 : Int)), AV.d (u8 (0 : Int)), AV.d (u8 (0 : Int)), AV.d (u8 (0 : Int)), AV.d (u8 (0 : Int)), AV.d (u8 (0 : Int)), AV.d (u8 (0 : Int)), AV.d (u8 (0 : Int)), AV.d (u8 (0 : Int)), AV.d (u8 (0 : Int)), AV.d (u8 (0 : Int)), AV.d (u8 (0 : Int)), AV.d (u8 (0 : Int)), AV.d (u8 (0 : Int)), AV.d (u8 (0 : Int)), AV.d (u8 (0 : Int)), AV.d (u8 (0 : Int)), AV.d (u8 (0 : Int)), AV.d (u8 (0 : Int)), AV.d (u8 (0 : Int)), AV.d (u8 (0 : Int)), AV.d (u8 (0 : Int)), AV.d (u8 (0 : Int)), AV.d (u8 (0 : Int)), AV.d (u8 (0 : Int)), AV.d (u8 (0 : Int)), AV.d (u8 (0 : Int)), AV.d (u8 (0 : Int)), AV.d (u8 (0 : Int)), AV.d (u8 (0 : Int)), AV.d (u8 (0 : Int)), AV.d (u8 (0 : Int)), AV.d (u8 (0 : Int)), AV.d (u8 (0 : Int)), AV.d (u8 (0 : Int)), AV.d (u8 (0 : Int)), AV.d (u8 (0 : Int)), AV.d (u8 (0 : Int)), AV.d (u8 (0 : Int)), AV.d (u8 (0 : Int)), AV.d (u8 (0 : Int)), AV.d (u8 (0 : Int)), AV.d (u8 (0 : Int)), AV.d (u8 (0 : Int)), AV.d (u8 (0 : Int)), AV.d (u8 (0 : Int)), AV.d (u8 (0 : Int)), AV.d (u8 (0 : Int)), AV.d (u8 (0 : Int)), AV.d (u8 (0 : Int)), AV.d (u8 (0 : Int)), AV.d (u8 (0 : Int))] false true 0] ∧ ((List.length p2 ≤ 1000000 ∧ i4 ≤ 10000) ∧ z5 = padS (pieceP p2 i4)) ∧ ∀ (k : Int), 0 = 0 ∧ ∃ (xs6 : List (List Dv)), flatA (bytesR z5) = flatA xs6 ∧ List.length xs6 = 256 ∧ (∀ (r : List Dv), r ∈ xs6 → List.length r = 1) ∧ BIf (true && decide ((List.length acc3 + 1) * 24 ≤ 140737488355328)) (K Exit.normal [AV.d (Dv.sl 1 (bytesR p2)), AV.bad, AV.bad, AV.bad, AV.own 22 1 (acc3 ++ [[Dv.sl 1 xs6]]), AV.d (i64 (IntKind.wrap IntKind.i64 ((i4 : Int) + (1 : Int)))), AV.bad, AV.bad, AV.bad, AV.bad, AV.bad, AV.bad, AV.bad, AV.bad, AV.bad, AV.bad, AV.bad, AV.bad, AV.bad, AV.bad, AV.bad, AV.bad, AV.bad, AV.bad, AV.bad, AV.bad, AV.bad, AV.bad, AV.bad, AV.bad, AV.bad, AV.bad, AV.bad, AV.bad, AV.bad, AV.bad, AV.bad, AV.bad, AV.bad, AV.bad, AV.bad, AV.bad, AV.bad, AV.bad, AV.bad, AV.bad, AV.bad, AV.bad] [] b) False) (K (Exit.exit 0) [AV.d (Dv.sl 1 p), AV.bad, AV.bad, AV.bad, AV.own 22 1 acc, AV.d (i64 i), AV.bad, AV.bad, AV.bad, AV.bad, AV.bad, AV.bad, AV.bad, AV.bad, AV.bad, AV.bad, AV.bad, AV.bad, AV.bad, AV.bad, AV.bad, AV.bad, AV.bad, AV.bad, AV.bad, AV.bad, AV.bad, AV.bad, AV.bad, AV.bad, AV.bad, AV.bad, AV.bad, AV.bad, AV.bad, AV.bad, AV.bad, AV.bad, AV.bad, AV.bad, AV.bad, AV.bad, AV.bad, AV.bad, AV.bad, AV.bad, AV.bad, AV.bad] [] b)) := by kernel_rfl
end
end Go.Proofs.YtfeemohdpmdaoaaDoor.Am

namespace Go.Proofs.YtfeemohdpmdaoaaDoor.Am
set_option linter.unusedVariables false
open Go Go.RowKit Go.Proofs

theorem pieceP_drop (p : List Int) (i : Nat) : pieceP (p.drop 256) i = pieceP p (i + 1) := by
  rw [pieceP, pieceP, List.drop_drop]; congr 2; omega
theorem chunk_pieces : ∀ (n : Nat) (p : List Int), p.length ≤ n → chunkD 256 n p = (List.range ((p.length + 255) / 256)).map (pieceP p)
  | 0, p, h => by
    have : p = [] := List.length_eq_zero_iff.1 (by omega)
    subst this; rfl
  | n + 1, p, h => by
    rw [chunkD]
    cases hp : p with
    | nil => rfl
    | cons a l =>
      rw [if_neg (by simp), ← hp]
      have hl : 1 ≤ p.length := by rw [hp]; simp
      rw [chunk_pieces n (p.drop 256) (by simp; omega)]
      have e : (p.length + 255) / 256 = ((p.drop 256).length + 255) / 256 + 1 := by rw [List.length_drop]; omega
      rw [e, List.range_succ_eq_map, List.map_cons, List.map_map]
      refine congr (congrArg _ ?_) (List.map_congr_left fun i _ => pieceP_drop p i)
      rw [pieceP]; simp
theorem split_pieces (p : List Int) : splitS p = (List.range ((p.length + 255) / 256)).map fun i => padS (pieceP p i) := by
  rw [splitS, chunk_pieces _ _ (Nat.le_refl _), List.map_map]; rfl
theorem piece_len (p : List Int) (i : Nat) : (pieceP p i).length ≤ 256 := by rw [pieceP, List.length_take]; omega
def T14 : List (Nat × (List AV → (AV → Prop) → Prop)) := [(27, cRCount)]
theorem T14_ok : CallsOk Tryd.prog T14 := CallsOk.cons cRCount_ok CallsOk.nil
theorem bytes_row {p : List Int} : ∀ r ∈ bytesR p, r.length = 1 := by
  intro r hr; simp only [bytesR, List.mem_map] at hr; obtain ⟨_, _, rfl⟩ := hr; rfl
set_option maxRecDepth 20000 in
theorem wr14a {Ev : Env Tryd.prog} {b : Ev.β} {Q : Exit → St Ev.β → Prop} (p : List Int) (hp : p.length ≤ 4096) (m : Nat) (hm : m = (p.length + 255) / 256) : ∀ (n k : Nat), m - k = n → k ≤ m →
    (∀ k' : Int, Q (.exit 0) ⟨tm14a (bytesR p) (partsR ((List.range m).map fun i => padS (pieceP p i))) k', [], b⟩) → WR Ev lp14a (n + 1) ⟨tm14a (bytesR p) (partsR ((List.range k).map fun i => padS (pieceP p i))) k, [], b⟩ Q
  | n, k, hn, hk, h => by
    refine WR.ofMask [0, 4, 5] mixed (CX.Ok.ofWl (wl := wl14b) (u := false) T14_ok GByte_ok wl14b_ok) (k := 100) ?_
    show wpc _ _ _ _ _ _ _ (maskK 0 _ _)
    have hr := r14a (β := Ev.β) Ev.Y b (thenK (fun tm hp b => WR Ev lp14a n ⟨tm, hp, b⟩ Q) fun e tm hp b => Q e ⟨tm, hp, b⟩) (bytesR p) (partsR ((List.range k).map fun i => padS (pieceP p i))) k
    refine Eq.mpr hr ?_
    rw [bytesR_len]
    have hc : countS (p.length : Int) = (m : Int) := by rw [countS_eq (by omega), hm]
    refine ⟨_, _, rfl, rfl, ?_⟩
    rw [hc]
    refine BIf.of (fun g => ?_) fun g => ?_
    · have hkm : k < m := by simpa using g
      refine ⟨p, _, k, _, rfl, rfl, rfl, ⟨⟨by omega, by omega⟩, rfl⟩, fun _ => ⟨rfl, bytesR (padS (pieceP p k)), rfl, by rw [bytesR_len, padS_len (piece_len p k)], bytes_row, BIf.t (by simp [partsR_len] <;> omega) ?_⟩⟩
      have e : partsR ((List.range k).map fun i => padS (pieceP p i)) ++ [[Dv.sl 1 (bytesR (padS (pieceP p k)))]] = partsR ((List.range (k + 1)).map fun i => padS (pieceP p i)) := by
        rw [parts_app1, List.range_succ, List.map_append]; rfl
      rw [e, wrap_succ hkm (by omega)]
      cases n with
      | zero => omega
      | succ n => exact wr14a p hp m hm n (k + 1) (by omega) (by omega) h
    · have hkm : k = m := by simp at g; omega
      subst hkm
      exact h _
def wl14a {β : Type} : WLT β := fun c tm hp b K => ∃ (p : List Int) (z : List (List Int)), c = .loop lp14a ∧ maskTm [0, 4, 5] 0 tm = (tm14a (bytesR p) [] 0).set 4 nilV ∧ hp = [] ∧ (p.length ≤ 4096 ∧ z = splitS p) ∧ ∀ k : Int, K (.exit 0) (tm14a (bytesR p) (partsR z) k) [] b
theorem wl14a_ok {Ev : Env Tryd.prog} (c : Code) (tm : List AV) (hp : List Blk) (b : Ev.β) (K : Exit → List AV → List Blk → Ev.β → Prop) (h : wl14a c tm hp b K) : W Ev c ⟨tm, hp, b⟩ (fun e s => K e s.tm s.hp s.b) := by
  obtain ⟨p, z, rfl, htm, rfl, ⟨hl, rfl⟩, hK⟩ := h
  refine W.cast (htm ▸ maskTm_le _ tm 0) (LeH.refl _) ?_
  refine W.cast (tm' := tm14a (bytesR p) (partsR ((List.range 0).map fun i => padS (pieceP p i))) 0) (LeL.at [_, _, _, _] _ (LeA.nilOwn rfl)) (LeH.refl _) ?_
  rw [split_pieces] at hK
  exact W.rounds (wr14a (Q := fun e s => K e s.tm s.hp s.b) p hl _ rfl _ 0 (Nat.sub_zero _) (Nat.zero_le _) hK)
section
variable {β : Type} (wl : WLT β) (y : YieldT β) (b : β) (R : AV → β → Prop) (K : Exit → List AV → List Blk → β → Prop)
theorem rSplit_nf (p : List (List Dv)) : wpFn Tryd.prog ⟨TRn, [], wl14a, y, false⟩ 100 Tryd.f14 [.d (.sl 1 p)] b R = ( ∃ (n0 : Int), ∃ (z1 : Bool), [AV.d (i64 ((List.length p : Nat) : Int))] = [AV.d (i64 n0)] ∧ z1 = sizedS n0 ∧ BIf (!z1) (R (AV.tup [AV.d (Dv.s (Value.slice none 0 0)), AV.d (i64 (1 : Int))]) b) (∃ (p2 : List Int), ∃ (z3 : List (List Int)), Code.loop lp14a = Code.loop lp14a ∧ [AV.d (Dv.sl 1 p), AV.bad, AV.bad, AV.bad, AV.d (Dv.s (Value.slice none 0 0)), AV.d (i64 (0 : Int)), AV.bad, AV.bad, AV.bad, AV.bad, AV.bad, AV.bad, AV.bad, AV.bad, AV.bad, AV.bad, AV.bad, AV.bad, AV.bad, AV.bad, AV.bad, AV.bad, AV.bad, AV.bad, AV.bad, AV.bad, AV.bad, AV.bad, AV.bad, AV.bad, AV.bad, AV.bad, AV.bad, AV.bad, AV.bad, AV.bad, AV.bad, AV.bad, AV.bad, AV.bad, AV.bad, AV.bad, AV.bad, AV.bad, AV.bad, AV.bad, AV.bad, AV.bad] = [AV.d (Dv.sl 1 (bytesR p2)), AV.bad, AV.bad, AV.bad, AV.d (Dv.s (Value.slice none 0 0)), AV.d (i64 (0 : Int)), AV.bad, AV.bad, AV.bad, AV.bad, AV.bad, AV.bad, AV.bad, AV.bad, AV.bad, AV.bad, AV.bad, AV.bad, AV.bad, AV.bad, AV.bad, AV.bad, AV.bad, AV.bad, AV.bad, AV.bad, AV.bad, AV.bad, AV.bad, AV.bad, AV.bad, AV.bad, AV.bad, AV.bad, AV.bad, AV.bad, AV.bad, AV.bad, AV.bad, AV.bad, AV.bad, AV.bad, AV.bad, AV.bad, AV.bad, AV.bad, AV.bad, AV.bad] ∧ ([] : List Blk) = [] ∧ (List.length p2 ≤ 4096 ∧ z3 = splitS p2) ∧ ∀ (k : Int), R (AV.tup [AV.d (Dv.sl 1 (partsR z3)), AV.d (i64 (0 : Int))]) b)) := by kernel_rfl
end
/-! ### the reference's Join -/
noncomputable def lp16a : Code := sub [1, 1, 1, 0, 1, 2, 3] (code Tryd.f16)
noncomputable def lp16b : Code := sub [1, 1, 1, 0, 1, 2, 3, 1, 0, 2, 1, 2, 3] (code Tryd.f16)
def tm16a (ps : List (List Dv)) (n : Int) (o : List (List Dv)) (i : Int) : List AV := [.d (.sl 1 ps), .d (i64 n), .bad, .bad, .bad, .bad, .own 5 1 o, .d (i64 i)] ++ List.replicate 49 .bad
def tm16b (ps : List (List Dv)) (n : Int) (o : List (List Dv)) (i k : Int) : List AV := [.d (.sl 1 ps), .d (i64 n), .bad, .bad, .bad, .bad, .own 5 1 o, .d (i64 i), .d (i64 k)] ++ List.replicate 48 .bad
section
variable {β : Type} (wl : WLT β) (y : YieldT β) (b : β) (R : AV → β → Prop) (K : Exit → List AV → List Blk → β → Prop)
theorem r16b (ps : List (List Dv)) (n : Int) (o : List (List Dv)) (i k : Int) : wpc Tryd.prog ⟨[], [], wl, y, false⟩ 100 lp16b (tm16b ps n o i k) [] b (maskT [0, 1, 4, 5, 6, 7, 8] K) = ( BIf (decide (k < (256 : Int))) (BIf (decide (((List.length o : Nat) : Int) < n)) (BIf (true && decide ((0 : Int) ≤ i)) (∃ (xs0 : List (List Dv)), ps[Int.toNat i]? = some [Dv.sl 1 xs0] ∧ BIf (true && decide ((0 : Int) ≤ k)) (∃ (x3 : Int), xs0[Int.toNat k]? = some [u8 x3] ∧ BIf (true && decide ((List.length o + 1) * 1 ≤ 140737488355328)) (K Exit.normal [AV.d (Dv.sl 1 ps), AV.d (i64 n), AV.bad, AV.bad, AV.bad, AV.bad, AV.own 5 1 (o ++ [[u8 x3]]), AV.d (i64 i), AV.d (i64 (IntKind.wrap IntKind.i64 (k + (1 : Int)))), AV.bad, AV.bad, AV.bad, AV.bad, AV.bad, AV.bad, AV.bad, AV.bad, AV.bad, AV.bad, AV.bad, AV.bad, AV.bad, AV.bad, AV.bad, AV.bad, AV.bad, AV.bad, AV.bad, AV.bad, AV.bad, AV.bad, AV.bad, AV.bad, AV.bad, AV.bad, AV.bad, AV.bad, AV.bad, AV.bad, AV.bad, AV.bad, AV.bad, AV.bad, AV.bad, AV.bad, AV.bad, AV.bad, AV.bad, AV.bad, AV.bad, AV.bad, AV.bad, AV.bad, AV.bad, AV.bad, AV.bad, AV.bad] [] b) False) False) False) (BIf (true && decide ((0 : Int) ≤ i)) (∃ (xs6 : List (List Dv)), ps[Int.toNat i]? = some [Dv.sl 1 xs6] ∧ BIf (true && decide ((0 : Int) ≤ k)) (∃ (x9 : Int), xs6[Int.toNat k]? = some [u8 x9] ∧ BIf (x9 != (0 : Int)) (K Exit.ret [AV.d (Dv.sl 1 ps), AV.d (i64 n), AV.bad, AV.bad, AV.d (Dv.s (Value.slice none 0 0)), AV.d (i64 (12 : Int)), AV.own 5 1 o, AV.d (i64 i), AV.d (i64 k), AV.bad, AV.bad, AV.bad, AV.bad, AV.bad, AV.bad, AV.bad, AV.bad, AV.bad, AV.bad, AV.bad, AV.bad, AV.bad, AV.bad, AV.bad, AV.bad, AV.bad, AV.bad, AV.bad, AV.bad, AV.bad, AV.bad, AV.bad, AV.bad, AV.bad, AV.bad, AV.bad, AV.bad, AV.bad, AV.bad, AV.bad, AV.bad, AV.bad, AV.bad, AV.bad, AV.bad, AV.bad, AV.bad, AV.bad, AV.bad, AV.bad, AV.bad, AV.bad, AV.bad, AV.bad, AV.bad, AV.bad, AV.bad] [] b) (K Exit.normal [AV.d (Dv.sl 1 ps), AV.d (i64 n), AV.bad, AV.bad, AV.bad, AV.bad, AV.own 5 1 o, AV.d (i64 i), AV.d (i64 (IntKind.wrap IntKind.i64 (k + (1 : Int)))), AV.bad, AV.bad, AV.bad, AV.bad, AV.bad, AV.bad, AV.bad, AV.bad, AV.bad, AV.bad, AV.bad, AV.bad, AV.bad, AV.bad, AV.bad, AV.bad, AV.bad, AV.bad, AV.bad, AV.bad, AV.bad, AV.bad, AV.bad, AV.bad, AV.bad, AV.bad, AV.bad, AV.bad, AV.bad, AV.bad, AV.bad, AV.bad, AV.bad, AV.bad, AV.bad, AV.bad, AV.bad, AV.bad, AV.bad, AV.bad, AV.bad, AV.bad, AV.bad, AV.bad, AV.bad, AV.bad, AV.bad, AV.bad] [] b)) False) False)) (K (Exit.exit 2) [AV.d (Dv.sl 1 ps), AV.d (i64 n), AV.bad, AV.bad, AV.bad, AV.bad, AV.own 5 1 o, AV.d (i64 i), AV.d (i64 k), AV.bad, AV.bad, AV.bad, AV.bad, AV.bad, AV.bad, AV.bad, AV.bad, AV.bad, AV.bad, AV.bad, AV.bad, AV.bad, AV.bad, AV.bad, AV.bad, AV.bad, AV.bad, AV.bad, AV.bad, AV.bad, AV.bad, AV.bad, AV.bad, AV.bad, AV.bad, AV.bad, AV.bad, AV.bad, AV.bad, AV.bad, AV.bad, AV.bad, AV.bad, AV.bad, AV.bad, AV.bad, AV.bad, AV.bad, AV.bad, AV.bad, AV.bad, AV.bad, AV.bad, AV.bad, AV.bad, AV.bad, AV.bad] [] b)) := by kernel_rfl
end
end Go.Proofs.YtfeemohdpmdaoaaDoor.Am

namespace Go.Proofs.YtfeemohdpmdaoaaDoor.Am
set_option linter.unusedVariables false
open Go Go.RowKit Go.Proofs

theorem pcRSplit (p : List Int) (hl : p.length ≤ 9223372036854775807) : PCall Tryd.prog 14 [.d (.sl 1 (bytesR p))] (if sizedS p.length then .tup [.d (.sl 1 (partsR (splitS p))), .d (i64 0)] else .tup [.d (.sl 1 []), .d (i64 1)]) := by
  refine PCall.ofFnV (n := 100) (u := false) (fun _ => wl14a) mixed TRn_ok SCallsOk.nil (fun Ev => wl14a_ok) Tryd.func14 (by rfl) (by rfl) fun Ev bb => ?_
  rw [rSplit_nf, bytesR_len]
  refine ⟨_, _, rfl, rfl, BIf.of (fun h => ?_) fun h => ⟨p, _, rfl, rfl, rfl, ⟨?_, rfl⟩, fun _ => ?_⟩⟩
  · rw [if_neg (by simpa using h)]
    exact LeV.tups (.cons (.nil rfl) (.cons .rfl .nil))
  · simp [sizedS] at h; omega
  · rw [if_pos (by simpa using h)]; exact .rfl
def cRSplit (args : List AV) (K : AV → Prop) : Prop := ∃ (p : List Int), args = [.d (.sl 1 (bytesR p))] ∧ p.length ≤ 9223372036854775807 ∧ ∃ (z : Bool) (q : List (List Int)), z = sizedS p.length ∧ q = splitS p ∧
  BIf z (K (.tup [.d (.sl 1 (partsR q)), .d (i64 0)])) (K (.tup [.d (.sl 1 []), .d (i64 1)]))
theorem cRSplit_ok : ∀ args K, cRSplit args K → ∃ x, PCall Tryd.prog 14 args x ∧ K x := by
  rintro _ K ⟨p, rfl, hl, z, q, hz, rfl, h⟩
  refine ⟨_, pcRSplit p hl, ?_⟩
  rw [← hz]
  cases z <;> exact h
/-! ### Join -/
def stepJ (n : Nat) : List Int → List Int → Option (List Int)
  | o, [] => some o
  | o, x :: l => if o.length < n then stepJ n (o ++ [x]) l else if x != 0 then none else stepJ n o l
theorem stepJ_eq (n : Nat) : ∀ (l o : List Int), o.length ≤ n → stepJ n o l = if (l.drop (n - o.length)).all (· == 0) = true then some (o ++ l.take (n - o.length)) else none
  | [], o, h => by simp [stepJ]
  | x :: l, o, h => by
    rw [stepJ]
    by_cases h1 : o.length < n
    · rw [if_pos h1, stepJ_eq n l (o ++ [x]) (by simp; omega)]
      have e : n - o.length = (n - (o ++ [x]).length) + 1 := by simp; omega
      rw [e, List.drop_succ_cons, List.take_succ_cons]
      simp
    · have e : n - o.length = 0 := by omega
      rw [if_neg h1, e, List.drop_zero, List.take_zero, List.append_nil, List.all_cons]
      by_cases hx : x = 0
      · subst hx
        rw [if_neg (by simp), stepJ_eq n l o h, e, List.drop_zero, List.take_zero, List.append_nil]; simp
      · rw [if_pos (by simpa using hx), if_neg (by simp [hx])]
theorem stepJ_app (n : Nat) : ∀ (a b o : List Int), stepJ n o (a ++ b) = (stepJ n o a).bind fun o' => stepJ n o' b
  | [], b, o => rfl
  | x :: a, b, o => by
    simp only [List.cons_append, stepJ]
    split
    · exact stepJ_app n a b _
    · split
      · rfl
      · exact stepJ_app n a b o
theorem dropW_nil (f : Int → Bool) : ∀ l : List Int, l.dropWhile f = [] ↔ ∀ x ∈ l, f x = true
  | [] => by simp
  | a :: l => by
    rw [List.dropWhile_cons]
    split
    · rename_i h
      rw [dropW_nil f l]
      refine ⟨fun g x hx => ?_, fun g x hx => g x (List.mem_cons_of_mem _ hx)⟩
      rcases List.mem_cons.1 hx with rfl | hx
      · exact h
      · exact g x hx
    · rename_i h
      exact ⟨fun g => (by cases g), fun g => absurd (g a (List.mem_cons_self ..)) h⟩
def orNil (z : Option (List Int)) : List Int := z.getD []
theorem trimS_all (l : List Int) : (0 < (trimS l).length) ↔ l.all (· == 0) = false := by
  have key : trimS l = [] ↔ ∀ x ∈ l, x = 0 := by
    rw [trimS, dropW_nil]
    constructor
    · intro h x hx
      have hx' : x ∈ l.reverse := List.mem_reverse.2 hx
      rw [← List.takeWhile_append_dropWhile (p := (· == (0 : Int))) (l := l.reverse)] at hx'
      rcases List.mem_append.1 hx' with h1 | h1
      · simpa using (List.all_eq_true.1 (List.all_takeWhile (p := (· == (0 : Int))) (l := l.reverse)) x h1)
      · have := h x (by rw [trimR, List.mem_reverse]; exact h1)
        simpa using this
    · intro h x hx
      rw [trimR, List.mem_reverse] at hx
      have := h x (List.mem_reverse.1 ((List.dropWhile_sublist _).subset hx))
      simp [this]
  constructor
  · intro h
    cases hl : l.all (· == 0) with
    | false => rfl
    | true =>
      have : trimS l = [] := key.2 fun x hx => by simpa using List.all_eq_true.1 hl x hx
      rw [this] at h; simp at h
  · intro h
    apply Classical.byContradiction
    intro hc
    have : trimS l = [] := List.length_eq_zero_iff.1 (by omega)
    have := key.1 this
    have : l.all (· == 0) = true := List.all_eq_true.2 fun x hx => by simp [this x hx]
    rw [this] at h; cases h
set_option maxRecDepth 20000 in
theorem wr16b {Ev : Env Tryd.prog} {b : Ev.β} {Q : Exit → St Ev.β → Prop} (ps : List (List Int)) (n i : Nat) (hn : n ≤ 1000000) (p : List Int) (hp : ps[i]? = some p) (hpl : p.length = 256) : ∀ (rest : List Int) (k : Nat) (o : List Int), p.drop k = rest → k ≤ 256 → o.length ≤ n →
    (∀ z, stepJ n o rest = some z → ∀ k' : Int, Q (.exit 2) ⟨tm16b (partsR ps) n (bytesR z) i k', [], b⟩) →
    (stepJ n o rest = none → ∀ (z : List Int) (k' : Int), Q .ret ⟨((tm16b (partsR ps) n (bytesR z) i k').set 4 nilV).set 5 (.d (i64 12)), [], b⟩) →
    WR Ev lp16b (rest.length + 1) ⟨tm16b (partsR ps) n (bytesR o) i k, [], b⟩ Q
  | [], k, o, hd, hk, ho, h1, h2 => by
    refine WR.ofMaskT [0, 1, 4, 5, 6, 7, 8] mixed (CX.Ok.of (u := false) CallsOk.nil SCallsOk.nil) (k := 100) ?_
    rw [r16b]
    have := drop_nil hd
    exact BIf.f (by simp <;> omega) (h1 o rfl _)
  | x :: rest, k, o, hd, hk, ho, h1, h2 => by
    refine WR.ofMaskT [0, 1, 4, 5, 6, 7, 8] mixed (CX.Ok.of (u := false) CallsOk.nil SCallsOk.nil) (k := 100) ?_
    rw [r16b]
    obtain ⟨hk', hr, hd'⟩ := drop_cons hd
    have hps : (partsR ps)[Int.toNat (i : Int)]? = some [.sl 1 (bytesR p)] := by rw [Int.toNat_natCast]; simp [partsR, hp]
    have hx : (bytesR p)[Int.toNat (k : Int)]? = some [u8 x] := by rw [Int.toNat_natCast]; simp [bytesR, hr]
    refine BIf.t (by simp <;> omega) ?_
    by_cases hlt : o.length < n
    · rw [stepJ, if_pos hlt] at h1 h2
      refine BIf.t (by rw [bytesR_len]; simp <;> omega) (BIf.t (by simp) ⟨_, hps, BIf.t (by simp) ⟨x, hx, BIf.t (by rw [bytesR_len]; simp <;> omega) ?_⟩⟩)
      rw [bytes_app, wrap_succ (n := 256) (by omega) (by omega)]
      exact wr16b ps n i hn p hp hpl rest (k + 1) (o ++ [x]) hd' (by omega) (by simp; omega) h1 h2
    · rw [stepJ, if_neg hlt] at h1 h2
      refine BIf.f (by rw [bytesR_len]; simp <;> omega) (BIf.t (by simp) ⟨_, hps, BIf.t (by simp) ⟨x, hx, BIf.of (fun g => ?_) fun g => ?_⟩⟩)
      · rw [if_pos g] at h2
        exact h2 rfl o _
      · rw [if_neg (by rw [g]; simp)] at h1 h2
        rw [wrap_succ (n := 256) (by omega) (by omega)]
        exact wr16b ps n i hn p hp hpl rest (k + 1) o hd' (by omega) ho h1 h2
def wl16b {β : Type} : WLT β := fun c tm hp b K => ∃ (ps : List (List Int)) (n i : Nat) (o : List Int) (z : Option (List Int)), c = .loop lp16b ∧ maskTm [0, 1, 6, 7, 8] 0 tm = tm16b (partsR ps) n (bytesR o) i 0 ∧ hp = [] ∧ ((n ≤ 1000000 ∧ o.length ≤ n ∧ i < ps.length ∧ ∀ p ∈ ps, p.length = 256) ∧ z = stepJ n o (nthL ps i)) ∧
  BIf z.isNone (∀ (o' : List Int) (k : Int), K .ret (((tm16b (partsR ps) n (bytesR o') i k).set 4 nilV).set 5 (.d (i64 12))) [] b) (∀ k : Int, K (.exit 2) (tm16b (partsR ps) n (bytesR (orNil z)) i k) [] b)
theorem wl16b_ok {Ev : Env Tryd.prog} (c : Code) (tm : List AV) (hp : List Blk) (b : Ev.β) (K : Exit → List AV → List Blk → Ev.β → Prop) (h : wl16b c tm hp b K) : W Ev c ⟨tm, hp, b⟩ (fun e s => K e s.tm s.hp s.b) := by
  obtain ⟨ps, n, i, o, z, rfl, htm, rfl, ⟨⟨hn, ho, hi, hps⟩, hz⟩, hK⟩ := h
  refine W.cast (htm ▸ maskTm_le _ tm 0) (LeH.refl _) ?_
  have hp : ps[i]? = some (nthL ps i) := by simp [nthL, hi]
  refine W.rounds (wr16b (Q := fun e s => K e s.tm s.hp s.b) ps n i hn (nthL ps i) hp (hps _ (nthL_mem hi)) _ 0 o rfl (Nat.zero_le _) ho (fun z' h => ?_) fun h => ?_)
  · rw [List.drop_zero] at h; rw [hz, h] at hK; exact hK
  · rw [List.drop_zero] at h; rw [hz, h] at hK; exact hK
section
variable {β : Type} (wl : WLT β) (y : YieldT β) (b : β) (R : AV → β → Prop) (K : Exit → List AV → List Blk → β → Prop)
theorem r16a (ps : List (List Dv)) (n : Int) (o : List (List Dv)) (i : Int) : wpc Tryd.prog ⟨[], [], wl16b, y, false⟩ 100 lp16a (tm16a ps n o i) [] b (maskT [0, 1, 4, 5, 6, 7] K) = ( BIf (decide (i < ((List.length ps : Nat) : Int))) (∃ (ps0 : List (List Int)), ∃ (n1 : Nat), ∃ (i2 : Nat), ∃ (o3 : List Int), ∃ (z4 : Option (List Int)), Code.loop lp16b = Code.loop lp16b ∧ [AV.d (Dv.sl 1 ps), AV.d (i64 n), AV.bad, AV.bad, AV.bad, AV.bad, AV.own 5 1 o, AV.d (i64 i), AV.d (i64 (0 : Int)), AV.bad, AV.bad, AV.bad, AV.bad, AV.bad, AV.bad, AV.bad, AV.bad, AV.bad, AV.bad, AV.bad, AV.bad, AV.bad, AV.bad, AV.bad, AV.bad, AV.bad, AV.bad, AV.bad, AV.bad, AV.bad, AV.bad, AV.bad, AV.bad, AV.bad, AV.bad, AV.bad, AV.bad, AV.bad, AV.bad, AV.bad, AV.bad, AV.bad, AV.bad, AV.bad, AV.bad, AV.bad, AV.bad, AV.bad, AV.bad, AV.bad, AV.bad, AV.bad, AV.bad, AV.bad, AV.bad, AV.bad, AV.bad] = [AV.d (Dv.sl 1 (partsR ps0)), AV.d (i64 (n1 : Int)), AV.bad, AV.bad, AV.bad, AV.bad, AV.own 5 1 (bytesR o3), AV.d (i64 (i2 : Int)), AV.d (i64 (0 : Int)), AV.bad, AV.bad, AV.bad, AV.bad, AV.bad, AV.bad, AV.bad, AV.bad, AV.bad, AV.bad, AV.bad, AV.bad, AV.bad, AV.bad, AV.bad, AV.bad, AV.bad, AV.bad, AV.bad, AV.bad, AV.bad, AV.bad, AV.bad, AV.bad, AV.bad, AV.bad, AV.bad, AV.bad, AV.bad, AV.bad, AV.bad, AV.bad, AV.bad, AV.bad, AV.bad, AV.bad, AV.bad, AV.bad, AV.bad, AV.bad, AV.bad, AV.bad, AV.bad, AV.bad, AV.bad, AV.bad, AV.bad, AV.bad] ∧ ([] : List Blk) = [] ∧ ((n1 ≤ 1000000 ∧ List.length o3 ≤ n1 ∧ i2 < List.length ps0 ∧ ∀ (p : List Int), p ∈ ps0 → List.length p = 256) ∧ z4 = stepJ n1 o3 (nthL ps0 i2)) ∧ BIf (Option.isNone z4) (∀ (o' : List Int) (k : Int), K Exit.ret [AV.d (Dv.sl 1 (partsR ps0)), AV.d (i64 (n1 : Int)), AV.bad, AV.bad, AV.d (Dv.s (Value.slice none 0 0)), AV.d (i64 (12 : Int)), AV.own 5 1 (bytesR o'), AV.d (i64 (i2 : Int)), AV.bad, AV.bad, AV.bad, AV.bad, AV.bad, AV.bad, AV.bad, AV.bad, AV.bad, AV.bad, AV.bad, AV.bad, AV.bad, AV.bad, AV.bad, AV.bad, AV.bad, AV.bad, AV.bad, AV.bad, AV.bad, AV.bad, AV.bad, AV.bad, AV.bad, AV.bad, AV.bad, AV.bad, AV.bad, AV.bad, AV.bad, AV.bad, AV.bad, AV.bad, AV.bad, AV.bad, AV.bad, AV.bad, AV.bad, AV.bad, AV.bad, AV.bad, AV.bad, AV.bad, AV.bad, AV.bad, AV.bad, AV.bad, AV.bad] [] b) (∀ (k : Int), K Exit.normal [AV.d (Dv.sl 1 (partsR ps0)), AV.d (i64 (n1 : Int)), AV.bad, AV.bad, AV.bad, AV.bad, AV.own 5 1 (bytesR (orNil z4)), AV.d (i64 (IntKind.wrap IntKind.i64 ((i2 : Int) + (1 : Int)))), AV.bad, AV.bad, AV.bad, AV.bad, AV.bad, AV.bad, AV.bad, AV.bad, AV.bad, AV.bad, AV.bad, AV.bad, AV.bad, AV.bad, AV.bad, AV.bad, AV.bad, AV.bad, AV.bad, AV.bad, AV.bad, AV.bad, AV.bad, AV.bad, AV.bad, AV.bad, AV.bad, AV.bad, AV.bad, AV.bad, AV.bad, AV.bad, AV.bad, AV.bad, AV.bad, AV.bad, AV.bad, AV.bad, AV.bad, AV.bad, AV.bad, AV.bad, AV.bad, AV.bad, AV.bad, AV.bad, AV.bad, AV.bad, AV.bad] [] b)) (K (Exit.exit 0) [AV.d (Dv.sl 1 ps), AV.d (i64 n), AV.bad, AV.bad, AV.bad, AV.bad, AV.own 5 1 o, AV.d (i64 i), AV.bad, AV.bad, AV.bad, AV.bad, AV.bad, AV.bad, AV.bad, AV.bad, AV.bad, AV.bad, AV.bad, AV.bad, AV.bad, AV.bad, AV.bad, AV.bad, AV.bad, AV.bad, AV.bad, AV.bad, AV.bad, AV.bad, AV.bad, AV.bad, AV.bad, AV.bad, AV.bad, AV.bad, AV.bad, AV.bad, AV.bad, AV.bad, AV.bad, AV.bad, AV.bad, AV.bad, AV.bad, AV.bad, AV.bad, AV.bad, AV.bad, AV.bad, AV.bad, AV.bad, AV.bad, AV.bad, AV.bad, AV.bad, AV.bad] [] b)) := by kernel_rfl
end
end Go.Proofs.YtfeemohdpmdaoaaDoor.Am

namespace Go.Proofs.YtfeemohdpmdaoaaDoor.Am
set_option linter.unusedVariables false
open Go Go.RowKit Go.Proofs

theorem stepJ_le {n : Nat} {l o z : List Int} (h : stepJ n o l = some z) (ho : o.length ≤ n) : z.length ≤ n := by
  rw [stepJ_eq n l o ho] at h
  split at h
  · cases h; simp; omega
  · cases h
set_option maxRecDepth 20000 in
theorem wr16a {Ev : Env Tryd.prog} {b : Ev.β} {Q : Exit → St Ev.β → Prop} (ps : List (List Int)) (n : Nat) (hn : n ≤ 1000000) (hps : ∀ p ∈ ps, p.length = 256) (hl : ps.length ≤ 1000000) : ∀ (rest : List (List Int)) (k : Nat) (o : List Int), ps.drop k = rest → k ≤ ps.length → o.length ≤ n →
    (∀ z, stepJ n o rest.flatten = some z → ∀ k' : Int, Q (.exit 0) ⟨tm16a (partsR ps) n (bytesR z) k', [], b⟩) →
    (stepJ n o rest.flatten = none → ∀ (z : List Int) (k' : Int), Q .ret ⟨((tm16a (partsR ps) n (bytesR z) k').set 4 nilV).set 5 (.d (i64 12)), [], b⟩) →
    WR Ev lp16a (rest.length + 1) ⟨tm16a (partsR ps) n (bytesR o) k, [], b⟩ Q
  | [], k, o, hd, hk, ho, h1, h2 => by
    refine WR.ofMaskT [0, 1, 4, 5, 6, 7] mixed (CX.Ok.ofWl (wl := wl16b) (u := false) CallsOk.nil SCallsOk.nil wl16b_ok) (k := 100) ?_
    rw [r16a, partsR_len]
    have := drop_nil hd
    exact BIf.f (by simp <;> omega) (h1 o rfl _)
  | p :: rest, k, o, hd, hk, ho, h1, h2 => by
    refine WR.ofMaskT [0, 1, 4, 5, 6, 7] mixed (CX.Ok.ofWl (wl := wl16b) (u := false) CallsOk.nil SCallsOk.nil wl16b_ok) (k := 100) ?_
    rw [r16a, partsR_len]
    obtain ⟨hk', hr, hd'⟩ := drop_cons hd
    have hnth : nthL ps k = p := by simp [nthL, hr]
    rw [List.flatten_cons, stepJ_app] at h1 h2
    refine BIf.t (by simp <;> omega) ⟨ps, n, k, o, _, rfl, rfl, rfl, ⟨⟨hn, ho, hk', hps⟩, rfl⟩, ?_⟩
    rw [hnth]
    cases hs : stepJ n o p with
    | none =>
      rw [hs] at h2
      exact BIf.t rfl fun o' k' => h2 rfl o' _
    | some z =>
      rw [hs] at h1 h2
      refine BIf.f rfl fun k' => ?_
      rw [wrap_succ hk' (by omega)]
      exact wr16a ps n hn hps hl rest (k + 1) z hd' hk' (stepJ_le hs ho) h1 h2
def wl16a {β : Type} : WLT β := fun c tm hp b K => ∃ (ps : List (List Int)) (n : Nat) (z : Option (List Int)), c = .loop lp16a ∧ maskTm [0, 1, 6, 7] 0 tm = (tm16a (partsR ps) n [] 0).set 6 nilV ∧ hp = [] ∧ ((n ≤ 1000000 ∧ ps.length ≤ 1000000 ∧ ∀ p ∈ ps, p.length = 256) ∧ z = stepJ n [] ps.flatten) ∧
  BIf z.isNone (∀ (o' : List Int) (k : Int), K .ret (((tm16a (partsR ps) n (bytesR o') k).set 4 nilV).set 5 (.d (i64 12))) [] b) (∀ k : Int, K (.exit 0) (tm16a (partsR ps) n (bytesR (orNil z)) k) [] b)
theorem wl16a_ok {Ev : Env Tryd.prog} (c : Code) (tm : List AV) (hp : List Blk) (b : Ev.β) (K : Exit → List AV → List Blk → Ev.β → Prop) (h : wl16a c tm hp b K) : W Ev c ⟨tm, hp, b⟩ (fun e s => K e s.tm s.hp s.b) := by
  obtain ⟨ps, n, z, rfl, htm, rfl, ⟨⟨hn, hl, hps⟩, hz⟩, hK⟩ := h
  refine W.cast (htm ▸ maskTm_le _ tm 0) (LeH.refl _) ?_
  refine W.cast (tm' := tm16a (partsR ps) n (bytesR []) 0) (LeL.at [_, _, _, _, _, _] _ (LeA.nilOwn rfl)) (LeH.refl _) ?_
  refine W.rounds (wr16a (Q := fun e s => K e s.tm s.hp s.b) ps n hn hps hl _ 0 [] rfl (Nat.zero_le _) (Nat.zero_le _) (fun z' h => ?_) fun h => ?_)
  · rw [List.drop_zero] at h; rw [hz, h] at hK; exact hK
  · rw [List.drop_zero] at h; rw [hz, h] at hK; exact hK
def TRj : List (Nat × (List AV → (AV → Prop) → Prop)) := [(35, cRSize), (27, cRCount), (40, cRPages)]
theorem TRj_ok : CallsOk Tryd.prog TRj := CallsOk.cons cRSize_ok (CallsOk.cons cRCount_ok (CallsOk.cons cRPages_ok CallsOk.nil))
def TRa : List (Nat × (List AV → (AV → Prop) → Prop)) := [(43, cRNotice), (14, cRSplit), (44, cTRoot)]
theorem TRa_ok : CallsOk Tryd.prog TRa := CallsOk.cons cRNotice_ok (CallsOk.cons cRSplit_ok (CallsOk.cons cTRoot_ok CallsOk.nil))
section
variable {β : Type} (wl : WLT β) (y : YieldT β) (b : β) (R : AV → β → Prop) (K : Exit → List AV → List Blk → β → Prop)
theorem rJoin_nf (ps : List (List Dv)) (n : Int) : wpFn Tryd.prog ⟨TRj, [], wl16a, y, false⟩ 100 Tryd.f16 [.d (.sl 1 ps), .d (i64 n)] b R = ( ∃ (n0 : Int), ∃ (z1 : Bool), [AV.d (i64 n)] = [AV.d (i64 n0)] ∧ z1 = sizedS n0 ∧ BIf (!z1) (R (AV.tup [AV.d (Dv.s (Value.slice none 0 0)), AV.d (i64 (1 : Int))]) b) (∃ (n2 : Int), ∃ (z3 : Int), [AV.d (i64 n)] = [AV.d (i64 n2)] ∧ z3 = countS n2 ∧ BIf (((List.length ps : Nat) : Int) != z3) (R (AV.tup [AV.d (Dv.s (Value.slice none 0 0)), AV.d (i64 (1 : Int))]) b) (∃ (ps4 : List (List Int)), ∃ (z5 : Bool), [AV.d (Dv.sl 1 ps)] = [AV.d (Dv.sl 1 (partsR ps4))] ∧ (List.length ps4 ≤ 9223372036854775807 ∧ z5 = !anyOther ps4) ∧ BIf (!z5) (R (AV.tup [AV.d (Dv.s (Value.slice none 0 0)), AV.d (i64 (1 : Int))]) b) (∃ (ps6 : List (List Int)), ∃ (n7 : Nat), ∃ (z8 : Option (List Int)), Code.loop lp16a = Code.loop lp16a ∧ [AV.d (Dv.sl 1 ps), AV.d (i64 n), AV.bad, AV.bad, AV.bad, AV.bad, AV.d (Dv.s (Value.slice none 0 0)), AV.d (i64 (0 : Int)), AV.bad, AV.bad, AV.bad, AV.bad, AV.bad, AV.bad, AV.bad, AV.bad, AV.bad, AV.bad, AV.bad, AV.bad, AV.bad, AV.bad, AV.bad, AV.bad, AV.bad, AV.bad, AV.bad, AV.bad, AV.bad, AV.bad, AV.bad, AV.bad, AV.bad, AV.bad, AV.bad, AV.bad, AV.bad, AV.bad, AV.bad, AV.bad, AV.bad, AV.bad, AV.bad, AV.bad, AV.bad, AV.bad, AV.bad, AV.bad, AV.bad, AV.bad, AV.bad, AV.bad, AV.bad, AV.bad, AV.bad, AV.bad, AV.bad] = [AV.d (Dv.sl 1 (partsR ps6)), AV.d (i64 (n7 : Int)), AV.bad, AV.bad, AV.bad, AV.bad, AV.d (Dv.s (Value.slice none 0 0)), AV.d (i64 (0 : Int)), AV.bad, AV.bad, AV.bad, AV.bad, AV.bad, AV.bad, AV.bad, AV.bad, AV.bad, AV.bad, AV.bad, AV.bad, AV.bad, AV.bad, AV.bad, AV.bad, AV.bad, AV.bad, AV.bad, AV.bad, AV.bad, AV.bad, AV.bad, AV.bad, AV.bad, AV.bad, AV.bad, AV.bad, AV.bad, AV.bad, AV.bad, AV.bad, AV.bad, AV.bad, AV.bad, AV.bad, AV.bad, AV.bad, AV.bad, AV.bad, AV.bad, AV.bad, AV.bad, AV.bad, AV.bad, AV.bad, AV.bad, AV.bad, AV.bad] ∧ ([] : List Blk) = [] ∧ ((n7 ≤ 1000000 ∧ List.length ps6 ≤ 1000000 ∧ ∀ (p : List Int), p ∈ ps6 → List.length p = 256) ∧ z8 = stepJ n7 [] (List.flatten ps6)) ∧ BIf (Option.isNone z8) (∀ (o' : List Int) (k : Int), R (AV.tup [AV.d (Dv.s (Value.slice none 0 0)), AV.d (i64 (12 : Int))]) b) (∀ (k : Int), R (AV.tup [AV.d (Dv.sl 1 (bytesR (orNil z8))), AV.d (i64 (0 : Int))]) b))))) := by kernel_rfl
theorem rAnn_nf (v t : Int) (p : List (List Dv)) : wpFn Tryd.prog ⟨TRa, [], wl, y, false⟩ 100 Tryd.f18 [.d (i64 v), .d (.sl 1 p), .d (i64 t)] b R = ( ∃ (a0 : Int), ∃ (n1 : Int), ∃ (r2 : Int), ∃ (t3 : Int), ∃ (z4 : Bool), [AV.agg [AV.d (i64 v), AV.d (i64 ((List.length p : Nat) : Int)), AV.d (u64 (0 : Int)), AV.d (i64 t)]] = [AV.agg [AV.d (i64 a0), AV.d (i64 n1), AV.d (u64 r2), AV.d (i64 t3)]] ∧ z4 = announcedS a0 n1 t3 ∧ BIf (!z4) (R (AV.tup [AV.agg [AV.d (i64 (0 : Int)), AV.d (i64 (0 : Int)), AV.d (u64 (0 : Int)), AV.d (i64 (0 : Int))], AV.d (i64 (1 : Int))]) b) (∃ (p5 : List Int), [AV.d (Dv.sl 1 p)] = [AV.d (Dv.sl 1 (bytesR p5))] ∧ List.length p5 ≤ 9223372036854775807 ∧ ∃ (z6 : Bool), ∃ (q7 : List (List Int)), z6 = sizedS ((List.length p5 : Nat) : Int) ∧ q7 = splitS p5 ∧ BIf z6 (∃ (ps8 : List (List Int)), ∃ (z9 : Int × Int), [AV.d (Dv.sl 1 (partsR q7))] = [AV.d (Dv.sl 1 (partsR ps8))] ∧ z9 = rootS ps8 ∧ R (AV.tup [AV.agg [AV.d (i64 v), AV.d (i64 ((List.length p : Nat) : Int)), AV.d (u64 (Prod.fst z9)), AV.d (i64 t)], AV.d (i64 (0 : Int))]) b) (∃ (ps10 : List (List Int)), ∃ (z11 : Int × Int), [AV.d (Dv.sl 1 [])] = [AV.d (Dv.sl 1 (partsR ps10))] ∧ z11 = rootS ps10 ∧ R (AV.tup [AV.agg [AV.d (i64 v), AV.d (i64 ((List.length p : Nat) : Int)), AV.d (u64 (Prod.fst z11)), AV.d (i64 t)], AV.d (i64 (0 : Int))]) b))) := by kernel_rfl
end
/-! ### the reference's Put -/
noncomputable def lp22 : Code := sub [1, 1, 1, 1, 1, 1, 0, 1, 2, 3] (code Tryd.f22)
def tm22 (p q : List (List Dv)) (i : Int) : List AV := [.bad, .d (.sl 1 p), .d (.sl 1 q), .ptr 0 0, .bad, .bad, .ptr 1 0, .bad, .bad, .ptr 2 0, .d (i64 i)] ++ List.replicate 92 .bad
section
variable {β : Type} (wl : WLT β) (y : YieldT β) (b : β) (R : AV → β → Prop) (K : Exit → List AV → List Blk → β → Prop)
theorem r22 (s : SprT) (b1 : Blk) (p q X Y : List (List Dv)) (i : Int) : wpc Tryd.prog ⟨[], [], wl, y, false⟩ 100 lp22 (tm22 p q i) [blkS s, b1, outB s (.own 22 1 X) (.own 29 1 Y)] b (maskT [1, 2, 3, 6, 9, 10] K) = ( BIf (decide (i < ((List.length (partsR (SprT.ps s)) : Nat) : Int))) (BIf (true && decide ((0 : Int) ≤ i)) (∃ (xs0 : List (List Dv)), (partsR (SprT.ps s))[Int.toNat i]? = some [Dv.sl 1 xs0] ∧ BIf (decide (List.length xs0 * 1 ≤ 140737488355328)) (BIf (true && decide ((0 : Int) ≤ i)) (∃ (xs3 : List (List Dv)), (proofsR (SprT.qs s))[Int.toNat i]? = some [Dv.sl 1 xs3] ∧ BIf (decide (List.length xs3 * 8 ≤ 140737488355328)) (BIf (true && decide ((List.length X + 1) * 24 ≤ 140737488355328)) (BIf (true && decide ((List.length Y + 1) * 24 ≤ 140737488355328)) (K Exit.normal [AV.bad, AV.d (Dv.sl 1 p), AV.d (Dv.sl 1 q), AV.ptr 0 0, AV.bad, AV.bad, AV.ptr 1 0, AV.bad, AV.bad, AV.ptr 2 0, AV.d (i64 (IntKind.wrap IntKind.i64 (i + (1 : Int)))), AV.bad, AV.bad, AV.bad, AV.bad, AV.bad, AV.bad, AV.bad, AV.bad, AV.bad, AV.bad, AV.bad, AV.bad, AV.bad, AV.bad, AV.bad, AV.bad, AV.bad, AV.bad, AV.bad, AV.bad, AV.bad, AV.bad, AV.bad, AV.bad, AV.bad, AV.bad, AV.bad, AV.bad, AV.bad, AV.bad, AV.bad, AV.bad, AV.bad, AV.bad, AV.bad, AV.bad, AV.bad, AV.bad, AV.bad, AV.bad, AV.bad, AV.bad, AV.bad, AV.bad, AV.bad, AV.bad, AV.bad, AV.bad, AV.bad, AV.bad, AV.bad, AV.bad, AV.bad, AV.bad, AV.bad, AV.bad, AV.bad, AV.bad, AV.bad, AV.bad, AV.bad, AV.bad, AV.bad, AV.bad, AV.bad, AV.bad, AV.bad, AV.bad, AV.bad, AV.bad, AV.bad, AV.bad, AV.bad, AV.bad, AV.bad, AV.bad, AV.bad, AV.bad, AV.bad, AV.bad, AV.bad, AV.bad, AV.bad, AV.bad, AV.bad, AV.bad, AV.bad, AV.bad, AV.bad, AV.bad, AV.bad, AV.bad] [Blk.mk [AV.d (i64 (NotT.v (SprT.no s))), AV.d (i64 (NotT.n (SprT.no s))), AV.d (u64 (NotT.r (SprT.no s))), AV.d (i64 (NotT.t (SprT.no s))), AV.d (Dv.sl 1 (partsR (SprT.ps s))), AV.d (Dv.sl 1 (proofsR (SprT.qs s))), AV.d (Dv.sl 2 (SprT.rows s)), AV.d (Dv.sl 1 (digR (SprT.pf s))), AV.d (i64 (SprT.i1 s)), AV.d (i64 (SprT.i2 s)), AV.d (i64 (SprT.i3 s)), AV.d (i64 (SprT.i4 s)), AV.d (i64 (SprT.i5 s))] false false 0, b1, Blk.mk [AV.d (i64 (NotT.v (SprT.no s))), AV.d (i64 (NotT.n (SprT.no s))), AV.d (u64 (NotT.r (SprT.no s))), AV.d (i64 (NotT.t (SprT.no s))), AV.own 22 1 (X ++ [[Dv.sl 1 xs0]]), AV.own 29 1 (Y ++ [[Dv.sl 1 xs3]]), AV.d (Dv.s (Value.slice none 0 0)), AV.d (Dv.s (Value.slice none 0 0)), AV.d (i64 (SprT.i1 s)), AV.d (i64 (SprT.i2 s)), AV.d (i64 (SprT.i3 s)), AV.d (i64 (SprT.i4 s)), AV.d (i64 (SprT.i5 s))] false false 0] b) False) False) False) False) False) False) (K (Exit.exit 0) [AV.bad, AV.d (Dv.sl 1 p), AV.d (Dv.sl 1 q), AV.ptr 0 0, AV.bad, AV.bad, AV.ptr 1 0, AV.bad, AV.bad, AV.ptr 2 0, AV.d (i64 i), AV.bad, AV.bad, AV.bad, AV.bad, AV.bad, AV.bad, AV.bad, AV.bad, AV.bad, AV.bad, AV.bad, AV.bad, AV.bad, AV.bad, AV.bad, AV.bad, AV.bad, AV.bad, AV.bad, AV.bad, AV.bad, AV.bad, AV.bad, AV.bad, AV.bad, AV.bad, AV.bad, AV.bad, AV.bad, AV.bad, AV.bad, AV.bad, AV.bad, AV.bad, AV.bad, AV.bad, AV.bad, AV.bad, AV.bad, AV.bad, AV.bad, AV.bad, AV.bad, AV.bad, AV.bad, AV.bad, AV.bad, AV.bad, AV.bad, AV.bad, AV.bad, AV.bad, AV.bad, AV.bad, AV.bad, AV.bad, AV.bad, AV.bad, AV.bad, AV.bad, AV.bad, AV.bad, AV.bad, AV.bad, AV.bad, AV.bad, AV.bad, AV.bad, AV.bad, AV.bad, AV.bad, AV.bad, AV.bad, AV.bad, AV.bad, AV.bad, AV.bad, AV.bad, AV.bad, AV.bad, AV.bad, AV.bad, AV.bad, AV.bad, AV.bad, AV.bad, AV.bad, AV.bad, AV.bad, AV.bad, AV.bad, AV.bad] [Blk.mk [AV.d (i64 (NotT.v (SprT.no s))), AV.d (i64 (NotT.n (SprT.no s))), AV.d (u64 (NotT.r (SprT.no s))), AV.d (i64 (NotT.t (SprT.no s))), AV.d (Dv.sl 1 (partsR (SprT.ps s))), AV.d (Dv.sl 1 (proofsR (SprT.qs s))), AV.d (Dv.sl 2 (SprT.rows s)), AV.d (Dv.sl 1 (digR (SprT.pf s))), AV.d (i64 (SprT.i1 s)), AV.d (i64 (SprT.i2 s)), AV.d (i64 (SprT.i3 s)), AV.d (i64 (SprT.i4 s)), AV.d (i64 (SprT.i5 s))] false false 0, b1, Blk.mk [AV.d (i64 (NotT.v (SprT.no s))), AV.d (i64 (NotT.n (SprT.no s))), AV.d (u64 (NotT.r (SprT.no s))), AV.d (i64 (NotT.t (SprT.no s))), AV.own 22 1 X, AV.own 29 1 Y, AV.d (Dv.s (Value.slice none 0 0)), AV.d (Dv.s (Value.slice none 0 0)), AV.d (i64 (SprT.i1 s)), AV.d (i64 (SprT.i2 s)), AV.d (i64 (SprT.i3 s)), AV.d (i64 (SprT.i4 s)), AV.d (i64 (SprT.i5 s))] false false 0] b)) := by kernel_rfl
end
end Go.Proofs.YtfeemohdpmdaoaaDoor.Am

namespace Go.Proofs.YtfeemohdpmdaoaaDoor.Am
set_option linter.unusedVariables false
open Go Go.RowKit Go.Proofs

theorem pcRJoin (ps : List (List Int)) (n : Int) (hl : ps.length ≤ 9223372036854775807) : PCall Tryd.prog 16 [.d (.sl 1 (partsR ps)), .d (i64 n)] (.tup [.d (.sl 1 (bytesR (joinS ps n).1)), .d (i64 (joinS ps n).2)]) := by
  refine PCall.ofFnV (n := 100) (u := false) (fun _ => wl16a) mixed TRj_ok SCallsOk.nil (fun Ev => wl16a_ok) Tryd.func16 (by rfl) (by rfl) fun Ev bb => ?_
  rw [rJoin_nf, partsR_len]
  have bad : ∀ z : Int, joinS ps n = ([], z) → LeV (AV.tup [AV.d (Dv.s (Value.slice none 0 0)), AV.d (i64 z)]) (.tup [.d (.sl 1 (bytesR (joinS ps n).1)), .d (i64 (joinS ps n).2)]) := by
    intro z h
    rw [h]; exact LeV.tups (.cons (.nil rfl) (.cons .rfl .nil))
  refine ⟨n, _, rfl, rfl, BIf.of (fun g1 => bad 1 (by rw [joinS, if_pos (by rw [g1]; rfl)])) fun g1 => ⟨n, _, rfl, rfl, BIf.of (fun g2 => bad 1 (by rw [joinS, if_pos (by rw [g1, g2]; rfl)])) fun g2 => ⟨ps, _, rfl, ⟨hl, rfl⟩, BIf.of (fun g3 => bad 1 (by rw [joinS, if_pos (by rw [g1, g2]; simpa using g3)])) fun g3 => ?_⟩⟩⟩
  have hz : sizedS n = true := by simpa using g1
  have hc : (ps.length : Int) = countS n := by simpa using g2
  have ho : anyOther ps = false := by simpa using g3
  obtain ⟨k, rfl, hk1, hk2⟩ := sized_nat hz
  rw [countS_eq (by omega)] at hc
  have hgood : ((!sizedS (k : Int)) || (((ps.length : Int) != countS k) || anyOther ps)) = false := by rw [g1, g2, ho]; rfl
  have h256 : ∀ p ∈ ps, p.length = 256 := by
    intro p hp
    rw [anyOther, List.any_eq_false] at ho
    have := ho p hp
    simp at this; omega
  refine ⟨ps, k, _, rfl, rfl, rfl, ⟨⟨by omega, by omega, h256⟩, rfl⟩, ?_⟩
  have hj : joinS ps k = if 0 < (trimS (ps.flatten.drop k)).length then ([], 12) else (ps.flatten.take k, 0) := by
    rw [joinS, if_neg (by rw [hgood]; simp), Int.toNat_natCast]
  rw [stepJ_eq k _ [] (Nat.zero_le _), List.length_nil, Nat.sub_zero, List.nil_append]
  by_cases ht : (ps.flatten.drop k).all (· == 0) = true
  · rw [if_pos ht]
    refine BIf.f rfl fun _ => ?_
    rw [hj, if_neg (by rw [trimS_all, ht]; simp)]
    exact .rfl
  · rw [if_neg ht]
    refine BIf.t rfl fun _ _ => bad 12 ?_
    rw [hj, if_pos ((trimS_all _).2 (by simpa using ht))]
def cRJoin (args : List AV) (K : AV → Prop) : Prop := ∃ (ps : List (List Int)) (n : Int) (z : List Int) (e : Int), args = [.d (.sl 1 (partsR ps)), .d (i64 n)] ∧ (ps.length ≤ 9223372036854775807 ∧ (z, e) = joinS ps n) ∧ K (.tup [.d (.sl 1 (bytesR z)), .d (i64 e)])
theorem cRJoin_ok : ∀ args K, cRJoin args K → ∃ x, PCall Tryd.prog 16 args x ∧ K x := by
  rintro _ K ⟨ps, n, z, e, rfl, ⟨hl, he⟩, h⟩
  have h1 := pcRJoin ps n hl
  rw [← he] at h1
  exact ⟨_, h1, h⟩
theorem split_are {p : List Int} (h : sizedS p.length = true) : areS (splitS p) = true := by
  obtain ⟨k, hk, hk1, hk2⟩ := sized_nat h
  have hl : (splitS p).length = (p.length + 255) / 256 := by rw [split_pieces]; simp
  have ha : anyLong (splitS p) = false := by
    rw [anyLong, List.any_eq_false]
    intro q hq
    rw [split_pieces] at hq
    obtain ⟨i, _, rfl⟩ := List.mem_map.1 hq
    have := padS_len (piece_len p i)
    simp; omega
  rw [areS, ha, hl]
  have : p.length = k := by omega
  rw [decide_eq_true (by omega), decide_eq_true (by omega)]; rfl
theorem split_root {p : List Int} (h : sizedS p.length = true) : (rootS (splitS p)).2 = 0 := by
  rw [rootS, if_pos (split_are h)]
theorem pcRAnnounce (v t : Int) (p : List Int) (hl : p.length ≤ 9223372036854775807) : PCall Tryd.prog 18 [.d (i64 v), .d (.sl 1 (bytesR p)), .d (i64 t)] (.tup [notV (annS v p t).1, .d (i64 (annS v p t).2)]) := by
  refine PCall.ofFn (n := 100) (u := false) mixed TRa_ok SCallsOk.nil Tryd.func18 (by rfl) (by rfl) fun Ev bb => ?_
  rw [rAnn_nf, bytesR_len]
  refine ⟨_, _, _, _, _, rfl, rfl, BIf.of (fun g => ?_) fun g1 => ⟨p, rfl, hl, _, _, rfl, rfl, BIf.of (fun g2 => ⟨_, _, rfl, rfl, ?_⟩) fun g2 => ?_⟩⟩
  · have g : announcedS v p.length t = false := by simpa using g
    rw [annS, g, Bool.and_false]; rfl
  · have g1 : announcedS v p.length t = true := by simpa using g1
    rw [annS, g1, g2, split_root g2]; rfl
  · have g1 : announcedS v p.length t = true := by simpa using g1
    simp only [announcedS, Bool.and_eq_true] at g1
    rw [g1.2.2.1] at g2; cases g2
def cRAnnounce (args : List AV) (K : AV → Prop) : Prop := ∃ (v t : Int) (p : List Int) (z : NotT) (e : Int), args = [.d (i64 v), .d (.sl 1 (bytesR p)), .d (i64 t)] ∧ (p.length ≤ 9223372036854775807 ∧ (z, e) = annS v p t) ∧ K (.tup [notV z, .d (i64 e)])
theorem cRAnnounce_ok : ∀ args K, cRAnnounce args K → ∃ x, PCall Tryd.prog 18 args x ∧ K x := by
  rintro _ K ⟨v, t, p, z, e, rfl, ⟨hl, he⟩, h⟩
  have := pcRAnnounce v t p hl
  rw [← he] at this
  exact ⟨_, this, h⟩
/-! ### Put -/
theorem wr22 {Ev : Env Tryd.prog} {b : Ev.β} {Q : Exit → St Ev.β → Prop} (s : SprT) (b1 : Blk) (p q : List (List Dv)) (hl : s.ps.length ≤ 1000000) (hP : ∀ x ∈ s.ps, x.length ≤ 1000000) (hQ : ∀ x ∈ s.qs, x.length ≤ 1000000) (hlen : s.qs.length = s.ps.length) : ∀ (ps qs : List (List Int)) (k : Nat) (X Y : List (List Int)), s.ps.drop k = ps → s.qs.drop k = qs → k ≤ s.ps.length → X.length ≤ k → Y.length ≤ k →
    (∀ i : Int, Q (.exit 0) ⟨tm22 p q i, [blkS s, b1, outB s (.own 22 1 (partsR (X ++ ps))) (.own 29 1 (proofsR (Y ++ qs)))], b⟩) →
    WR Ev lp22 (ps.length + 1) ⟨tm22 p q k, [blkS s, b1, outB s (.own 22 1 (partsR X)) (.own 29 1 (proofsR Y))], b⟩ Q
  | [], qs, k, X, Y, hd, hd2, hk, hX, hY, h => by
    refine WR.ofMaskT [1, 2, 3, 6, 9, 10] mixed (CX.Ok.of (u := false) CallsOk.nil SCallsOk.nil) (k := 100) ?_
    rw [r22, partsR_len]
    have h1 := drop_nil hd
    have h2 : qs = [] := by rw [← hd2]; exact List.drop_eq_nil_of_le (by omega)
    subst h2
    rw [List.append_nil, List.append_nil] at h
    exact BIf.f (by simp <;> omega) (h _)
  | x :: ps, [], k, X, Y, hd, hd2, hk, hX, hY, h => by
    have h1 := (drop_cons hd).1
    have h2 := drop_nil hd2
    omega
  | x :: ps, z :: qs, k, X, Y, hd, hd2, hk, hX, hY, h => by
    refine WR.ofMaskT [1, 2, 3, 6, 9, 10] mixed (CX.Ok.of (u := false) CallsOk.nil SCallsOk.nil) (k := 100) ?_
    rw [r22, partsR_len]
    obtain ⟨hk', hr, hd'⟩ := drop_cons hd
    obtain ⟨hk2, hr2, hd2'⟩ := drop_cons hd2
    have b1' := hP x (List.mem_of_getElem? hr)
    have b2' := hQ z (List.mem_of_getElem? hr2)
    refine BIf.t (by simp <;> omega) (BIf.t (by simp) ⟨bytesR x, by simp [partsR, hr], BIf.t (by rw [bytesR_len]; simp <;> omega) (BIf.t (by simp) ⟨digR z, by simp [proofsR, hr2], BIf.t (by rw [digR_len]; simp <;> omega) (BIf.t (by simp [partsR_len] <;> omega) (BIf.t (by simp [proofs_len] <;> omega) ?_))⟩)⟩)
    rw [parts_app1, proofs_app1, wrap_succ hk' (by omega)]
    refine wr22 s b1 p q hl hP hQ hlen ps qs (k + 1) (X ++ [x]) (Y ++ [z]) hd' hd2' hk' (by simp; omega) (by simp; omega) fun i => ?_
    have := h i
    rw [List.append_assoc, List.append_assoc]; exact this
theorem three {α : Type} {l : List α} {x y : α} (h0 : l[0]? = some x) (h : l[2]? = some y) (hl : l.length = 3) : ∃ a, l = [x, a, y] := by
  match l, h0, h, hl with
  | [a, b, c], h0, h, _ => simp at h h0; subst h; subst h0; exact ⟨b, rfl⟩
def wl22 {β : Type} : WLT β := fun c tm hp b K => ∃ (s : SprT) (p q : List (List Dv)), c = .loop lp22 ∧ maskTm [1, 2, 3, 6, 9, 10] 0 tm = tm22 p q 0 ∧ (hp[0]? = some (blkS s) ∧ hp[2]? = some (outB s nilV nilV) ∧ hp.length = 3) ∧ (s.ps.length ≤ 1000000 ∧ (∀ x ∈ s.ps, x.length ≤ 1000000) ∧ (∀ x ∈ s.qs, x.length ≤ 1000000) ∧ s.qs.length = s.ps.length) ∧
  ∀ i : Int, K (.exit 0) (tm22 p q i) (hp.set 2 (outB s (.own 22 1 (partsR s.ps)) (.own 29 1 (proofsR s.qs)))) b
theorem wl22_ok {Ev : Env Tryd.prog} (c : Code) (tm : List AV) (hp : List Blk) (b : Ev.β) (K : Exit → List AV → List Blk → Ev.β → Prop) (h : wl22 c tm hp b K) : W Ev c ⟨tm, hp, b⟩ (fun e s => K e s.tm s.hp s.b) := by
  obtain ⟨s, p, q, rfl, htm, ⟨e0, e2, el⟩, ⟨h1, h2, h3, h4⟩, hK⟩ := h
  obtain ⟨b1, rfl⟩ := three e0 e2 el
  refine W.cast (htm ▸ maskTm_le _ tm 0) (hp' := [blkS s, b1, outB s (.own 22 1 (partsR [])) (.own 29 1 (proofsR []))]) (LeH.at [blkS s, b1] [] (.cons .rfl (.cons .rfl (.cons .rfl (.cons .rfl (.cons (LeA.nilOwn rfl) (.cons (LeA.nilOwn rfl) (LeL.refl _)))))))) ?_
  exact W.rounds (wr22 (Q := fun e s => K e s.tm s.hp s.b) s b1 p q h1 h2 h3 h4 _ _ 0 [] [] rfl rfl (Nat.zero_le _) (Nat.zero_le _) (Nat.zero_le _) hK)
def T22 : List (Nat × (List AV → (AV → Prop) → Prop)) := [(26, cRSound), (27, cRCount), (51, cTCheck)]
theorem T22_ok : CallsOk Tryd.prog T22 := CallsOk.cons cRSound_ok (CallsOk.cons cRCount_ok (CallsOk.cons cTCheck_ok CallsOk.nil))
section
variable {β : Type} (wl : WLT β) (y : YieldT β) (b : β) (R : AV → β → Prop) (K : Exit → List AV → List Blk → β → Prop)
theorem rPut_nf (s : SprT) (p q : List (List Dv)) : wpFn Tryd.prog ⟨T22, [], wl22, y, false⟩ 100 Tryd.f22 [spV s, .d (.sl 1 p), .d (.sl 1 q)] b R = ( ∃ (s0 : SprT), ∃ (z1 : Bool), [AV.agg [AV.d (i64 (NotT.v (SprT.no s))), AV.d (i64 (NotT.n (SprT.no s))), AV.d (u64 (NotT.r (SprT.no s))), AV.d (i64 (NotT.t (SprT.no s))), AV.d (Dv.sl 1 (partsR (SprT.ps s))), AV.d (Dv.sl 1 (proofsR (SprT.qs s))), AV.d (Dv.sl 2 (SprT.rows s)), AV.d (Dv.sl 1 (digR (SprT.pf s))), AV.d (i64 (SprT.i1 s)), AV.d (i64 (SprT.i2 s)), AV.d (i64 (SprT.i3 s)), AV.d (i64 (SprT.i4 s)), AV.d (i64 (SprT.i5 s))]] = [AV.agg [AV.d (i64 (NotT.v (SprT.no s0))), AV.d (i64 (NotT.n (SprT.no s0))), AV.d (u64 (NotT.r (SprT.no s0))), AV.d (i64 (NotT.t (SprT.no s0))), AV.d (Dv.sl 1 (partsR (SprT.ps s0))), AV.d (Dv.sl 1 (proofsR (SprT.qs s0))), AV.d (Dv.sl 2 (SprT.rows s0)), AV.d (Dv.sl 1 (digR (SprT.pf s0))), AV.d (i64 (SprT.i1 s0)), AV.d (i64 (SprT.i2 s0)), AV.d (i64 (SprT.i3 s0)), AV.d (i64 (SprT.i4 s0)), AV.d (i64 (SprT.i5 s0))]] ∧ (List.length (SprT.ps s0) ≤ 9223372036854775807 ∧ z1 = soundS s0) ∧ BIf (!z1) (R (AV.tup [AV.agg [AV.d (i64 (0 : Int)), AV.d (i64 (0 : Int)), AV.d (u64 (0 : Int)), AV.d (i64 (0 : Int)), AV.d (Dv.s (Value.slice none 0 0)), AV.d (Dv.s (Value.slice none 0 0)), AV.d (Dv.s (Value.slice none 0 0)), AV.d (Dv.s (Value.slice none 0 0)), AV.d (i64 (0 : Int)), AV.d (i64 (0 : Int)), AV.d (i64 (0 : Int)), AV.d (i64 (0 : Int)), AV.d (i64 (0 : Int))], AV.d (i64 (1 : Int))]) b) (BIf (((List.length p : Nat) : Int) != (256 : Int)) (R (AV.tup [AV.agg [AV.d (i64 (0 : Int)), AV.d (i64 (0 : Int)), AV.d (u64 (0 : Int)), AV.d (i64 (0 : Int)), AV.d (Dv.s (Value.slice none 0 0)), AV.d (Dv.s (Value.slice none 0 0)), AV.d (Dv.s (Value.slice none 0 0)), AV.d (Dv.s (Value.slice none 0 0)), AV.d (i64 (0 : Int)), AV.d (i64 (0 : Int)), AV.d (i64 (0 : Int)), AV.d (i64 (0 : Int)), AV.d (i64 (0 : Int))], AV.d (i64 (1 : Int))]) b) (∃ (n2 : Int), ∃ (z3 : Int), [AV.d (i64 (NotT.n (SprT.no s)))] = [AV.d (i64 n2)] ∧ z3 = countS n2 ∧ BIf (((List.length (partsR (SprT.ps s)) : Nat) : Int) == z3) (R (AV.tup [AV.agg [AV.d (i64 (0 : Int)), AV.d (i64 (0 : Int)), AV.d (u64 (0 : Int)), AV.d (i64 (0 : Int)), AV.d (Dv.s (Value.slice none 0 0)), AV.d (Dv.s (Value.slice none 0 0)), AV.d (Dv.s (Value.slice none 0 0)), AV.d (Dv.s (Value.slice none 0 0)), AV.d (i64 (0 : Int)), AV.d (i64 (0 : Int)), AV.d (i64 (0 : Int)), AV.d (i64 (0 : Int)), AV.d (i64 (0 : Int))], AV.d (i64 (10 : Int))]) b) (∃ (r4 : Int), ∃ (n5 : Int), ∃ (i6 : Int), ∃ (p7 : List Int), ∃ (q8 : List Int), ∃ (z9 : Bool), [AV.d (u64 (NotT.r (SprT.no s))), AV.d (i64 z3), AV.d (i64 ((List.length (partsR (SprT.ps s)) : Nat) : Int)), AV.d (Dv.sl 1 p), AV.d (Dv.sl 1 q)] = [AV.d (u64 r4), AV.d (i64 n5), AV.d (i64 i6), AV.d (Dv.sl 1 (bytesR p7)), AV.d (Dv.sl 1 (digR q8))] ∧ z9 = checkS r4 n5 i6 p7 q8 ∧ BIf (!z9) (R (AV.tup [AV.agg [AV.d (i64 (0 : Int)), AV.d (i64 (0 : Int)), AV.d (u64 (0 : Int)), AV.d (i64 (0 : Int)), AV.d (Dv.s (Value.slice none 0 0)), AV.d (Dv.s (Value.slice none 0 0)), AV.d (Dv.s (Value.slice none 0 0)), AV.d (Dv.s (Value.slice none 0 0)), AV.d (i64 (0 : Int)), AV.d (i64 (0 : Int)), AV.d (i64 (0 : Int)), AV.d (i64 (0 : Int)), AV.d (i64 (0 : Int))], AV.d (i64 (12 : Int))]) b) (∃ (s10 : SprT), ∃ (p11 : List (List Dv)), ∃ (q12 : List (List Dv)), Code.loop lp22 = Code.loop lp22 ∧ [AV.bad, AV.d (Dv.sl 1 p), AV.d (Dv.sl 1 q), AV.ptr 0 0, AV.bad, AV.bad, AV.ptr 1 0, AV.bad, AV.bad, AV.ptr 2 0, AV.d (i64 (0 : Int)), AV.bad, AV.bad, AV.bad, AV.bad, AV.bad, AV.bad, AV.bad, AV.bad, AV.bad, AV.bad, AV.bad, AV.bad, AV.bad, AV.bad, AV.bad, AV.bad, AV.bad, AV.bad, AV.bad, AV.bad, AV.bad, AV.bad, AV.bad, AV.bad, AV.bad, AV.bad, AV.bad, AV.bad, AV.bad, AV.bad, AV.bad, AV.bad, AV.bad, AV.bad, AV.bad, AV.bad, AV.bad, AV.bad, AV.bad, AV.bad, AV.bad, AV.bad, AV.bad, AV.bad, AV.bad, AV.bad, AV.bad, AV.bad, AV.bad, AV.bad, AV.bad, AV.bad, AV.bad, AV.bad, AV.bad, AV.bad, AV.bad, AV.bad, AV.bad, AV.bad, AV.bad, AV.bad, AV.bad, AV.bad, AV.bad, AV.bad, AV.bad, AV.bad, AV.bad, AV.bad, AV.bad, AV.bad, AV.bad, AV.bad, AV.bad, AV.bad, AV.bad, AV.bad, AV.bad, AV.bad, AV.bad, AV.bad, AV.bad, AV.bad, AV.bad, AV.bad, AV.bad, AV.bad, AV.bad, AV.bad, AV.bad, AV.bad] = [AV.bad, AV.d (Dv.sl 1 p11), AV.d (Dv.sl 1 q12), AV.ptr 0 0, AV.bad, AV.bad, AV.ptr 1 0, AV.bad, AV.bad, AV.ptr 2 0, AV.d (i64 (0 : Int)), AV.bad, AV.bad, AV.bad, AV.bad, AV.bad, AV.bad, AV.bad, AV.bad, AV.bad, AV.bad, AV.bad, AV.bad, AV.bad, AV.bad, AV.bad, AV.bad, AV.bad, AV.bad, AV.bad, AV.bad, AV.bad, AV.bad, AV.bad, AV.bad, AV.bad, AV.bad, AV.bad, AV.bad, AV.bad, AV.bad, AV.bad, AV.bad, AV.bad, AV.bad, AV.bad, AV.bad, AV.bad, AV.bad, AV.bad, AV.bad, AV.bad, AV.bad, AV.bad, AV.bad, AV.bad, AV.bad, AV.bad, AV.bad, AV.bad, AV.bad, AV.bad, AV.bad, AV.bad, AV.bad, AV.bad, AV.bad, AV.bad, AV.bad, AV.bad, AV.bad, AV.bad, AV.bad, AV.bad, AV.bad, AV.bad, AV.bad, AV.bad, AV.bad, AV.bad, AV.bad, AV.bad, AV.bad, AV.bad, AV.bad, AV.bad, AV.bad, AV.bad, AV.bad, AV.bad, AV.bad, AV.bad, AV.bad, AV.bad, AV.bad, AV.bad, AV.bad, AV.bad, AV.bad, AV.bad, AV.bad, AV.bad, AV.bad] ∧ (some (Blk.mk [AV.d (i64 (NotT.v (SprT.no s))), AV.d (i64 (NotT.n (SprT.no s))), AV.d (u64 (NotT.r (SprT.no s))), AV.d (i64 (NotT.t (SprT.no s))), AV.d (Dv.sl 1 (partsR (SprT.ps s))), AV.d (Dv.sl 1 (proofsR (SprT.qs s))), AV.d (Dv.sl 2 (SprT.rows s)), AV.d (Dv.sl 1 (digR (SprT.pf s))), AV.d (i64 (SprT.i1 s)), AV.d (i64 (SprT.i2 s)), AV.d (i64 (SprT.i3 s)), AV.d (i64 (SprT.i4 s)), AV.d (i64 (SprT.i5 s))] false false 0) = some (Blk.mk [AV.d (i64 (NotT.v (SprT.no s10))), AV.d (i64 (NotT.n (SprT.no s10))), AV.d (u64 (NotT.r (SprT.no s10))), AV.d (i64 (NotT.t (SprT.no s10))), AV.d (Dv.sl 1 (partsR (SprT.ps s10))), AV.d (Dv.sl 1 (proofsR (SprT.qs s10))), AV.d (Dv.sl 2 (SprT.rows s10)), AV.d (Dv.sl 1 (digR (SprT.pf s10))), AV.d (i64 (SprT.i1 s10)), AV.d (i64 (SprT.i2 s10)), AV.d (i64 (SprT.i3 s10)), AV.d (i64 (SprT.i4 s10)), AV.d (i64 (SprT.i5 s10))] false false 0) ∧ some (Blk.mk [AV.d (i64 (NotT.v (SprT.no s))), AV.d (i64 (NotT.n (SprT.no s))), AV.d (u64 (NotT.r (SprT.no s))), AV.d (i64 (NotT.t (SprT.no s))), AV.d (Dv.s (Value.slice none 0 0)), AV.d (Dv.s (Value.slice none 0 0)), AV.d (Dv.s (Value.slice none 0 0)), AV.d (Dv.s (Value.slice none 0 0)), AV.d (i64 (SprT.i1 s)), AV.d (i64 (SprT.i2 s)), AV.d (i64 (SprT.i3 s)), AV.d (i64 (SprT.i4 s)), AV.d (i64 (SprT.i5 s))] false false 0) = some (Blk.mk [AV.d (i64 (NotT.v (SprT.no s10))), AV.d (i64 (NotT.n (SprT.no s10))), AV.d (u64 (NotT.r (SprT.no s10))), AV.d (i64 (NotT.t (SprT.no s10))), AV.d (Dv.s (Value.slice none 0 0)), AV.d (Dv.s (Value.slice none 0 0)), AV.d (Dv.s (Value.slice none 0 0)), AV.d (Dv.s (Value.slice none 0 0)), AV.d (i64 (SprT.i1 s10)), AV.d (i64 (SprT.i2 s10)), AV.d (i64 (SprT.i3 s10)), AV.d (i64 (SprT.i4 s10)), AV.d (i64 (SprT.i5 s10))] false false 0) ∧ 3 = 3) ∧ (List.length (SprT.ps s10) ≤ 1000000 ∧ (∀ (x : List Int), x ∈ SprT.ps s10 → List.length x ≤ 1000000) ∧ (∀ (x : List Int), x ∈ SprT.qs s10 → List.length x ≤ 1000000) ∧ List.length (SprT.qs s10) = List.length (SprT.ps s10)) ∧ ∀ (i : Int), BIf (decide (List.length p11 * 1 ≤ 140737488355328)) (BIf (decide (List.length q12 * 8 ≤ 140737488355328)) (BIf (true && decide ((List.length (partsR (SprT.ps s10)) + 1) * 24 ≤ 140737488355328)) (BIf (true && decide ((List.length (proofsR (SprT.qs s10)) + 1) * 24 ≤ 140737488355328)) (R (AV.tup [AV.agg [AV.d (i64 (NotT.v (SprT.no s10))), AV.d (i64 (NotT.n (SprT.no s10))), AV.d (u64 (NotT.r (SprT.no s10))), AV.d (i64 (NotT.t (SprT.no s10))), AV.d (Dv.sl 1 (partsR (SprT.ps s10) ++ [[Dv.sl 1 p11]])), AV.d (Dv.sl 1 (proofsR (SprT.qs s10) ++ [[Dv.sl 1 q12]])), AV.d (Dv.s (Value.slice none 0 0)), AV.d (Dv.s (Value.slice none 0 0)), AV.d (i64 (SprT.i1 s10)), AV.d (i64 (SprT.i2 s10)), AV.d (i64 (SprT.i3 s10)), AV.d (i64 (SprT.i4 s10)), AV.d (i64 (SprT.i5 s10))], AV.d (i64 (0 : Int))]) b) False) False) False) False))))) := by kernel_rfl
end
end Go.Proofs.YtfeemohdpmdaoaaDoor.Am

namespace Go.Proofs.YtfeemohdpmdaoaaDoor.Am
set_option linter.unusedVariables false
open Go Go.RowKit Go.Proofs

theorem pcRPut (s : SprT) (p q : List Int) (hl : s.ps.length ≤ 9223372036854775807) (hq : q.length ≤ 1000000) (hqs : ∀ x ∈ s.qs, x.length ≤ 1000000) :
    PCall Tryd.prog 22 [spV s, .d (.sl 1 (bytesR p)), .d (.sl 1 (digR q))] (.tup [spV (putS s p q).1, .d (i64 (putS s p q).2)]) := by
  refine PCall.ofFnV (n := 100) (u := false) (fun _ => wl22) mixed T22_ok SCallsOk.nil (fun Ev => wl22_ok) Tryd.func22 (by rfl) (by rfl) fun Ev bb => ?_
  rw [rPut_nf]
  have bad : ∀ e : Int, putS s p q = (zeroSp, e) → LeV (AV.tup [AV.agg [AV.d (i64 (0 : Int)), AV.d (i64 (0 : Int)), AV.d (u64 (0 : Int)), AV.d (i64 (0 : Int)), AV.d (Dv.s (Value.slice none 0 0)), AV.d (Dv.s (Value.slice none 0 0)), AV.d (Dv.s (Value.slice none 0 0)), AV.d (Dv.s (Value.slice none 0 0)), AV.d (i64 (0 : Int)), AV.d (i64 (0 : Int)), AV.d (i64 (0 : Int)), AV.d (i64 (0 : Int)), AV.d (i64 (0 : Int))], AV.d (i64 e)])
      (.tup [spV (putS s p q).1, .d (i64 (putS s p q).2)]) := by
    intro e he
    rw [he]
    exact LeV.tups (.cons (LeV.aggs (.cons .rfl (.cons .rfl (.cons .rfl (.cons .rfl (.cons (.nil rfl) (.cons (.nil rfl) (.cons (.nil rfl) (.cons (.nil rfl) (LeVs.refl _)))))))))) (.cons .rfl .nil))
  have good : ∀ ps' qs', putS s p q = (⟨s.no, ps', qs', [], [], s.i1, s.i2, s.i3, s.i4, s.i5⟩, 0) → LeV (AV.tup [AV.agg [.d (i64 s.no.v), .d (i64 s.no.n), .d (u64 s.no.r), .d (i64 s.no.t), .d (.sl 1 (partsR ps')), .d (.sl 1 (proofsR qs')), AV.d (Dv.s (Value.slice none 0 0)), AV.d (Dv.s (Value.slice none 0 0)), .d (i64 s.i1), .d (i64 s.i2), .d (i64 s.i3), .d (i64 s.i4), .d (i64 s.i5)], AV.d (i64 0)])
      (.tup [spV (putS s p q).1, .d (i64 (putS s p q).2)]) := by
    intro ps' qs' he
    rw [he]
    exact LeV.tups (.cons (LeV.aggs (.cons .rfl (.cons .rfl (.cons .rfl (.cons .rfl (.cons .rfl (.cons .rfl (.cons (.nil rfl) (.cons (.nil rfl) (LeVs.refl _)))))))))) (.cons .rfl .nil))
  refine ⟨s, _, rfl, ⟨hl, rfl⟩, BIf.of (fun g => bad 1 (by rw [putS, if_pos (.inl (by simpa using g))])) fun g1 => BIf.of (fun g => bad 1 (by rw [putS, if_pos (.inr (by rw [bytesR_len] at g; simp at g; omega))])) fun g2 => ⟨_, _, rfl, rfl, BIf.of (fun g => bad 10 ?_) fun g3 => ⟨_, _, _, p, q, _, rfl, rfl, BIf.of (fun g => bad 12 ?_) fun g4 => ?_⟩⟩⟩
  all_goals
    have h1 : soundS s = true := by simpa using g1
    have h2 : p.length = 256 := by rw [bytesR_len] at g2; simp at g2; omega
    have hn : ¬ (soundS s = false ∨ p.length ≠ 256) := by rw [h1, h2]; simp
  · rw [partsR_len] at g
    rw [putS, if_neg hn, if_pos (by simpa using g)]
  · rw [partsR_len] at g3 g
    rw [putS, if_neg hn, if_neg (by simpa using g3), if_pos (by unfold provedS; simpa using g)]
  rw [partsR_len] at g3
  obtain ⟨f1, f2, f3, f4, f5⟩ := sound_facts h1
  have h4 : provedS s s.ps.length p q = true := by rw [partsR_len] at g4; unfold provedS; simpa using g4
  have hput : putS s p q = (⟨s.no, s.ps ++ [p], s.qs ++ [q], [], [], s.i1, s.i2, s.i3, s.i4, s.i5⟩, 0) := by
    rw [putS, if_neg hn, if_neg (by simpa using g3), if_neg (by rw [h4]; simp)]
  refine ⟨s, bytesR p, digR q, rfl, rfl, ⟨rfl, rfl, rfl⟩, ⟨by omega, fun x hx => by rw [f3 x hx]; decide, hqs, f2⟩, fun _ => BIf.t (by rw [bytesR_len]; simp <;> omega) (BIf.t (by rw [digR_len]; simp <;> omega) (BIf.t (by simp [partsR_len] <;> omega) (BIf.t (by simp [proofs_len] <;> omega) ?_)))⟩
  rw [parts_app1, proofs_app1]
  exact good _ _ hput
def cRPut (args : List AV) (K : AV → Prop) : Prop := ∃ (s : SprT) (p q : List Int) (z : SprT) (e : Int), args = [spV s, .d (.sl 1 (bytesR p)), .d (.sl 1 (digR q))] ∧ ((s.ps.length ≤ 9223372036854775807 ∧ q.length ≤ 1000000 ∧ ∀ x ∈ s.qs, x.length ≤ 1000000) ∧ (z, e) = putS s p q) ∧ K (.tup [spV z, .d (i64 e)])
theorem cRPut_ok : ∀ args K, cRPut args K → ∃ x, PCall Tryd.prog 22 args x ∧ K x := by
  rintro _ K ⟨s, p, q, z, e, rfl, ⟨⟨h1, h2, h3⟩, he⟩, h⟩
  have := pcRPut s p q h1 h2 h3
  rw [← he] at this
  exact ⟨_, this, h⟩
def TRw : List (Nat × (List AV → (AV → Prop) → Prop)) := [(26, cRSound), (16, cRJoin)]
theorem TRw_ok : CallsOk Tryd.prog TRw := CallsOk.cons cRSound_ok (CallsOk.cons cRJoin_ok CallsOk.nil)
def TRe : List (Nat × (List AV → (AV → Prop) → Prop)) := [(19, cLists), (52, cRProofs), (28, cTSame), (20, cBytes)]
theorem TRe_ok : CallsOk Tryd.prog TRe := CallsOk.cons cLists_ok (CallsOk.cons cRProofs_ok (CallsOk.cons cTSame_ok (CallsOk.cons cBytes_ok CallsOk.nil)))
def spE (s : SprT) : AV := .agg [.d (i64 s.no.v), .d (i64 s.no.n), .d (u64 s.no.r), .d (i64 s.no.t), .d (.sl 1 (partsR s.ps)), .d (.sl 1 (proofsR s.qs)), .d (.sl 2 []), .d (.sl 1 (digR s.pf)), .d (i64 s.i1), .d (i64 s.i2), .d (i64 s.i3), .d (i64 s.i4), .d (i64 s.i5)]
section
variable {β : Type} (wl : WLT β) (y : YieldT β) (b : β) (R : AV → β → Prop) (K : Exit → List AV → List Blk → β → Prop)
theorem rWhole_nf (s : SprT) : wpFn Tryd.prog ⟨TRw, [], wl, y, false⟩ 100 Tryd.f24 [spV s] b R = ( ∃ (s0 : SprT), ∃ (z1 : Bool), [AV.agg [AV.d (i64 (NotT.v (SprT.no s))), AV.d (i64 (NotT.n (SprT.no s))), AV.d (u64 (NotT.r (SprT.no s))), AV.d (i64 (NotT.t (SprT.no s))), AV.d (Dv.sl 1 (partsR (SprT.ps s))), AV.d (Dv.sl 1 (proofsR (SprT.qs s))), AV.d (Dv.sl 2 (SprT.rows s)), AV.d (Dv.sl 1 (digR (SprT.pf s))), AV.d (i64 (SprT.i1 s)), AV.d (i64 (SprT.i2 s)), AV.d (i64 (SprT.i3 s)), AV.d (i64 (SprT.i4 s)), AV.d (i64 (SprT.i5 s))]] = [AV.agg [AV.d (i64 (NotT.v (SprT.no s0))), AV.d (i64 (NotT.n (SprT.no s0))), AV.d (u64 (NotT.r (SprT.no s0))), AV.d (i64 (NotT.t (SprT.no s0))), AV.d (Dv.sl 1 (partsR (SprT.ps s0))), AV.d (Dv.sl 1 (proofsR (SprT.qs s0))), AV.d (Dv.sl 2 (SprT.rows s0)), AV.d (Dv.sl 1 (digR (SprT.pf s0))), AV.d (i64 (SprT.i1 s0)), AV.d (i64 (SprT.i2 s0)), AV.d (i64 (SprT.i3 s0)), AV.d (i64 (SprT.i4 s0)), AV.d (i64 (SprT.i5 s0))]] ∧ (List.length (SprT.ps s0) ≤ 9223372036854775807 ∧ z1 = soundS s0) ∧ BIf (!z1) (R (AV.tup [AV.d (Dv.s (Value.slice none 0 0)), AV.d (bo false)]) b) (∃ (ps2 : List (List Int)), ∃ (n3 : Int), ∃ (z4 : List Int), ∃ (e5 : Int), [AV.d (Dv.sl 1 (partsR (SprT.ps s))), AV.d (i64 (NotT.n (SprT.no s)))] = [AV.d (Dv.sl 1 (partsR ps2)), AV.d (i64 n3)] ∧ (List.length ps2 ≤ 9223372036854775807 ∧ (z4, e5) = joinS ps2 n3) ∧ R (AV.tup [AV.d (Dv.sl 1 (bytesR z4)), AV.d (bo (e5 == (0 : Int)))]) b)) := by kernel_rfl
theorem rSame_nf (s s' : SprT) : wpFn Tryd.prog ⟨TRe, [], wl, y, true⟩ 100 Tryd.f25 [spE s, spE s'] b R = ( BIf (!(NotT.v (SprT.no s) == NotT.v (SprT.no s') && (NotT.n (SprT.no s) == NotT.n (SprT.no s') && (NotT.r (SprT.no s) == NotT.r (SprT.no s') && (NotT.t (SprT.no s) == NotT.t (SprT.no s') && true))))) (R (AV.d (bo false)) b) (BIf (!(SprT.i1 s == SprT.i1 s' && (SprT.i2 s == SprT.i2 s' && (SprT.i3 s == SprT.i3 s' && (SprT.i4 s == SprT.i4 s' && (SprT.i5 s == SprT.i5 s' && true)))))) (R (AV.d (bo false)) b) (∃ (a0 : List (List Int)), ∃ (c1 : List (List Int)), ∃ (z2 : Bool), [AV.d (Dv.sl 1 (partsR (SprT.ps s))), AV.d (Dv.sl 1 (partsR (SprT.ps s')))] = [AV.d (Dv.sl 1 (partsR a0)), AV.d (Dv.sl 1 (partsR c1))] ∧ ((List.length a0 ≤ 9223372036854775807 ∧ ∀ (p : List Int), p ∈ a0 → List.length p ≤ 9223372036854775807) ∧ z2 = decide (a0 = c1)) ∧ BIf (!z2) (R (AV.d (bo false)) b) (∃ (a5 : List (List Int)), ∃ (c6 : List (List Int)), ∃ (z7 : Bool), [AV.d (Dv.sl 1 (proofsR (SprT.qs s))), AV.d (Dv.sl 1 (proofsR (SprT.qs s')))] = [AV.d (Dv.sl 1 (proofsR a5)), AV.d (Dv.sl 1 (proofsR c6))] ∧ ((List.length a5 ≤ 9223372036854775807 ∧ ∀ (p : List Int), p ∈ a5 → List.length p ≤ 9223372036854775807) ∧ z7 = decide (a5 = c6)) ∧ BIf (!z7) (R (AV.d (bo false)) b) (∃ (a10 : List Int), ∃ (c11 : List Int), ∃ (z12 : Bool), [AV.d (Dv.sl 1 (digR (SprT.pf s))), AV.d (Dv.sl 1 (digR (SprT.pf s')))] = [AV.d (Dv.sl 1 (digR a10)), AV.d (Dv.sl 1 (digR c11))] ∧ (List.length a10 ≤ 9223372036854775807 ∧ z12 = decide (a10 = c11)) ∧ BIf (!z12) (R (AV.d (bo false)) b) (R (AV.d (bo true)) b)))))) := by kernel_rfl
end
end Go.Proofs.YtfeemohdpmdaoaaDoor.Am

namespace Go.Proofs.YtfeemohdpmdaoaaDoor.Am
set_option linter.unusedVariables false
open Go Go.RowKit Go.Proofs

theorem pcRWhole (s : SprT) (hl : s.ps.length ≤ 9223372036854775807) : PCall Tryd.prog 24 [spV s] (.tup [.d (.sl 1 (bytesR (wholeS s).1)), .d (bo (wholeS s).2)]) := by
  refine PCall.ofFnV (n := 100) (u := false) (fun _ => wlNo _) mixed TRw_ok SCallsOk.nil (fun Ev => wlNo_ok Ev) Tryd.func24 (by rfl) (by rfl) fun Ev bb => ?_
  rw [rWhole_nf]
  refine ⟨s, _, rfl, ⟨hl, rfl⟩, BIf.of (fun g => ?_) fun g => ⟨s.ps, s.no.n, _, _, rfl, ⟨hl, rfl⟩, ?_⟩⟩
  · rw [wholeS, if_neg (by rw [show soundS s = false by simpa using g]; simp)]
    exact LeV.tups (.cons (.nil rfl) (.cons .rfl .nil))
  · rw [wholeS, if_pos (show soundS s = true by simpa using g)]
    exact .rfl
def cRWhole (args : List AV) (K : AV → Prop) : Prop := ∃ (s : SprT) (z : List Int) (e : Bool), args = [spV s] ∧ (s.ps.length ≤ 9223372036854775807 ∧ (z, e) = wholeS s) ∧ K (.tup [.d (.sl 1 (bytesR z)), .d (bo e)])
theorem cRWhole_ok : ∀ args K, cRWhole args K → ∃ x, PCall Tryd.prog 24 args x ∧ K x := by
  rintro _ K ⟨s, z, e, rfl, ⟨hl, he⟩, h⟩
  have := pcRWhole s hl
  rw [← he] at this
  exact ⟨_, this, h⟩
/-- states without rows are the same -/
def sameS (s s' : SprT) : Bool := (s.no.v == s'.no.v && (s.no.n == s'.no.n && (s.no.r == s'.no.r && s.no.t == s'.no.t))) && ((s.i1 == s'.i1 && (s.i2 == s'.i2 && (s.i3 == s'.i3 && (s.i4 == s'.i4 && s.i5 == s'.i5)))) && (decide (s.ps = s'.ps) && (decide (s.qs = s'.qs) && decide (s.pf = s'.pf))))
theorem sameS_rfl (s : SprT) : sameS s s = true := by simp [sameS]
theorem pcRSame (s s' : SprT) (h1 : s.rows = []) (h2 : s'.rows = []) (hp : s.ps.length ≤ 9223372036854775807 ∧ ∀ p ∈ s.ps, p.length ≤ 9223372036854775807) (hq : s.qs.length ≤ 9223372036854775807 ∧ ∀ p ∈ s.qs, p.length ≤ 9223372036854775807) (hf : s.pf.length ≤ 9223372036854775807) :
    PCall Tryd.prog 25 [spV s, spV s'] (.d (bo (sameS s s'))) := by
  have e1 : spV s = spE s := by rw [spV, spE, h1]
  have e2 : spV s' = spE s' := by rw [spV, spE, h2]
  rw [e1, e2]
  refine PCall.ofFnW (n := 100) (u := true) (fun _ => wlNo _) mixed TRe_ok SCallsOk.nil (fun Ev => wlNo_ok Ev) Tryd.func25 (by rfl) (by rfl) fun Ev bb => ?_
  rw [rSame_nf]
  have fin : ∀ z : Bool, z = sameS s s' → AV.d (bo z) = .d (bo (sameS s s')) := fun z h => by rw [h]
  refine BIf.of (fun g => fin _ ?_) fun g1 => BIf.of (fun g => fin _ ?_) fun g2 => ⟨s.ps, s'.ps, _, rfl, ⟨hp, rfl⟩, BIf.of (fun g => fin _ ?_) fun g3 => ⟨s.qs, s'.qs, _, rfl, ⟨hq, rfl⟩, BIf.of (fun g => fin _ ?_) fun g4 => ⟨s.pf, s'.pf, _, rfl, ⟨hf, rfl⟩, BIf.of (fun g => fin _ ?_) fun g5 => fin _ ?_⟩⟩⟩
  · simp only [Bool.and_true, Bool.not_eq_true'] at g
    rw [sameS, g]; rfl
  · simp only [Bool.and_true, Bool.not_eq_false', Bool.not_eq_true'] at g g1
    rw [sameS, g1, g]; rfl
  all_goals simp only [Bool.and_true, Bool.not_eq_false', Bool.not_eq_true'] at g1 g2
  · have g : decide (s.ps = s'.ps) = false := by simpa using g
    rw [sameS, g1, g2, g]; rfl
  · have g3 : decide (s.ps = s'.ps) = true := by simpa using g3
    have g : decide (s.qs = s'.qs) = false := by simpa using g
    rw [sameS, g1, g2, g3, g]; rfl
  · have g3 : decide (s.ps = s'.ps) = true := by simpa using g3
    have g4 : decide (s.qs = s'.qs) = true := by simpa using g4
    have g : decide (s.pf = s'.pf) = false := by simpa using g
    rw [sameS, g1, g2, g3, g4, g]; rfl
  · have g3 : decide (s.ps = s'.ps) = true := by simpa using g3
    have g4 : decide (s.qs = s'.qs) = true := by simpa using g4
    have g5 : decide (s.pf = s'.pf) = true := by simpa using g5
    rw [sameS, g1, g2, g3, g4, g5]; rfl
def cRSame (args : List AV) (K : AV → Prop) : Prop := ∃ (s s' : SprT) (z : Bool), args = [spV s, spV s'] ∧ ((s.rows = [] ∧ s'.rows = [] ∧ (s.ps.length ≤ 9223372036854775807 ∧ ∀ p ∈ s.ps, p.length ≤ 9223372036854775807) ∧ (s.qs.length ≤ 9223372036854775807 ∧ ∀ p ∈ s.qs, p.length ≤ 9223372036854775807) ∧ s.pf.length ≤ 9223372036854775807) ∧ z = sameS s s') ∧ K (.d (bo z))
theorem cRSame_ok : ∀ args K, cRSame args K → ∃ x, PCall Tryd.prog 25 args x ∧ K x := by
  rintro _ K ⟨s, s', _, rfl, ⟨⟨h1, h2, h3, h4, h5⟩, rfl⟩, h⟩; exact ⟨_, pcRSame s s' h1 h2 h3 h4 h5, h⟩
/-! ### Split, once more: its results by one name -/
def splitE (p : List Int) : List (List Int) × Int := if sizedS p.length then (splitS p, 0) else ([], 1)
def cSplitE (args : List AV) (K : AV → Prop) : Prop := ∃ (p : List Int) (q : List (List Int)) (e : Int), args = [.d (.sl 1 (bytesR p))] ∧ (p.length ≤ 9223372036854775807 ∧ (q, e) = splitE p) ∧ K (.tup [.d (.sl 1 (partsR q)), .d (i64 e)])
theorem cSplitE_ok : ∀ args K, cSplitE args K → ∃ x, PCall Tryd.prog 13 args x ∧ K x := by
  rintro _ K ⟨p, q, e, rfl, ⟨hl, he⟩, h⟩
  have h1 := pcSplit p hl
  rw [splitE] at he
  split at he
  · rename_i hz
    rw [if_pos hz] at h1
    cases he; exact ⟨_, h1, h⟩
  · rename_i hz
    rw [if_neg hz] at h1
    cases he; exact ⟨_, h1, h⟩
def cRSplitE (args : List AV) (K : AV → Prop) : Prop := ∃ (p : List Int) (q : List (List Int)) (e : Int), args = [.d (.sl 1 (bytesR p))] ∧ (p.length ≤ 9223372036854775807 ∧ (q, e) = splitE p) ∧ K (.tup [.d (.sl 1 (partsR q)), .d (i64 e)])
theorem cRSplitE_ok : ∀ args K, cRSplitE args K → ∃ x, PCall Tryd.prog 14 args x ∧ K x := by
  rintro _ K ⟨p, q, e, rfl, ⟨hl, he⟩, h⟩
  have h1 := pcRSplit p hl
  rw [splitE] at he
  split at he
  · rename_i hz
    rw [if_pos hz] at h1
    cases he; exact ⟨_, h1, h⟩
  · rename_i hz
    rw [if_neg hz] at h1
    cases he; exact ⟨_, h1, h⟩
/-! ### the law's sample -/
noncomputable def lp31 : Code := sub [1, 1, 0, 1, 2, 3] (code Tryd.f31)
def tm31 (n i : Int) : List AV := [.bad, .gref 0 0 300 1, .bad, .bad, .bad, .d (i64 n), .d (i64 i)] ++ List.replicate 10 .bad
def smpF (i : Nat) : Int := IntKind.wrap .u8 (IntKind.wrap .i64 ((i : Int) * 7))
def smpP (k : Nat) : List Int := (List.range k).map smpF ++ List.replicate (300 - k) 0
def smp : List Int := (List.range 300).map smpF
section
variable {β : Type} (wl : WLT β) (y : YieldT β) (b : β) (R : AV → β → Prop) (K : Exit → List AV → List Blk → β → Prop)
theorem r31 (n i : Int) (cs : List AV) : wpc Tryd.prog ⟨[], GByte, wl, y, false⟩ 100 lp31 (tm31 n i) [blkG cs 0] b (maskT [1, 5, 6] K) = ( BIf (decide (i < n)) (0 = 0 ∧ BIf (decide ((0 : Int) ≤ i) && decide (i < (300 : Int))) (0 = 0 ∧ BIf (decide (Int.toNat i * 1 + 1 ≤ List.length cs)) (K Exit.normal [AV.bad, AV.gref 0 0 300 1, AV.bad, AV.bad, AV.bad, AV.d (i64 n), AV.d (i64 (IntKind.wrap IntKind.i64 (i + (1 : Int)))), AV.bad, AV.bad, AV.bad, AV.bad, AV.bad, AV.bad, AV.bad, AV.bad, AV.bad, AV.bad] [Blk.mk (List.take (Int.toNat i * 1) cs ++ [AV.d (u8 (IntKind.wrap IntKind.u8 (IntKind.wrap IntKind.i64 (i * (7 : Int)))))] ++ List.drop (Int.toNat i * 1 + 1) cs) false true 0] b) False) False) (K (Exit.exit 0) [AV.bad, AV.gref 0 0 300 1, AV.bad, AV.bad, AV.bad, AV.d (i64 n), AV.d (i64 i), AV.bad, AV.bad, AV.bad, AV.bad, AV.bad, AV.bad, AV.bad, AV.bad, AV.bad, AV.bad] [Blk.mk cs false true 0] b)) := by kernel_rfl
end
end Go.Proofs.YtfeemohdpmdaoaaDoor.Am

namespace Go.Proofs.YtfeemohdpmdaoaaDoor.Am
set_option linter.unusedVariables false
open Go Go.RowKit Go.Proofs

theorem smpP_step {k : Nat} (hk : k < 300) : (flatA (bytesR (smpP k))).take (k * 1) ++ [AV.d (u8 (smpF k))] ++ (flatA (bytesR (smpP k))).drop (k * 1 + 1) = flatA (bytesR (smpP (k + 1))) := by
  have e0 : ((List.range k).map smpF).length = k := by simp
  have e1 : smpP (k + 1) = (List.range k).map smpF ++ [smpF k] ++ List.replicate (300 - (k + 1)) 0 := by
    rw [smpP, List.range_succ, List.map_append]; rfl
  have e2 : List.replicate (300 - k) (0 : Int) = 0 :: List.replicate (300 - (k + 1)) 0 := by
    rw [show 300 - k = (300 - (k + 1)) + 1 by omega, List.replicate_succ]
  rw [flatA_bytes, flatA_bytes, e1, Nat.mul_one, smpP, e2]
  rw [← List.map_take, ← List.map_drop, List.take_left' e0, List.drop_append, List.drop_of_length_le (by omega), e0]
  simp
theorem smpP_len {k : Nat} (hk : k ≤ 300) : (smpP k).length = 300 := by simp [smpP]; omega
set_option maxRecDepth 20000 in
theorem wr31 {Ev : Env Tryd.prog} {b : Ev.β} {Q : Exit → St Ev.β → Prop} : ∀ (n k : Nat), 300 - k = n → k ≤ 300 →
    (∀ i : Int, Q (.exit 0) ⟨tm31 300 i, [blkG (flatA (bytesR smp)) 0], b⟩) → WR Ev lp31 (n + 1) ⟨tm31 300 k, [blkG (flatA (bytesR (smpP k))) 0], b⟩ Q
  | n, k, hn, hk, h => by
    refine WR.ofMaskT [1, 5, 6] mixed (CX.Ok.of (u := false) CallsOk.nil GByte_ok) (k := 100) ?_
    rw [r31]
    refine BIf.of (fun g => ?_) fun g => ?_
    · have hlt : k < 300 := by have := of_decide_eq_true g; omega
      refine ⟨rfl, BIf.t (by simp <;> omega) ⟨rfl, BIf.t (by rw [flatA_bytes, List.length_map, smpP_len hk]; simp <;> omega) ?_⟩⟩
      rw [Int.toNat_natCast, show IntKind.wrap .u8 (IntKind.wrap .i64 ((k : Int) * 7)) = smpF k from rfl, smpP_step hlt, wrap_succ (n := 300) hlt (by omega)]
      cases n with
      | zero => omega
      | succ n => exact wr31 n (k + 1) (by omega) (by omega) h
    · have hk : k = 300 := by have := of_decide_eq_false g; omega
      subst hk
      have e : smpP 300 = smp := by rw [smpP, Nat.sub_self, List.replicate_zero, List.append_nil]; rfl
      rw [e]; exact h _
def wl31 {β : Type} : WLT β := fun c tm hp b K => c = .loop lp31 ∧ maskTm [1, 5, 6] 0 tm = tm31 300 0 ∧ hp = [blkG (flatA (List.replicate 300 [u8 0])) 0] ∧ ∃ z : List Int, z = smp ∧ ∀ k : Int, K (.exit 0) (tm31 300 k) [blkG (flatA (bytesR z)) 0] b
theorem wl31_ok {Ev : Env Tryd.prog} (c : Code) (tm : List AV) (hp : List Blk) (b : Ev.β) (K : Exit → List AV → List Blk → Ev.β → Prop) (h : wl31 c tm hp b K) : W Ev c ⟨tm, hp, b⟩ (fun e s => K e s.tm s.hp s.b) := by
  obtain ⟨rfl, htm, rfl, z, rfl, hK⟩ := h
  refine W.cast (htm ▸ maskTm_le _ tm 0) (LeH.refl _) ?_
  have e : List.replicate 300 [u8 0] = bytesR (smpP 0) := by rw [smpP, List.range_zero, List.map_nil, List.nil_append, bytesR, List.map_replicate]
  rw [e]
  exact W.rounds (wr31 (Q := fun e s => K e s.tm s.hp s.b) 300 0 rfl (by omega) hK)
section
variable {β : Type} (wl : WLT β) (y : YieldT β) (b : β) (R : AV → β → Prop) (K : Exit → List AV → List Blk → β → Prop)
set_option maxRecDepth 20000 in
theorem sample_nf  : wpFn Tryd.prog ⟨[], GByte, wl31, y, false⟩ 100 Tryd.f31 [] b R = ( 0 = 0 ∧ Code.loop lp31 = Code.loop lp31 ∧ [AV.bad, AV.gref 0 0 300 1, AV.bad, AV.bad, AV.bad, AV.d (i64 (300 : Int)), AV.d (i64 (0 : Int)), AV.bad, AV.bad, AV.bad, AV.bad, AV.bad, AV.bad, AV.bad, AV.bad, AV.bad, AV.bad] = [AV.bad, AV.gref 0 0 300 1, AV.bad, AV.bad, AV.bad, AV.d (i64 (300 : Int)), AV.d (i64 (0 : Int)), AV.bad, AV.bad, AV.bad, AV.bad, AV.bad, AV.bad, AV.bad, AV.bad, AV.bad, AV.bad] ∧ [Blk.mk [AV.d (u8 (0 : Int)), AV.d (u8 (0 : Int)), AV.d (u8 (0 : Int)), AV.d (u8 (0 : Int)), AV.d (u8 (0 : Int)), AV.d (u8 (0 : Int)), AV.d (u8 (0 : Int)), AV.d (u8 (0 : Int)), AV.d (u8 (0 : Int)), AV.d (u8 (0 : Int)), AV.d (u8 (0 : Int)), AV.d (u8 (0 : Int)), AV.d (u8 (0 : Int)), AV.d (u8 (0 : Int)), AV.d (u8 (0 : Int)), AV.d (u8 (0 : Int)), AV.d (u8 (0 : Int)), AV.d (u8 (0 : Int)), AV.d (u8 (0 : Int)), AV.d (u8 (0 : Int)), AV.d (u8 (0 : Int)), AV.d (u8 (0 : Int)), AV.d (u8 (0 : Int)), AV.d (u8 (0 : Int)), AV.d (u8 (0 : Int)), AV.d (u8 (0 : Int)), AV.d (u8 (0 : Int)), AV.d (u8 (0 : Int)), AV.d (u8 (0 : Int)), AV.d (u8 (0 : Int)), AV.d (u8 (0 : Int)), AV.d (u8 (0 : Int)), AV.d (u8 (0 : Int)), AV.d (u8 (0 : Int)), AV.d (u8 (0 : Int)), AV.d (u8 (0 : Int)), AV.d (u8 (0 : Int)), AV.d (u8 (0 : Int)), AV.d (u8 (0 : Int)), AV.d (u8 (0 : Int)), AV.d (u8 (0 : Int)), AV.d (u8 (0 : Int)), AV.d (u8 (0 : Int)), AV.d (u8 (0 : Int)), AV.d (u8 (0 : Int)), AV.d (u8 (0 : Int)), AV.d (u8 (0 : Int)), AV.d (u8 (0 : Int)), AV.d (u8 (0 : Int)), AV.d (u8 (0 : Int)), AV.d (u8 (0 : Int)), AV.d (u8 (0 : Int)), AV.d (u8 (0 : Int)), AV.d (u8 (0 : Int)), AV.d (u8 (0 : Int)), AV.d (u8 (0 : Int)), AV.d (u8 (0 : Int)), AV.d (u8 (0 : Int)), AV.d (u8 (0 : Int)), AV.d (u8 (0 : Int)), AV.d (u8 (0 : Int)), AV.d (u8 (0 : Int)), AV.d (u8 (0 : Int)), AV.d (u8 (0 : Int)), AV.d (u8 (0 : Int)), AV.d (u8 (0 : Int)), AV.d (u8 (0 : Int)), AV.d (u8 (0 : Int)), AV.d (u8 (0 : Int)), AV.d (u8 (0 : Int)), AV.d (u8 (0 : Int)), AV.d (u8 (0 : Int)), AV.d (u8 (0 : Int)), AV.d (u8 (0 : Int)), AV.d (u8 (0 : Int)), AV.d (u8 (0 : Int)), AV.d (u8 (0 : Int)), AV.d (u8 (0 : Int)), AV.d (u8 (0 : Int)), AV.d (u8 (0 : Int)), AV.d (u8 (0 : Int)), AV.d (u8 (0 : Int)), AV.d (u8 (0 : Int)), AV.d (u8 (0 : Int)), AV.d (u8 (0 : Int)), AV.d (u8 (0 : Int)), AV.d (u8 (0 : Int)), AV.d (u8 (0 : Int)), AV.d (u8 (0 : Int)), AV.d (u8 (0 : Int)), AV.d (u8 (0 : Int)), AV.d (u8 (0 : Int)), AV.d (u8 (0 : Int)), AV.d (u8 (0 : Int)), AV.d (u8 (0 : Int)), AV.d (u8 (0 : Int)), AV.d (u8 (0 : Int)), AV.d (u8 (0 : Int)), AV.d (u8 (0 : Int)), AV.d (u8 (0 : Int)), AV.d (u8 (0 : Int)), AV.d (u8 (0 : Int)), AV.d (u8 (0 : Int)), AV.d (u8 (0 : Int)), AV.d (u8 (0 : Int)), AV.d (u8 (0 : Int)), AV.d (u8 (0 : Int)), AV.d (u8 (0 : Int)), AV.d (u8 (0 : Int)), AV.d (u8 (0 : Int)), AV.d (u8 (0 : Int)), AV.d (u8 (0 : Int)), AV.d (u8 (0 : Int)), AV.d (u8 (0 : Int)), AV.d (u8 (0 : Int)), AV.d (u8 (0 : Int)), AV.d (u8 (0 : Int)), AV.d (u8 (0 : Int)), AV.d (u8 (0 : Int)), AV.d (u8 (0 : Int)), AV.d (u8 (0 : Int)), AV.d (u8 (0 : Int)), AV.d (u8 (0 : Int)), AV.d (u8 (0 : Int)), AV.d (u8 (0 : Int)), AV.d (u8 (0 : Int)), AV.d (u8 (0 : Int)), AV.d (u8 (0 : Int)), AV.d (u8 (0 : Int)), AV.d (u8 (0 : Int)), AV.d (u8 (0 : Int)), AV.d (u8 (0 : Int)), AV.d (u8 (0 : Int)), AV.d (u8 (0 : Int)), AV.d (u8 (0 : Int)), AV.d (u8 (0 : Int)), AV.d (u8 (0 : Int)), AV.d (u8 (0 : Int)), AV.d (u8 (0 : Int)), AV.d (u8 (0 : Int)), AV.d (u8 (0 : Int)), AV.d (u8 (0 : Int)), AV.d (u8 (0 : Int)), AV.d (u8 (0 : Int)), AV.d (u8 (0 : Int)), AV.d (u8 (0 : Int)), AV.d (u8 (0 : Int)), AV.d (u8 (0 : Int)), AV.d (u8 (0 : Int)), AV.d (u8 (0 : Int)), AV.d (u8 (0 : Int)), AV.d (u8 (0 : Int)), AV.d (u8 (0 : Int)), AV.d (u8 (0 : Int)), AV.d (u8 (0 : Int)), AV.d (u8 (0 : Int)), AV.d (u8 (0 : Int)), AV.d (u8 (0 : Int)), AV.d (u8 (0 : Int)), AV.d (u8 (0 : Int)), AV.d (u8 (0 : Int)), AV.d (u8 (0 : Int)), AV.d (u8 (0 : Int)), AV.d (u8 (0 : Int)), AV.d (u8 (0 : Int)), AV.d (u8 (0 : Int)), AV.d (u8 (0 : Int)), AV.d (u8 (0 : Int)), AV.d (u8 (0 : Int)), AV.d (u8 (0 : Int)), AV.d (u8 (0 : Int)), AV.d (u8 (0 : Int)), AV.d (u8 (0 : Int)), AV.d (u8 (0 : Int)), AV.d (u8 (0 : Int)), AV.d (u8 (0 : Int)), AV.d (u8 (0 : Int)), AV.d (u8 (0 : Int)), AV.d (u8 (0 : Int)), AV.d (u8 (0 : Int)), AV.d (u8 (0 : Int)), AV.d (u8 (0 : Int)), AV.d (u8 (0 : Int)), AV.d (u8 (0 : Int)), AV.d (u8 (0 : Int)), AV.d (u8 (0 : Int)), AV.d (u8 (0 : Int)), AV.d (u8 (0 : Int)), AV.d (u8 (0 : Int)), AV.d (u8 (0 : Int)), AV.d (u8 (0 : Int)), AV.d (u8 (0 : Int)), AV.d (u8 (0 : Int)), AV.d (u8 (0 : Int)), AV.d (u8 (0 : Int)), AV.d (u8 (0 : Int)), AV.d (u8 (0 : Int)), AV.d (u8 (0 : Int)), AV.d (u8 (0 : Int)), AV.d (u8 (0 : Int)), AV.d (u8 (0 : Int)), AV.d (u8 (0 : Int)), AV.d (u8 (0 : Int)), AV.d (u8 (0 : Int)), AV.d (u8 (0 : Int)), AV.d (u8 (0 : Int)), AV.d (u8 (0 : Int)), AV.d (u8 (0 : Int)), AV.d (u8 (0 : Int)), AV.d (u8 (0 : Int)), AV.d (u8 (0 : Int)), AV.d (u8 (0 : Int)), AV.d (u8 (0 : Int)), AV.d (u8 (0 : Int)), AV.d (u8 (0 : Int)), AV.d (u8 (0 : Int)), AV.d (u8 (0 : Int)), AV.d (u8 (0 : Int)), AV.d (u8 (0 : Int)), AV.d (u8 (0 : Int)), AV.d (u8 (0 : Int)), AV.d (u8 (0 : Int)), AV.d (u8 (0 : Int)), AV.d (u8 (0 : Int)), AV.d (u8 (0 : Int)), AV.d (u8 (0 : Int)), AV.d (u8 (0 : Int)), AV.d (u8 (0 : Int)), AV.d (u8 (0 : Int)), AV.d (u8 (0 : Int)), AV.d (u8 (0 : Int)), AV.d (u8 (0 : Int)), AV.d (u8 (0 : Int)), AV.d (u8 (0 : Int)), AV.d (u8 (0 : Int)), AV.d (u8 (0 : Int)), AV.d (u8 (0 : Int)), AV.d (u8 (0 : Int)), AV.d (u8 (0 : Int)), AV.d (u8 (0 : Int)), AV.d (u8 (0 : Int)), AV.d (u8 (0 : Int)), AV.d (u8 (0 : Int)), AV.d (u8 (0 : Int)), AV.d (u8 (0 : Int)), AV.d (u8 (0 : Int)), AV.d (u8 (0 : Int)), AV.d (u8 (0 : Int)), AV.d (u8 (0 : Int)), AV.d (u8 (0 : Int)), AV.d (u8 (0 : Int)), AV.d (u8 (0 : Int)), AV.d (u8 (0 : Int)), AV.d (u8 (0 : Int)), AV.d (u8 (0 : Int)), AV.d (u8 (0 : Int)), AV.d (u8 (0 : Int)), AV.d (u8 (0 : Int)), AV.d (u8 (0 : Int)), AV.d (u8 (0 : Int)), AV.d (u8 (0 : Int)), AV.d (u8 (0 : Int)), AV.d (u8 (0 : Int)), AV.d (u8 (0 : Int)), AV.d (u8 (0 : Int)), AV.d (u8 (0 : Int)), AV.d (u8 (0 : Int)), AV.d (u8 (0 : Int)), AV.d (u8 (0 : Int)), AV.d (u8 (0 : Int)), AV.d (u8 (0 : Int)), AV.d (u8 (0 : Int)), AV.d (u8 (0 : Int)), AV.d (u8 (0 : Int)), AV.d (u8 (0 : Int)), AV.d (u8 (0 : Int)), AV.d (u8 (0 : Int)), AV.d (u8 (0 : Int)), AV.d (u8 (0 : Int)), AV.d (u8 (0 : Int)), AV.d (u8 (0 : Int)), AV.d (u8 (0 : Int)), AV.d (u8 (0 : Int)), AV.d (u8 (0 : Int)), AV.d (u8 (0 : Int)), AV.d (u8 (0 : Int)), AV.d (u8 (0 : Int)), AV.d (u8 (0 : Int)), AV.d (u8 (0 : Int)), AV.d (u8 (0 : Int)), AV.d (u8 (0 : Int)), AV.d (u8 (0 : Int)), AV.d (u8 (0 : Int)), AV.d (u8 (0 : Int)), AV.d (u8 (0 : Int)), AV.d (u8 (0 : Int)), AV.d (u8 (0 : Int)), AV.d (u8 (0 : Int)), AV.d (u8 (0 : Int)), AV.d (u8 (0 : Int))] false true 0] = [Blk.mk [AV.d (u8 (0 : Int)), AV.d (u8 (0 : Int)), AV.d (u8 (0 : Int)), AV.d (u8 (0 : Int)), AV.d (u8 (0 : Int)), AV.d (u8 (0 : Int)), AV.d (u8 (0 : Int)), AV.d (u8 (0 : Int)), AV.d (u8 (0 : Int)), AV.d (u8 (0 : Int)), AV.d (u8 (0 : Int)), AV.d (u8 (0 : Int)), AV.d (u8 (0 : Int)), AV.d (u8 (0 : Int)), AV.d (u8 (0 : Int)), AV.d (u8 (0 : Int)), AV.d (u8 (0 : Int)), AV.d (u8 (0 : Int)), AV.d (u8 (0 : Int)), AV.d (u8 (0 : Int)), AV.d (u8 (0 : Int)), AV.d (u8 (0 : Int)), AV.d (u8 (0 : Int)), AV.d (u8 (0 : Int)), AV.d (u8 (0 : Int)), AV.d (u8 (0 : Int)), AV.d (u8 (0 : Int)), AV.d (u8 (0 : Int)), AV.d (u8 (0 : Int)), AV.d (u8 (0 : Int)), AV.d (u8 (0 : Int)), AV.d (u8 (0 : Int)), AV.d (u8 (0 : Int)), AV.d (u8 (0 : Int)), AV.d (u8 (0 : Int)), AV.d (u8 (0 : Int)), AV.d (u8 (0 : Int)), AV.d (u8 (0 : Int)), AV.d (u8 (0 : Int)), AV.d (u8 (0 : Int)), AV.d (u8 (0 : Int)), AV.d (u8 (0 : Int)), AV.d (u8 (0 : Int)), AV.d (u8 (0 : Int)), AV.d (u8 (0 : Int)), AV.d (u8 (0 : Int)), AV.d (u8 (0 : Int)), AV.d (u8 (0 : Int)), AV.d (u8 (0 : Int)), AV.d (u8 (0 : Int)), AV.d (u8 (0 : Int)), AV.d (u8 (0 : Int)), AV.d (u8 (0 : Int)), AV.d (u8 (0 : Int)), AV.d (u8 (0 : Int)), AV.d (u8 (0 : Int)), AV.d (u8 (0 : Int)), AV.d (u8 (0 : Int)), AV.d (u8 (0 : Int)), AV.d (u8 (0 : Int)), AV.d (u8 (0 : Int)), AV.d (u8 (0 : Int)), AV.d (u8 (0 : Int)), AV.d (u8 (0 : Int)), AV.d (u8 (0 : Int)), AV.d (u8 (0 : Int)), AV.d (u8 (0 : Int)), AV.d (u8 (0 : Int)), AV.d (u8 (0 : Int)), AV.d (u8 (0 : Int)), AV.d (u8 (0 : Int)), AV.d (u8 (0 : Int)), AV.d (u8 (0 : Int)), AV.d (u8 (0 : Int)), AV.d (u8 (0 : Int)), AV.d (u8 (0 : Int)), AV.d (u8 (0 : Int)), AV.d (u8 (0 : Int)), AV.d (u8 (0 : Int)), AV.d (u8 (0 : Int)), AV.d (u8 (0 : Int)), AV.d (u8 (0 : Int)), AV.d (u8 (0 : Int)), AV.d (u8 (0 : Int)), AV.d (u8 (0 : Int)), AV.d (u8 (0 : Int)), AV.d (u8 (0 : Int)), AV.d (u8 (0 : Int)), AV.d (u8 (0 : Int)), AV.d (u8 (0 : Int)), AV.d (u8 (0 : Int)), AV.d (u8 (0 : Int)), AV.d (u8 (0 : Int)), AV.d (u8 (0 : Int)), AV.d (u8 (0 : Int)), AV.d (u8 (0 : Int)), AV.d (u8 (0 : Int)), AV.d (u8 (0 : Int)), AV.d (u8 (0 : Int)), AV.d (u8 (0 : Int)), AV.d (u8 (0 : Int)), AV.d (u8 (0 : Int)), AV.d (u8 (0 : Int)), AV.d (u8 (0 : Int)), AV.d (u8 (0 : Int)), AV.d (u8 (0 : Int)), AV.d (u8 (0 : Int)), AV.d (u8 (0 : Int)), AV.d (u8 (0 : Int)), AV.d (u8 (0 : Int)), AV.d (u8 (0 : Int)), AV.d (u8 (0 : Int)), AV.d (u8 (0 : Int)), AV.d (u8 (0 : Int)), AV.d (u8 (0 : Int)), AV.d (u8 (0 : Int)), AV.d (u8 (0 : Int)), AV.d (u8 (0 : Int)), AV.d (u8 (0 : Int)), AV.d (u8 (0 : Int)), AV.d (u8 (0 : Int)), AV.d (u8 (0 : Int)), AV.d (u8 (0 : Int)), AV.d (u8 (0 : Int)), AV.d (u8 (0 : Int)), AV.d (u8 (0 : Int)), AV.d (u8 (0 : Int)), AV.d (u8 (0 : Int)), AV.d (u8 (0 : Int)), AV.d (u8 (0 : Int)), AV.d (u8 (0 : Int)), AV.d (u8 (0 : Int)), AV.d (u8 (0 : Int)), AV.d (u8 (0 : Int)), AV.d (u8 (0 : Int)), AV.d (u8 (0 : Int)), AV.d (u8 (0 : Int)), AV.d (u8 (0 : Int)), AV.d (u8 (0 : Int)), AV.d (u8 (0 : Int)), AV.d (u8 (0 : Int)), AV.d (u8 (0 : Int)), AV.d (u8 (0 : Int)), AV.d (u8 (0 : Int)), AV.d (u8 (0 : Int)), AV.d (u8 (0 : Int)), AV.d (u8 (0 : Int)), AV.d (u8 (0 : Int)), AV.d (u8 (0 : Int)), AV.d (u8 (0 : Int)), AV.d (u8 (0 : Int)), AV.d (u8 (0 : Int)), AV.d (u8 (0 : Int)), AV.d (u8 (0 : Int)), AV.d (u8 (0 : Int)), AV.d (u8 (0 : Int)), AV.d (u8 (0 : Int)), AV.d (u8 (0 : Int)), AV.d (u8 (0 : Int)), AV.d (u8 (0 : Int)), AV.d (u8 (0 : Int)), AV.d (u8 (0 : Int)), AV.d (u8 (0 : Int)), AV.d (u8 (0 : Int)), AV.d (u8 (0 : Int)), AV.d (u8 (0 : Int)), AV.d (u8 (0 : Int)), AV.d (u8 (0 : Int)), AV.d (u8 (0 : Int)), AV.d (u8 (0 : Int)), AV.d (u8 (0 : Int)), AV.d (u8 (0 : Int)), AV.d (u8 (0 : Int)), AV.d (u8 (0 : Int)), AV.d (u8 (0 : Int)), AV.d (u8 (0 : Int)), AV.d (u8 (0 : Int)), AV.d (u8 (0 : Int)), AV.d (u8 (0 : Int)), AV.d (u8 (0 : Int)), AV.d (u8 (0 : Int)), AV.d (u8 (0 : Int)), AV.d (u8 (0 : Int)), AV.d (u8 (0 : Int)), AV.d (u8 (0 : Int)), AV.d (u8 (0 : Int)), AV.d (u8 (0 : Int)), AV.d (u8 (0 : Int)), AV.d (u8 (0 : Int)), AV.d (u8 (0 : Int)), AV.d (u8 (0 : Int)), AV.d (u8 (0 : Int)), AV.d (u8 (0 : Int)), AV.d (u8 (0 : Int)), AV.d (u8 (0 : Int)), AV.d (u8 (0 : Int)), AV.d (u8 (0 : Int)), AV.d (u8 (0 : Int)), AV.d (u8 (0 : Int)), AV.d (u8 (0 : Int)), AV.d (u8 (0 : Int)), AV.d (u8 (0 : Int)), AV.d (u8 (0 : Int)), AV.d (u8 (0 : Int)), AV.d (u8 (0 : Int)), AV.d (u8 (0 : Int)), AV.d (u8 (0 : Int)), AV.d (u8 (0 : Int)), AV.d (u8 (0 : Int)), AV.d (u8 (0 : Int)), AV.d (u8 (0 : Int)), AV.d (u8 (0 : Int)), AV.d (u8 (0 : Int)), AV.d (u8 (0 : Int)), AV.d (u8 (0 : Int)), AV.d (u8 (0 : Int)), AV.d (u8 (0 : Int)), AV.d (u8 (0 : Int)), AV.d (u8 (0 : Int)), AV.d (u8 (0 : Int)), AV.d (u8 (0 : Int)), AV.d (u8 (0 : Int)), AV.d (u8 (0 : Int)), AV.d (u8 (0 : Int)), AV.d (u8 (0 : Int)), AV.d (u8 (0 : Int)), AV.d (u8 (0 : Int)), AV.d (u8 (0 : Int)), AV.d (u8 (0 : Int)), AV.d (u8 (0 : Int)), AV.d (u8 (0 : Int)), AV.d (u8 (0 : Int)), AV.d (u8 (0 : Int)), AV.d (u8 (0 : Int)), AV.d (u8 (0 : Int)), AV.d (u8 (0 : Int)), AV.d (u8 (0 : Int)), AV.d (u8 (0 : Int)), AV.d (u8 (0 : Int)), AV.d (u8 (0 : Int)), AV.d (u8 (0 : Int)), AV.d (u8 (0 : Int)), AV.d (u8 (0 : Int)), AV.d (u8 (0 : Int)), AV.d (u8 (0 : Int)), AV.d (u8 (0 : Int)), AV.d (u8 (0 : Int)), AV.d (u8 (0 : Int)), AV.d (u8 (0 : Int)), AV.d (u8 (0 : Int)), AV.d (u8 (0 : Int)), AV.d (u8 (0 : Int)), AV.d (u8 (0 : Int)), AV.d (u8 (0 : Int)), AV.d (u8 (0 : Int)), AV.d (u8 (0 : Int)), AV.d (u8 (0 : Int)), AV.d (u8 (0 : Int)), AV.d (u8 (0 : Int)), AV.d (u8 (0 : Int)), AV.d (u8 (0 : Int)), AV.d (u8 (0 : Int)), AV.d (u8 (0 : Int)), AV.d (u8 (0 : Int)), AV.d (u8 (0 : Int)), AV.d (u8 (0 : Int)), AV.d (u8 (0 : Int)), AV.d (u8 (0 : Int)), AV.d (u8 (0 : Int)), AV.d (u8 (0 : Int)), AV.d (u8 (0 : Int)), AV.d (u8 (0 : Int)), AV.d (u8 (0 : Int)), AV.d (u8 (0 : Int)), AV.d (u8 (0 : Int)), AV.d (u8 (0 : Int)), AV.d (u8 (0 : Int)), AV.d (u8 (0 : Int)), AV.d (u8 (0 : Int)), AV.d (u8 (0 : Int)), AV.d (u8 (0 : Int)), AV.d (u8 (0 : Int)), AV.d (u8 (0 : Int)), AV.d (u8 (0 : Int)), AV.d (u8 (0 : Int)), AV.d (u8 (0 : Int)), AV.d (u8 (0 : Int)), AV.d (u8 (0 : Int)), AV.d (u8 (0 : Int)), AV.d (u8 (0 : Int)), AV.d (u8 (0 : Int)), AV.d (u8 (0 : Int)), AV.d (u8 (0 : Int)), AV.d (u8 (0 : Int)), AV.d (u8 (0 : Int)), AV.d (u8 (0 : Int)), AV.d (u8 (0 : Int)), AV.d (u8 (0 : Int)), AV.d (u8 (0 : Int)), AV.d (u8 (0 : Int))] false true 0] ∧ ∃ (z0 : List Int), z0 = smp ∧ ∀ (k : Int), 0 = 0 ∧ ∃ (xs1 : List (List Dv)), flatA (bytesR z0) = flatA xs1 ∧ List.length xs1 = 300 ∧ (∀ (r : List Dv), r ∈ xs1 → List.length r = 1) ∧ R (AV.d (Dv.sl 1 xs1)) b) := by kernel_rfl
end
theorem smp_len : smp.length = 300 := by simp [smp]
theorem pcSample : PCall Tryd.prog 31 [] (.d (.sl 1 (bytesR smp))) := by
  refine PCall.ofFnW (n := 100) (u := false) (fun _ => wl31) mixed CallsOk.nil GByte_ok (fun Ev => wl31_ok) Tryd.func31 (by rfl) (by rfl) fun Ev bb => ?_
  rw [sample_nf]
  refine ⟨rfl, rfl, rfl, rfl, _, rfl, fun _ => ⟨rfl, bytesR smp, rfl, by rw [bytesR_len, smp_len], bytes_row, rfl⟩⟩
def cSample (args : List AV) (K : AV → Prop) : Prop := ∃ z : List Int, args = [] ∧ z = smp ∧ K (.d (.sl 1 (bytesR z)))
theorem cSample_ok : ∀ args K, cSample args K → ∃ x, PCall Tryd.prog 31 args x ∧ K x := by
  rintro _ K ⟨_, rfl, rfl, h⟩; exact ⟨_, pcSample, h⟩
def THd : List (Nat × (List AV → (AV → Prop) → Prop)) := [(31, cSample), (13, lessC cSplitE), (17, cAnnounce), (15, cJoin), (32, cTLeaf), (21, lessC cPut), (23, lessC cWhole), (20, cBytes)]
theorem THd_ok : CallsOk Tryd.prog THd := CallsOk.cons cSample_ok (CallsOk.cons (lessC_ok cSplitE_ok) (CallsOk.cons cAnnounce_ok (CallsOk.cons cJoin_ok (CallsOk.cons cTLeaf_ok (CallsOk.cons (lessC_ok cPut_ok) (CallsOk.cons (lessC_ok cWhole_ok) (CallsOk.cons cBytes_ok CallsOk.nil)))))))
end Go.Proofs.YtfeemohdpmdaoaaDoor.Am

namespace Go.Proofs.YtfeemohdpmdaoaaDoor.Am
set_option linter.unusedVariables false
set_option maxHeartbeats 0
set_option maxRecDepth 100000
open Go Go.RowKit Go.Proofs

/-! ### the law's head -/
section
variable {β : Type} (wl : WLT β) (y : YieldT β) (b : β) (R : AV → β → Prop) (K : Exit → List AV → List Blk → β → Prop)
theorem head_nf  : wpFn Tryd.prog ⟨THd, [], wl, y, false⟩ 200 Tryd.f10 [] b R = ( ∃ (z0 : List Int), ([] : List AV) = [] ∧ z0 = smp ∧ ∃ (args1 : List AV), LeVs [AV.d (Dv.sl 1 (bytesR z0))] args1 ∧ ∃ (p2 : List Int), ∃ (q3 : List (List Int)), ∃ (e4 : Int), args1 = [AV.d (Dv.sl 1 (bytesR p2))] ∧ (List.length p2 ≤ 9223372036854775807 ∧ (q3, e4) = splitE p2) ∧ ∃ (v5 : Int), ∃ (t6 : Int), ∃ (p7 : List Int), ∃ (z8 : NotT), ∃ (e9 : Int), [AV.d (i64 (3 : Int)), AV.d (Dv.sl 1 (bytesR z0)), AV.d (i64 (50 : Int))] = [AV.d (i64 v5), AV.d (Dv.sl 1 (bytesR p7)), AV.d (i64 t6)] ∧ (List.length p7 ≤ 9223372036854775807 ∧ (z8, e9) = annS v5 p7 t6) ∧ BIf (e4 != (0 : Int)) (R (AV.d (bo false)) b) (BIf (e9 != (0 : Int)) (R (AV.d (bo false)) b) (BIf (((List.length (partsR q3) : Nat) : Int) != (2 : Int)) (R (AV.d (bo false)) b) (∃ (xs10 : List (List Dv)), (partsR q3)[0]? = some [Dv.sl 1 xs10] ∧ BIf (((List.length xs10 : Nat) : Int) != (256 : Int)) (R (AV.d (bo false)) b) (∃ (xs13 : List (List Dv)), (partsR q3)[1]? = some [Dv.sl 1 xs13] ∧ BIf (((List.length xs13 : Nat) : Int) != (256 : Int)) (R (AV.d (bo false)) b) (∃ (xs16 : List (List Dv)), (partsR q3)[1]? = some [Dv.sl 1 xs16] ∧ ∃ (x19 : Int), xs16[43]? = some [u8 x19] ∧ BIf (x19 != (45 : Int)) (R (AV.d (bo false)) b) (∃ (xs22 : List (List Dv)), (partsR q3)[1]? = some [Dv.sl 1 xs22] ∧ ∃ (x25 : Int), xs22[44]? = some [u8 x25] ∧ BIf (x25 != (0 : Int)) (R (AV.d (bo false)) b) (∃ (ps28 : List (List Int)), ∃ (n29 : Int), ∃ (z30 : List Int), ∃ (e31 : Int), [AV.d (Dv.sl 1 (partsR q3)), AV.d (i64 (300 : Int))] = [AV.d (Dv.sl 1 (partsR ps28)), AV.d (i64 n29)] ∧ (List.length ps28 ≤ 9223372036854775807 ∧ (z30, e31) = joinS ps28 n29) ∧ ∃ (ps32 : List (List Int)), ∃ (n33 : Int), ∃ (z34 : List Int), ∃ (e35 : Int), [AV.d (Dv.sl 1 (partsR q3)), AV.d (i64 (299 : Int))] = [AV.d (Dv.sl 1 (partsR ps32)), AV.d (i64 n33)] ∧ (List.length ps32 ≤ 9223372036854775807 ∧ (z34, e35) = joinS ps32 n33) ∧ ∃ (ps36 : List (List Int)), ∃ (n37 : Int), ∃ (z38 : List Int), ∃ (e39 : Int), [AV.d (Dv.sl 1 (partsR q3)), AV.d (i64 (256 : Int))] = [AV.d (Dv.sl 1 (partsR ps36)), AV.d (i64 n37)] ∧ (List.length ps36 ≤ 9223372036854775807 ∧ (z38, e39) = joinS ps36 n37) ∧ ∃ (xs40 : List (List Dv)), (partsR q3)[0]? = some [Dv.sl 1 xs40] ∧ ∃ (xs43 : List (List Dv)), (partsR q3)[1]? = some [Dv.sl 1 xs43] ∧ ∃ (p46 : List Int), ∃ (z47 : Int), [AV.d (Dv.sl 1 xs43)] = [AV.d (Dv.sl 1 (bytesR p46))] ∧ (List.length p46 ≤ 9223372036854775807 ∧ z47 = leafS p46) ∧ ∃ (args48 : List AV), LeVs [AV.agg [AV.d (i64 (NotT.v z8)), AV.d (i64 (NotT.n z8)), AV.d (u64 (NotT.r z8)), AV.d (i64 (NotT.t z8)), AV.d (Dv.s (Value.slice none 0 0)), AV.d (Dv.s (Value.slice none 0 0)), AV.d (Dv.s (Value.slice none 0 0)), AV.d (Dv.s (Value.slice none 0 0)), AV.d (i64 (0 : Int)), AV.d (i64 (0 : Int)), AV.d (i64 (0 : Int)), AV.d (i64 (0 : Int)), AV.d (i64 (0 : Int))], AV.d (Dv.sl 1 xs40), AV.full 1 [[u64 z47]]] args48 ∧ ∃ (s49 : SprT), ∃ (p50 : List Int), ∃ (q51 : List Int), ∃ (z52 : SprT), ∃ (e53 : Int), args48 = [AV.agg [AV.d (i64 (NotT.v (SprT.no s49))), AV.d (i64 (NotT.n (SprT.no s49))), AV.d (u64 (NotT.r (SprT.no s49))), AV.d (i64 (NotT.t (SprT.no s49))), AV.d (Dv.sl 1 (partsR (SprT.ps s49))), AV.d (Dv.sl 1 (proofsR (SprT.qs s49))), AV.d (Dv.sl 2 (SprT.rows s49)), AV.d (Dv.sl 1 (digR (SprT.pf s49))), AV.d (i64 (SprT.i1 s49)), AV.d (i64 (SprT.i2 s49)), AV.d (i64 (SprT.i3 s49)), AV.d (i64 (SprT.i4 s49)), AV.d (i64 (SprT.i5 s49))], AV.d (Dv.sl 1 (bytesR p50)), AV.d (Dv.sl 1 (digR q51))] ∧ ((List.length (SprT.ps s49) ≤ 9223372036854775807 ∧ List.length q51 ≤ 1000000 ∧ ∀ (x : List Int), x ∈ SprT.qs s49 → List.length x ≤ 1000000) ∧ (z52, e53) = putS s49 p50 q51) ∧ ∃ (args54 : List AV), LeVs [AV.agg [AV.d (i64 (NotT.v (SprT.no z52))), AV.d (i64 (NotT.n (SprT.no z52))), AV.d (u64 (NotT.r (SprT.no z52))), AV.d (i64 (NotT.t (SprT.no z52))), AV.d (Dv.sl 1 (partsR (SprT.ps z52))), AV.d (Dv.sl 1 (proofsR (SprT.qs z52))), AV.d (Dv.sl 2 (SprT.rows z52)), AV.d (Dv.sl 1 (digR (SprT.pf z52))), AV.d (i64 (SprT.i1 z52)), AV.d (i64 (SprT.i2 z52)), AV.d (i64 (SprT.i3 z52)), AV.d (i64 (SprT.i4 z52)), AV.d (i64 (SprT.i5 z52))]] args54 ∧ ∃ (s55 : SprT), ∃ (z56 : List Int), ∃ (e57 : Bool), args54 = [AV.agg [AV.d (i64 (NotT.v (SprT.no s55))), AV.d (i64 (NotT.n (SprT.no s55))), AV.d (u64 (NotT.r (SprT.no s55))), AV.d (i64 (NotT.t (SprT.no s55))), AV.d (Dv.sl 1 (partsR (SprT.ps s55))), AV.d (Dv.sl 1 (proofsR (SprT.qs s55))), AV.d (Dv.sl 2 (SprT.rows s55)), AV.d (Dv.sl 1 (digR (SprT.pf s55))), AV.d (i64 (SprT.i1 s55)), AV.d (i64 (SprT.i2 s55)), AV.d (i64 (SprT.i3 s55)), AV.d (i64 (SprT.i4 s55)), AV.d (i64 (SprT.i5 s55))]] ∧ (List.length (SprT.ps s55) ≤ 9223372036854775807 ∧ (z56, e57) = wholeS s55) ∧ ∃ (xs58 : List (List Dv)), (partsR q3)[1]? = some [Dv.sl 1 xs58] ∧ ∃ (xs61 : List (List Dv)), (partsR q3)[0]? = some [Dv.sl 1 xs61] ∧ ∃ (p64 : List Int), ∃ (z65 : Int), [AV.d (Dv.sl 1 xs61)] = [AV.d (Dv.sl 1 (bytesR p64))] ∧ (List.length p64 ≤ 9223372036854775807 ∧ z65 = leafS p64) ∧ ∃ (args66 : List AV), LeVs [AV.agg [AV.d (i64 (NotT.v (SprT.no z52))), AV.d (i64 (NotT.n (SprT.no z52))), AV.d (u64 (NotT.r (SprT.no z52))), AV.d (i64 (NotT.t (SprT.no z52))), AV.d (Dv.sl 1 (partsR (SprT.ps z52))), AV.d (Dv.sl 1 (proofsR (SprT.qs z52))), AV.d (Dv.sl 2 (SprT.rows z52)), AV.d (Dv.sl 1 (digR (SprT.pf z52))), AV.d (i64 (SprT.i1 z52)), AV.d (i64 (SprT.i2 z52)), AV.d (i64 (SprT.i3 z52)), AV.d (i64 (SprT.i4 z52)), AV.d (i64 (SprT.i5 z52))], AV.d (Dv.sl 1 xs58), AV.full 1 [[u64 z65]]] args66 ∧ ∃ (s67 : SprT), ∃ (p68 : List Int), ∃ (q69 : List Int), ∃ (z70 : SprT), ∃ (e71 : Int), args66 = [AV.agg [AV.d (i64 (NotT.v (SprT.no s67))), AV.d (i64 (NotT.n (SprT.no s67))), AV.d (u64 (NotT.r (SprT.no s67))), AV.d (i64 (NotT.t (SprT.no s67))), AV.d (Dv.sl 1 (partsR (SprT.ps s67))), AV.d (Dv.sl 1 (proofsR (SprT.qs s67))), AV.d (Dv.sl 2 (SprT.rows s67)), AV.d (Dv.sl 1 (digR (SprT.pf s67))), AV.d (i64 (SprT.i1 s67)), AV.d (i64 (SprT.i2 s67)), AV.d (i64 (SprT.i3 s67)), AV.d (i64 (SprT.i4 s67)), AV.d (i64 (SprT.i5 s67))], AV.d (Dv.sl 1 (bytesR p68)), AV.d (Dv.sl 1 (digR q69))] ∧ ((List.length (SprT.ps s67) ≤ 9223372036854775807 ∧ List.length q69 ≤ 1000000 ∧ ∀ (x : List Int), x ∈ SprT.qs s67 → List.length x ≤ 1000000) ∧ (z70, e71) = putS s67 p68 q69) ∧ ∃ (args72 : List AV), LeVs [AV.agg [AV.d (i64 (NotT.v (SprT.no z70))), AV.d (i64 (NotT.n (SprT.no z70))), AV.d (u64 (NotT.r (SprT.no z70))), AV.d (i64 (NotT.t (SprT.no z70))), AV.d (Dv.sl 1 (partsR (SprT.ps z70))), AV.d (Dv.sl 1 (proofsR (SprT.qs z70))), AV.d (Dv.sl 2 (SprT.rows z70)), AV.d (Dv.sl 1 (digR (SprT.pf z70))), AV.d (i64 (SprT.i1 z70)), AV.d (i64 (SprT.i2 z70)), AV.d (i64 (SprT.i3 z70)), AV.d (i64 (SprT.i4 z70)), AV.d (i64 (SprT.i5 z70))]] args72 ∧ ∃ (s73 : SprT), ∃ (z74 : List Int), ∃ (e75 : Bool), args72 = [AV.agg [AV.d (i64 (NotT.v (SprT.no s73))), AV.d (i64 (NotT.n (SprT.no s73))), AV.d (u64 (NotT.r (SprT.no s73))), AV.d (i64 (NotT.t (SprT.no s73))), AV.d (Dv.sl 1 (partsR (SprT.ps s73))), AV.d (Dv.sl 1 (proofsR (SprT.qs s73))), AV.d (Dv.sl 2 (SprT.rows s73)), AV.d (Dv.sl 1 (digR (SprT.pf s73))), AV.d (i64 (SprT.i1 s73)), AV.d (i64 (SprT.i2 s73)), AV.d (i64 (SprT.i3 s73)), AV.d (i64 (SprT.i4 s73)), AV.d (i64 (SprT.i5 s73))]] ∧ (List.length (SprT.ps s73) ≤ 9223372036854775807 ∧ (z74, e75) = wholeS s73) ∧ ∃ (xs76 : List (List Dv)), (partsR q3)[1]? = some [Dv.sl 1 xs76] ∧ ∃ (xs79 : List (List Dv)), (partsR q3)[0]? = some [Dv.sl 1 xs79] ∧ ∃ (p82 : List Int), ∃ (z83 : Int), [AV.d (Dv.sl 1 xs79)] = [AV.d (Dv.sl 1 (bytesR p82))] ∧ (List.length p82 ≤ 9223372036854775807 ∧ z83 = leafS p82) ∧ ∃ (args84 : List AV), LeVs [AV.agg [AV.d (i64 (NotT.v (SprT.no z70))), AV.d (i64 (NotT.n (SprT.no z70))), AV.d (u64 (NotT.r (SprT.no z70))), AV.d (i64 (NotT.t (SprT.no z70))), AV.d (Dv.sl 1 (partsR (SprT.ps z70))), AV.d (Dv.sl 1 (proofsR (SprT.qs z70))), AV.d (Dv.sl 2 (SprT.rows z70)), AV.d (Dv.sl 1 (digR (SprT.pf z70))), AV.d (i64 (SprT.i1 z70)), AV.d (i64 (SprT.i2 z70)), AV.d (i64 (SprT.i3 z70)), AV.d (i64 (SprT.i4 z70)), AV.d (i64 (SprT.i5 z70))], AV.d (Dv.sl 1 xs76), AV.full 1 [[u64 z83]]] args84 ∧ ∃ (s85 : SprT), ∃ (p86 : List Int), ∃ (q87 : List Int), ∃ (z88 : SprT), ∃ (e89 : Int), args84 = [AV.agg [AV.d (i64 (NotT.v (SprT.no s85))), AV.d (i64 (NotT.n (SprT.no s85))), AV.d (u64 (NotT.r (SprT.no s85))), AV.d (i64 (NotT.t (SprT.no s85))), AV.d (Dv.sl 1 (partsR (SprT.ps s85))), AV.d (Dv.sl 1 (proofsR (SprT.qs s85))), AV.d (Dv.sl 2 (SprT.rows s85)), AV.d (Dv.sl 1 (digR (SprT.pf s85))), AV.d (i64 (SprT.i1 s85)), AV.d (i64 (SprT.i2 s85)), AV.d (i64 (SprT.i3 s85)), AV.d (i64 (SprT.i4 s85)), AV.d (i64 (SprT.i5 s85))], AV.d (Dv.sl 1 (bytesR p86)), AV.d (Dv.sl 1 (digR q87))] ∧ ((List.length (SprT.ps s85) ≤ 9223372036854775807 ∧ List.length q87 ≤ 1000000 ∧ ∀ (x : List Int), x ∈ SprT.qs s85 → List.length x ≤ 1000000) ∧ (z88, e89) = putS s85 p86 q87) ∧ ∃ (xs90 : List (List Dv)), (partsR q3)[1]? = some [Dv.sl 1 xs90] ∧ ∃ (xs93 : List (List Dv)), (partsR q3)[0]? = some [Dv.sl 1 xs93] ∧ ∃ (p96 : List Int), ∃ (z97 : Int), [AV.d (Dv.sl 1 xs93)] = [AV.d (Dv.sl 1 (bytesR p96))] ∧ (List.length p96 ≤ 9223372036854775807 ∧ z97 = leafS p96) ∧ ∃ (args98 : List AV), LeVs [AV.agg [AV.d (i64 (NotT.v (SprT.no z52))), AV.d (i64 (NotT.n (SprT.no z52))), AV.d (u64 (NotT.r (SprT.no z52))), AV.d (i64 (NotT.t (SprT.no z52))), AV.d (Dv.sl 1 (partsR (SprT.ps z52))), AV.d (Dv.sl 1 (proofsR (SprT.qs z52))), AV.d (Dv.sl 2 (SprT.rows z52)), AV.d (Dv.sl 1 (digR (SprT.pf z52))), AV.d (i64 (SprT.i1 z52)), AV.d (i64 (SprT.i2 z52)), AV.d (i64 (SprT.i3 z52)), AV.d (i64 (SprT.i4 z52)), AV.d (i64 (SprT.i5 z52))], AV.d (Dv.sl 1 xs90), AV.full 1 [[u64 (IntKind.wrap IntKind.u64 ((BitVec.toNat (BitVec.ofInt 64 z97 ^^^ BitVec.ofInt 64 (1 : Int)) : Nat) : Int))]]] args98 ∧ ∃ (s99 : SprT), ∃ (p100 : List Int), ∃ (q101 : List Int), ∃ (z102 : SprT), ∃ (e103 : Int), args98 = [AV.agg [AV.d (i64 (NotT.v (SprT.no s99))), AV.d (i64 (NotT.n (SprT.no s99))), AV.d (u64 (NotT.r (SprT.no s99))), AV.d (i64 (NotT.t (SprT.no s99))), AV.d (Dv.sl 1 (partsR (SprT.ps s99))), AV.d (Dv.sl 1 (proofsR (SprT.qs s99))), AV.d (Dv.sl 2 (SprT.rows s99)), AV.d (Dv.sl 1 (digR (SprT.pf s99))), AV.d (i64 (SprT.i1 s99)), AV.d (i64 (SprT.i2 s99)), AV.d (i64 (SprT.i3 s99)), AV.d (i64 (SprT.i4 s99)), AV.d (i64 (SprT.i5 s99))], AV.d (Dv.sl 1 (bytesR p100)), AV.d (Dv.sl 1 (digR q101))] ∧ ((List.length (SprT.ps s99) ≤ 9223372036854775807 ∧ List.length q101 ≤ 1000000 ∧ ∀ (x : List Int), x ∈ SprT.qs s99 → List.length x ≤ 1000000) ∧ (z102, e103) = putS s99 p100 q101) ∧ ∃ (args104 : List AV), LeVs [AV.d (Dv.s (Value.slice none 0 0))] args104 ∧ ∃ (p105 : List Int), ∃ (q106 : List (List Int)), ∃ (e107 : Int), args104 = [AV.d (Dv.sl 1 (bytesR p105))] ∧ (List.length p105 ≤ 9223372036854775807 ∧ (q106, e107) = splitE p105) ∧ BIf (e31 == (0 : Int)) (BIf (e35 == (12 : Int)) (BIf (e39 == (1 : Int)) (BIf (e53 == (0 : Int)) (BIf (e71 == (0 : Int)) (BIf (e89 == (10 : Int)) (BIf (e103 == (12 : Int)) (BIf (e107 == (1 : Int)) (BIf (!e57) (BIf e75 (∃ (a108 : List Int), ∃ (c109 : List Int), ∃ (z110 : Bool), [AV.d (Dv.sl 1 (bytesR z30)), AV.d (Dv.sl 1 (bytesR z0))] = [AV.d (Dv.sl 1 (bytesR a108)), AV.d (Dv.sl 1 (bytesR c109))] ∧ (List.length a108 ≤ 9223372036854775807 ∧ z110 = decide (a108 = c109)) ∧ BIf z110 (∃ (a111 : List Int), ∃ (c112 : List Int), ∃ (z113 : Bool), [AV.d (Dv.sl 1 (bytesR z74)), AV.d (Dv.sl 1 (bytesR z0))] = [AV.d (Dv.sl 1 (bytesR a111)), AV.d (Dv.sl 1 (bytesR c112))] ∧ (List.length a111 ≤ 9223372036854775807 ∧ z113 = decide (a111 = c112)) ∧ BIf z113 (R (AV.d (bo (NotT.v z8 == (3 : Int) && (NotT.n z8 == (300 : Int) && (NotT.r z8 == NotT.r z8 && (NotT.t z8 == (50 : Int) && true)))))) b) (R (AV.d (bo false)) b)) (R (AV.d (bo false)) b)) (R (AV.d (bo false)) b)) (R (AV.d (bo false)) b)) (R (AV.d (bo false)) b)) (R (AV.d (bo false)) b)) (R (AV.d (bo false)) b)) (R (AV.d (bo false)) b)) (R (AV.d (bo false)) b)) (R (AV.d (bo false)) b)) (R (AV.d (bo false)) b)) (R (AV.d (bo false)) b))))))))) := by kernel_rfl
end
end Go.Proofs.YtfeemohdpmdaoaaDoor.Am

namespace Go.Proofs.YtfeemohdpmdaoaaDoor.Am
set_option linter.unusedVariables false
open Go Go.RowKit Go.Proofs

def hp0 : List Int := padS (smp.take 256)
def hp1 : List Int := padS (smp.drop 256)
def hR : Int := (rootS [hp0, hp1]).1
def hN : NotT := ⟨3, 300, hR, 50⟩
def hs0 : SprT := ⟨hN, [], [], [], [], 0, 0, 0, 0, 0⟩
def hs1 : SprT := ⟨hN, [hp0], [[leafS hp1]], [], [], 0, 0, 0, 0, 0⟩
def hs2 : SprT := ⟨hN, [hp0, hp1], [[leafS hp1], [leafS hp0]], [], [], 0, 0, 0, 0, 0⟩
def hX : Int := IntKind.wrap IntKind.u64 ((BitVec.toNat (BitVec.ofInt 64 (leafS hp0) ^^^ BitVec.ofInt 64 (1 : Int)) : Nat) : Int)
theorem head_split : splitE smp = ([hp0, hp1], 0) := by decide +kernel
theorem head_split0 : splitE [] = ([], 1) := by decide +kernel
theorem head_root : (rootS [hp0, hp1]).2 = 0 := by decide +kernel
theorem head_len : hp0.length = 256 ∧ hp1.length = 256 ∧ smp.length = 300 := by decide +kernel
theorem head_ann : annS 3 smp 50 = (hN, 0) := by
  have h1 : splitS smp = [hp0, hp1] := by decide +kernel
  have h2 : (sizedS smp.length && announcedS 3 smp.length 50) = true := by decide +kernel
  rw [annS, if_pos h2, h1, head_root, head_len.2.2]; rfl
theorem head_at : hp1[43]? = some 45 ∧ hp1[44]? = some 0 := by decide +kernel
theorem head_join : joinS [hp0, hp1] 300 = (smp, 0) ∧ joinS [hp0, hp1] 299 = ([], 12) ∧ joinS [hp0, hp1] 256 = ([], 1) ∧ joinS [hp0] 300 = ([], 1) := by decide +kernel
theorem head_sound : soundS hs0 = true ∧ soundS hs1 = true ∧ soundS hs2 = true := by decide +kernel
theorem head_proved : provedS hs0 0 hp0 [leafS hp1] = true ∧ provedS hs1 1 hp1 [leafS hp0] = true ∧ provedS hs1 1 hp1 [hX] = false := by decide +kernel
theorem head_count : countS 300 = 2 := by decide +kernel
theorem head_put0 : putS hs0 hp0 [leafS hp1] = (hs1, 0) := by
  rw [putS, if_neg (by rw [head_sound.1, head_len.1]; simp), if_neg (by show ((0 : Nat) : Int) ≠ countS 300; rw [head_count]; decide), if_neg (by show ¬ provedS hs0 0 hp0 [leafS hp1] = false; rw [head_proved.1]; simp)]; rfl
theorem head_put1 : putS hs1 hp1 [leafS hp0] = (hs2, 0) := by
  rw [putS, if_neg (by rw [head_sound.2.1, head_len.2.1]; simp), if_neg (by show ((1 : Nat) : Int) ≠ countS 300; rw [head_count]; decide), if_neg (by show ¬ provedS hs1 1 hp1 [leafS hp0] = false; rw [head_proved.2.1]; simp)]; rfl
theorem head_put2 : putS hs2 hp1 [leafS hp0] = (zeroSp, 10) := by
  rw [putS, if_neg (by rw [head_sound.2.2, head_len.2.1]; simp), if_pos (by show ((2 : Nat) : Int) = countS 300; rw [head_count]; decide)]
theorem head_put3 : putS hs1 hp1 [hX] = (zeroSp, 12) := by
  rw [putS, if_neg (by rw [head_sound.2.1, head_len.2.1]; simp), if_neg (by show ((1 : Nat) : Int) ≠ countS 300; rw [head_count]; decide), if_pos (by show provedS hs1 1 hp1 [hX] = false; exact head_proved.2.2)]
theorem head_whole1 : wholeS hs1 = ([], false) := by
  rw [wholeS, if_pos head_sound.2.1]
  show ((joinS [hp0] 300).1, (joinS [hp0] 300).2 == 0) = _
  rw [head_join.2.2.2]; rfl
theorem head_whole2 : wholeS hs2 = (smp, true) := by
  rw [wholeS, if_pos head_sound.2.2]
  show ((joinS [hp0, hp1] 300).1, (joinS [hp0, hp1] 300).2 == 0) = _
  rw [head_join.1]; rfl
theorem spV_nil (x : NotT) : LeV (AV.agg [AV.d (i64 x.v), AV.d (i64 x.n), AV.d (u64 x.r), AV.d (i64 x.t), nilV, nilV, nilV, nilV, AV.d (i64 0), AV.d (i64 0), AV.d (i64 0), AV.d (i64 0), AV.d (i64 0)]) (spV ⟨x, [], [], [], [], 0, 0, 0, 0, 0⟩) :=
  LeV.aggs (.cons .rfl (.cons .rfl (.cons .rfl (.cons .rfl (.cons (.nil rfl) (.cons (.nil rfl) (.cons (.nil rfl) (.cons (.nil rfl) (LeVs.refl _)))))))))
set_option maxRecDepth 100000 in
theorem pcHead : PCall Tryd.prog 10 [] (.d (bo true)) := by
  refine PCall.ofFn (n := 200) (u := false) mixed THd_ok SCallsOk.nil Tryd.func10 (by rfl) (by rfl) fun Ev bb => ?_
  rw [head_nf]
  obtain ⟨l0, l1, l2⟩ := head_len
  obtain ⟨a1, a2⟩ := head_at
  obtain ⟨j1, j2, j3, j4⟩ := head_join
  have r0 : (partsR [hp0, hp1])[0]? = some [Dv.sl 1 (bytesR hp0)] := rfl
  have r1 : (partsR [hp0, hp1])[1]? = some [Dv.sl 1 (bytesR hp1)] := rfl
  have c1 : (bytesR hp1)[43]? = some [u8 45] := by simp [bytesR, a1]
  have c2 : (bytesR hp1)[44]? = some [u8 0] := by simp [bytesR, a2]
  have q1 : ∀ x ∈ hs0.qs, x.length ≤ 1000000 := by intro x hx; cases hx
  have q2 : ∀ x ∈ hs1.qs, x.length ≤ 1000000 := by intro x hx; simp [hs1] at hx; subst hx; simp
  have q3 : ∀ x ∈ hs2.qs, x.length ≤ 1000000 := by intro x hx; simp [hs2] at hx; rcases hx with rfl | rfl <;> simp
  refine ⟨smp, rfl, rfl, _, LeVs.refl _, smp, [hp0, hp1], 0, rfl, ⟨by omega, head_split.symm⟩, 3, 50, smp, hN, 0, rfl, ⟨by omega, head_ann.symm⟩, BIf.f rfl (BIf.f rfl (BIf.f rfl ⟨bytesR hp0, r0, BIf.f (by rw [bytesR_len, l0]; rfl) ⟨bytesR hp1, r1, BIf.f (by rw [bytesR_len, l1]; rfl) ⟨bytesR hp1, r1, 45, c1, BIf.f rfl ⟨bytesR hp1, r1, 0, c2, BIf.f rfl ?_⟩⟩⟩⟩))⟩
  refine ⟨_, _, smp, 0, rfl, ⟨by simp, j1.symm⟩, _, _, [], 12, rfl, ⟨by simp, j2.symm⟩, _, _, [], 1, rfl, ⟨by simp, j3.symm⟩, ?_⟩
  refine ⟨bytesR hp0, r0, bytesR hp1, r1, hp1, _, rfl, ⟨by omega, rfl⟩, _, .cons (spV_nil hN) (.cons .rfl (.cons .full .nil)), hs0, hp0, [leafS hp1], hs1, 0, rfl, ⟨⟨by simp [hs0], by simp, q1⟩, head_put0.symm⟩, ?_⟩
  refine ⟨_, LeVs.refl _, hs1, [], false, rfl, ⟨by simp [hs1], head_whole1.symm⟩, ?_⟩
  refine ⟨bytesR hp1, r1, bytesR hp0, r0, hp0, _, rfl, ⟨by omega, rfl⟩, _, .cons .rfl (.cons .rfl (.cons .full .nil)), hs1, hp1, [leafS hp0], hs2, 0, rfl, ⟨⟨by simp [hs1], by simp, q2⟩, head_put1.symm⟩, ?_⟩
  refine ⟨_, LeVs.refl _, hs2, smp, true, rfl, ⟨by simp [hs2], head_whole2.symm⟩, ?_⟩
  refine ⟨bytesR hp1, r1, bytesR hp0, r0, hp0, _, rfl, ⟨by omega, rfl⟩, _, .cons .rfl (.cons .rfl (.cons .full .nil)), hs2, hp1, [leafS hp0], zeroSp, 10, rfl, ⟨⟨by simp [hs2], by simp, q3⟩, head_put2.symm⟩, ?_⟩
  refine ⟨bytesR hp1, r1, bytesR hp0, r0, hp0, _, rfl, ⟨by omega, rfl⟩, _, .cons .rfl (.cons .rfl (.cons .full .nil)), hs1, hp1, [hX], zeroSp, 12, rfl, ⟨⟨by simp [hs1], by simp, q2⟩, head_put3.symm⟩, ?_⟩
  refine ⟨_, .cons (.nil rfl) .nil, [], [], 1, rfl, ⟨by simp, head_split0.symm⟩, ?_⟩
  refine BIf.t rfl (BIf.t rfl (BIf.t rfl (BIf.t rfl (BIf.t rfl (BIf.t rfl (BIf.t rfl (BIf.t rfl (BIf.t rfl (BIf.t rfl ⟨smp, smp, true, rfl, ⟨by omega, by simp⟩, BIf.t rfl ⟨smp, smp, true, rfl, ⟨by omega, by simp⟩, BIf.t rfl ?_⟩⟩)))))))))
  have e : (NotT.v hN == 3 && (NotT.n hN == 300 && (NotT.r hN == NotT.r hN && (NotT.t hN == 50 && true)))) = true := by simp [hN]
  rw [e]
def cHead (args : List AV) (K : AV → Prop) : Prop := args = [] ∧ ∃ z : Bool, z = true ∧ K (.d (bo z))
theorem cHead_ok : ∀ args K, cHead args K → ∃ x, PCall Tryd.prog 10 args x ∧ K x := by
  rintro _ K ⟨rfl, _, rfl, h⟩; exact ⟨_, pcHead, h⟩
end Go.Proofs.YtfeemohdpmdaoaaDoor.Am

namespace Go.Proofs.YtfeemohdpmdaoaaDoor.Am
set_option linter.unusedVariables false
set_option maxHeartbeats 0
set_option maxRecDepth 100000
open Go Go.RowKit Go.Proofs

/-! ### the laws: MatchesReference, Inverse, Sizes, Notices -/
def TL3 : List (Nat × (List AV → (AV → Prop) → Prop)) := [(10, cHead), (11, cShort), (12, cFew), (13, cSplitE), (14, cRSplitE), (15, cJoin), (16, cRJoin), (17, cAnnounce), (18, cRAnnounce), (19, cLists), (20, cBytes), (21, cPut), (22, cRPut), (23, cWhole), (24, cRWhole), (25, cRSame)]
theorem TL3_ok : CallsOk Tryd.prog TL3 := CallsOk.cons cHead_ok (CallsOk.cons cShort_ok (CallsOk.cons cFew_ok (CallsOk.cons cSplitE_ok (CallsOk.cons cRSplitE_ok (CallsOk.cons cJoin_ok (CallsOk.cons cRJoin_ok (CallsOk.cons cAnnounce_ok (CallsOk.cons cRAnnounce_ok (CallsOk.cons cLists_ok (CallsOk.cons cBytes_ok (CallsOk.cons cPut_ok (CallsOk.cons cRPut_ok (CallsOk.cons cWhole_ok (CallsOk.cons cRWhole_ok (CallsOk.cons cRSame_ok CallsOk.nil)))))))))))))))
section
variable {β : Type} (wl : WLT β) (y : YieldT β) (b : β) (R : AV → β → Prop) (K : Exit → List AV → List Blk → β → Prop)
theorem f3_nf (p ps : List (List Dv)) (n v t : Int) (s : SprT) (pg pf : List (List Dv)) : wpFn Tryd.prog ⟨TL3, [], wl, y, false⟩ 200 Tryd.f3 [.d (.sl 1 p), .d (.sl 1 ps), .d (i64 n), .d (i64 v), .d (i64 t), spV s, .d (.sl 1 pg), .d (.sl 1 pf)] b R = ( ([] : List AV) = [] ∧ ∃ (z0 : Bool), z0 = true ∧ ∃ (d1 : List Int), ∃ (ps2 : List (List Int)), ∃ (z3 : Bool), [AV.d (Dv.sl 1 p), AV.d (Dv.sl 1 ps)] = [AV.d (Dv.sl 1 (bytesR d1)), AV.d (Dv.sl 1 (partsR ps2))] ∧ (List.length ps2 ≤ 9223372036854775807 ∧ z3 = shortS d1 ps2) ∧ BIf (!z3) (R (AV.d (bo z0)) b) (∃ (s4 : SprT), ∃ (z5 : Bool), [AV.agg [AV.d (i64 (NotT.v (SprT.no s))), AV.d (i64 (NotT.n (SprT.no s))), AV.d (u64 (NotT.r (SprT.no s))), AV.d (i64 (NotT.t (SprT.no s))), AV.d (Dv.sl 1 (partsR (SprT.ps s))), AV.d (Dv.sl 1 (proofsR (SprT.qs s))), AV.d (Dv.sl 2 (SprT.rows s)), AV.d (Dv.sl 1 (digR (SprT.pf s))), AV.d (i64 (SprT.i1 s)), AV.d (i64 (SprT.i2 s)), AV.d (i64 (SprT.i3 s)), AV.d (i64 (SprT.i4 s)), AV.d (i64 (SprT.i5 s))]] = [AV.agg [AV.d (i64 (NotT.v (SprT.no s4))), AV.d (i64 (NotT.n (SprT.no s4))), AV.d (u64 (NotT.r (SprT.no s4))), AV.d (i64 (NotT.t (SprT.no s4))), AV.d (Dv.sl 1 (partsR (SprT.ps s4))), AV.d (Dv.sl 1 (proofsR (SprT.qs s4))), AV.d (Dv.sl 2 (SprT.rows s4)), AV.d (Dv.sl 1 (digR (SprT.pf s4))), AV.d (i64 (SprT.i1 s4)), AV.d (i64 (SprT.i2 s4)), AV.d (i64 (SprT.i3 s4)), AV.d (i64 (SprT.i4 s4)), AV.d (i64 (SprT.i5 s4))]] ∧ ((∀ (r : List Dv), r ∈ SprT.rows s4 → ∃ (m6 : Int), ∃ (xs7 : List (List Dv)), r = [i64 m6, Dv.sl 1 xs7]) ∧ z5 = fewS s4) ∧ BIf (!z5) (R (AV.d (bo z0)) b) (BIf (decide (((List.length pg : Nat) : Int) > (1000 : Int))) (R (AV.d (bo z0)) b) (BIf (decide (((List.length pf : Nat) : Int) > (40 : Int))) (R (AV.d (bo z0)) b) (∃ (p8 : List Int), ∃ (q9 : List (List Int)), ∃ (e10 : Int), [AV.d (Dv.sl 1 p)] = [AV.d (Dv.sl 1 (bytesR p8))] ∧ (List.length p8 ≤ 9223372036854775807 ∧ (q9, e10) = splitE p8) ∧ ∃ (p11 : List Int), ∃ (q12 : List (List Int)), ∃ (e13 : Int), [AV.d (Dv.sl 1 p)] = [AV.d (Dv.sl 1 (bytesR p11))] ∧ (List.length p11 ≤ 9223372036854775807 ∧ (q12, e13) = splitE p11) ∧ ∃ (ps14 : List (List Int)), ∃ (n15 : Int), ∃ (z16 : List Int), ∃ (e17 : Int), [AV.d (Dv.sl 1 ps), AV.d (i64 n)] = [AV.d (Dv.sl 1 (partsR ps14)), AV.d (i64 n15)] ∧ (List.length ps14 ≤ 9223372036854775807 ∧ (z16, e17) = joinS ps14 n15) ∧ ∃ (ps18 : List (List Int)), ∃ (n19 : Int), ∃ (z20 : List Int), ∃ (e21 : Int), [AV.d (Dv.sl 1 ps), AV.d (i64 n)] = [AV.d (Dv.sl 1 (partsR ps18)), AV.d (i64 n19)] ∧ (List.length ps18 ≤ 9223372036854775807 ∧ (z20, e21) = joinS ps18 n19) ∧ ∃ (v22 : Int), ∃ (t23 : Int), ∃ (p24 : List Int), ∃ (z25 : NotT), ∃ (e26 : Int), [AV.d (i64 v), AV.d (Dv.sl 1 p), AV.d (i64 t)] = [AV.d (i64 v22), AV.d (Dv.sl 1 (bytesR p24)), AV.d (i64 t23)] ∧ (List.length p24 ≤ 9223372036854775807 ∧ (z25, e26) = annS v22 p24 t23) ∧ ∃ (v27 : Int), ∃ (t28 : Int), ∃ (p29 : List Int), ∃ (z30 : NotT), ∃ (e31 : Int), [AV.d (i64 v), AV.d (Dv.sl 1 p), AV.d (i64 t)] = [AV.d (i64 v27), AV.d (Dv.sl 1 (bytesR p29)), AV.d (i64 t28)] ∧ (List.length p29 ≤ 9223372036854775807 ∧ (z30, e31) = annS v27 p29 t28) ∧ ∃ (a32 : List (List Int)), ∃ (c33 : List (List Int)), ∃ (z34 : Bool), [AV.d (Dv.sl 1 (partsR q9)), AV.d (Dv.sl 1 (partsR q12))] = [AV.d (Dv.sl 1 (partsR a32)), AV.d (Dv.sl 1 (partsR c33))] ∧ ((List.length a32 ≤ 9223372036854775807 ∧ ∀ (p : List Int), p ∈ a32 → List.length p ≤ 9223372036854775807) ∧ z34 = decide (a32 = c33)) ∧ BIf (!z34) (R (AV.d (bo false)) b) (BIf (e10 != e13) (R (AV.d (bo false)) b) (∃ (a37 : List Int), ∃ (c38 : List Int), ∃ (z39 : Bool), [AV.d (Dv.sl 1 (bytesR z16)), AV.d (Dv.sl 1 (bytesR z20))] = [AV.d (Dv.sl 1 (bytesR a37)), AV.d (Dv.sl 1 (bytesR c38))] ∧ (List.length a37 ≤ 9223372036854775807 ∧ z39 = decide (a37 = c38)) ∧ BIf (!z39) (R (AV.d (bo false)) b) (BIf (e17 != e21) (R (AV.d (bo false)) b) (BIf (!(NotT.v z25 == NotT.v z30 && (NotT.n z25 == NotT.n z30 && (NotT.r z25 == NotT.r z30 && (NotT.t z25 == NotT.t z30 && true))))) (R (AV.d (bo false)) b) (BIf (e26 != e31) (R (AV.d (bo false)) b) (∃ (s40 : SprT), ∃ (p41 : List Int), ∃ (q42 : List Int), ∃ (z43 : SprT), ∃ (e44 : Int), [AV.agg [AV.d (i64 (NotT.v (SprT.no s))), AV.d (i64 (NotT.n (SprT.no s))), AV.d (u64 (NotT.r (SprT.no s))), AV.d (i64 (NotT.t (SprT.no s))), AV.d (Dv.sl 1 (partsR (SprT.ps s))), AV.d (Dv.sl 1 (proofsR (SprT.qs s))), AV.d (Dv.sl 2 (SprT.rows s)), AV.d (Dv.sl 1 (digR (SprT.pf s))), AV.d (i64 (SprT.i1 s)), AV.d (i64 (SprT.i2 s)), AV.d (i64 (SprT.i3 s)), AV.d (i64 (SprT.i4 s)), AV.d (i64 (SprT.i5 s))], AV.d (Dv.sl 1 pg), AV.d (Dv.sl 1 pf)] = [AV.agg [AV.d (i64 (NotT.v (SprT.no s40))), AV.d (i64 (NotT.n (SprT.no s40))), AV.d (u64 (NotT.r (SprT.no s40))), AV.d (i64 (NotT.t (SprT.no s40))), AV.d (Dv.sl 1 (partsR (SprT.ps s40))), AV.d (Dv.sl 1 (proofsR (SprT.qs s40))), AV.d (Dv.sl 2 (SprT.rows s40)), AV.d (Dv.sl 1 (digR (SprT.pf s40))), AV.d (i64 (SprT.i1 s40)), AV.d (i64 (SprT.i2 s40)), AV.d (i64 (SprT.i3 s40)), AV.d (i64 (SprT.i4 s40)), AV.d (i64 (SprT.i5 s40))], AV.d (Dv.sl 1 (bytesR p41)), AV.d (Dv.sl 1 (digR q42))] ∧ ((List.length (SprT.ps s40) ≤ 9223372036854775807 ∧ List.length q42 ≤ 1000000 ∧ ∀ (x : List Int), x ∈ SprT.qs s40 → List.length x ≤ 1000000) ∧ (z43, e44) = putS s40 p41 q42) ∧ ∃ (s45 : SprT), ∃ (p46 : List Int), ∃ (q47 : List Int), ∃ (z48 : SprT), ∃ (e49 : Int), [AV.agg [AV.d (i64 (NotT.v (SprT.no s))), AV.d (i64 (NotT.n (SprT.no s))), AV.d (u64 (NotT.r (SprT.no s))), AV.d (i64 (NotT.t (SprT.no s))), AV.d (Dv.sl 1 (partsR (SprT.ps s))), AV.d (Dv.sl 1 (proofsR (SprT.qs s))), AV.d (Dv.sl 2 (SprT.rows s)), AV.d (Dv.sl 1 (digR (SprT.pf s))), AV.d (i64 (SprT.i1 s)), AV.d (i64 (SprT.i2 s)), AV.d (i64 (SprT.i3 s)), AV.d (i64 (SprT.i4 s)), AV.d (i64 (SprT.i5 s))], AV.d (Dv.sl 1 pg), AV.d (Dv.sl 1 pf)] = [AV.agg [AV.d (i64 (NotT.v (SprT.no s45))), AV.d (i64 (NotT.n (SprT.no s45))), AV.d (u64 (NotT.r (SprT.no s45))), AV.d (i64 (NotT.t (SprT.no s45))), AV.d (Dv.sl 1 (partsR (SprT.ps s45))), AV.d (Dv.sl 1 (proofsR (SprT.qs s45))), AV.d (Dv.sl 2 (SprT.rows s45)), AV.d (Dv.sl 1 (digR (SprT.pf s45))), AV.d (i64 (SprT.i1 s45)), AV.d (i64 (SprT.i2 s45)), AV.d (i64 (SprT.i3 s45)), AV.d (i64 (SprT.i4 s45)), AV.d (i64 (SprT.i5 s45))], AV.d (Dv.sl 1 (bytesR p46)), AV.d (Dv.sl 1 (digR q47))] ∧ ((List.length (SprT.ps s45) ≤ 9223372036854775807 ∧ List.length q47 ≤ 1000000 ∧ ∀ (x : List Int), x ∈ SprT.qs s45 → List.length x ≤ 1000000) ∧ (z48, e49) = putS s45 p46 q47) ∧ ∃ (s50 : SprT), ∃ (z51 : List Int), ∃ (e52 : Bool), [AV.agg [AV.d (i64 (NotT.v (SprT.no s))), AV.d (i64 (NotT.n (SprT.no s))), AV.d (u64 (NotT.r (SprT.no s))), AV.d (i64 (NotT.t (SprT.no s))), AV.d (Dv.sl 1 (partsR (SprT.ps s))), AV.d (Dv.sl 1 (proofsR (SprT.qs s))), AV.d (Dv.sl 2 (SprT.rows s)), AV.d (Dv.sl 1 (digR (SprT.pf s))), AV.d (i64 (SprT.i1 s)), AV.d (i64 (SprT.i2 s)), AV.d (i64 (SprT.i3 s)), AV.d (i64 (SprT.i4 s)), AV.d (i64 (SprT.i5 s))]] = [AV.agg [AV.d (i64 (NotT.v (SprT.no s50))), AV.d (i64 (NotT.n (SprT.no s50))), AV.d (u64 (NotT.r (SprT.no s50))), AV.d (i64 (NotT.t (SprT.no s50))), AV.d (Dv.sl 1 (partsR (SprT.ps s50))), AV.d (Dv.sl 1 (proofsR (SprT.qs s50))), AV.d (Dv.sl 2 (SprT.rows s50)), AV.d (Dv.sl 1 (digR (SprT.pf s50))), AV.d (i64 (SprT.i1 s50)), AV.d (i64 (SprT.i2 s50)), AV.d (i64 (SprT.i3 s50)), AV.d (i64 (SprT.i4 s50)), AV.d (i64 (SprT.i5 s50))]] ∧ (List.length (SprT.ps s50) ≤ 9223372036854775807 ∧ (z51, e52) = wholeS s50) ∧ ∃ (s53 : SprT), ∃ (z54 : List Int), ∃ (e55 : Bool), [AV.agg [AV.d (i64 (NotT.v (SprT.no s))), AV.d (i64 (NotT.n (SprT.no s))), AV.d (u64 (NotT.r (SprT.no s))), AV.d (i64 (NotT.t (SprT.no s))), AV.d (Dv.sl 1 (partsR (SprT.ps s))), AV.d (Dv.sl 1 (proofsR (SprT.qs s))), AV.d (Dv.sl 2 (SprT.rows s)), AV.d (Dv.sl 1 (digR (SprT.pf s))), AV.d (i64 (SprT.i1 s)), AV.d (i64 (SprT.i2 s)), AV.d (i64 (SprT.i3 s)), AV.d (i64 (SprT.i4 s)), AV.d (i64 (SprT.i5 s))]] = [AV.agg [AV.d (i64 (NotT.v (SprT.no s53))), AV.d (i64 (NotT.n (SprT.no s53))), AV.d (u64 (NotT.r (SprT.no s53))), AV.d (i64 (NotT.t (SprT.no s53))), AV.d (Dv.sl 1 (partsR (SprT.ps s53))), AV.d (Dv.sl 1 (proofsR (SprT.qs s53))), AV.d (Dv.sl 2 (SprT.rows s53)), AV.d (Dv.sl 1 (digR (SprT.pf s53))), AV.d (i64 (SprT.i1 s53)), AV.d (i64 (SprT.i2 s53)), AV.d (i64 (SprT.i3 s53)), AV.d (i64 (SprT.i4 s53)), AV.d (i64 (SprT.i5 s53))]] ∧ (List.length (SprT.ps s53) ≤ 9223372036854775807 ∧ (z54, e55) = wholeS s53) ∧ BIf z0 (∃ (s56 : SprT), ∃ (s57 : SprT), ∃ (z58 : Bool), [AV.agg [AV.d (i64 (NotT.v (SprT.no z43))), AV.d (i64 (NotT.n (SprT.no z43))), AV.d (u64 (NotT.r (SprT.no z43))), AV.d (i64 (NotT.t (SprT.no z43))), AV.d (Dv.sl 1 (partsR (SprT.ps z43))), AV.d (Dv.sl 1 (proofsR (SprT.qs z43))), AV.d (Dv.sl 2 (SprT.rows z43)), AV.d (Dv.sl 1 (digR (SprT.pf z43))), AV.d (i64 (SprT.i1 z43)), AV.d (i64 (SprT.i2 z43)), AV.d (i64 (SprT.i3 z43)), AV.d (i64 (SprT.i4 z43)), AV.d (i64 (SprT.i5 z43))], AV.agg [AV.d (i64 (NotT.v (SprT.no z48))), AV.d (i64 (NotT.n (SprT.no z48))), AV.d (u64 (NotT.r (SprT.no z48))), AV.d (i64 (NotT.t (SprT.no z48))), AV.d (Dv.sl 1 (partsR (SprT.ps z48))), AV.d (Dv.sl 1 (proofsR (SprT.qs z48))), AV.d (Dv.sl 2 (SprT.rows z48)), AV.d (Dv.sl 1 (digR (SprT.pf z48))), AV.d (i64 (SprT.i1 z48)), AV.d (i64 (SprT.i2 z48)), AV.d (i64 (SprT.i3 z48)), AV.d (i64 (SprT.i4 z48)), AV.d (i64 (SprT.i5 z48))]] = [AV.agg [AV.d (i64 (NotT.v (SprT.no s56))), AV.d (i64 (NotT.n (SprT.no s56))), AV.d (u64 (NotT.r (SprT.no s56))), AV.d (i64 (NotT.t (SprT.no s56))), AV.d (Dv.sl 1 (partsR (SprT.ps s56))), AV.d (Dv.sl 1 (proofsR (SprT.qs s56))), AV.d (Dv.sl 2 (SprT.rows s56)), AV.d (Dv.sl 1 (digR (SprT.pf s56))), AV.d (i64 (SprT.i1 s56)), AV.d (i64 (SprT.i2 s56)), AV.d (i64 (SprT.i3 s56)), AV.d (i64 (SprT.i4 s56)), AV.d (i64 (SprT.i5 s56))], AV.agg [AV.d (i64 (NotT.v (SprT.no s57))), AV.d (i64 (NotT.n (SprT.no s57))), AV.d (u64 (NotT.r (SprT.no s57))), AV.d (i64 (NotT.t (SprT.no s57))), AV.d (Dv.sl 1 (partsR (SprT.ps s57))), AV.d (Dv.sl 1 (proofsR (SprT.qs s57))), AV.d (Dv.sl 2 (SprT.rows s57)), AV.d (Dv.sl 1 (digR (SprT.pf s57))), AV.d (i64 (SprT.i1 s57)), AV.d (i64 (SprT.i2 s57)), AV.d (i64 (SprT.i3 s57)), AV.d (i64 (SprT.i4 s57)), AV.d (i64 (SprT.i5 s57))]] ∧ ((SprT.rows s56 = [] ∧ SprT.rows s57 = [] ∧ (List.length (SprT.ps s56) ≤ 9223372036854775807 ∧ ∀ (p : List Int), p ∈ SprT.ps s56 → List.length p ≤ 9223372036854775807) ∧ (List.length (SprT.qs s56) ≤ 9223372036854775807 ∧ ∀ (p : List Int), p ∈ SprT.qs s56 → List.length p ≤ 9223372036854775807) ∧ List.length (SprT.pf s56) ≤ 9223372036854775807) ∧ z58 = sameS s56 s57) ∧ BIf z58 (BIf (e44 == e49) (∃ (a59 : List Int), ∃ (c60 : List Int), ∃ (z61 : Bool), [AV.d (Dv.sl 1 (bytesR z51)), AV.d (Dv.sl 1 (bytesR z54))] = [AV.d (Dv.sl 1 (bytesR a59)), AV.d (Dv.sl 1 (bytesR c60))] ∧ (List.length a59 ≤ 9223372036854775807 ∧ z61 = decide (a59 = c60)) ∧ BIf z61 (R (AV.d (bo (e52 == e55))) b) (R (AV.d (bo false)) b)) (R (AV.d (bo false)) b)) (R (AV.d (bo false)) b)) (R (AV.d (bo false)) b)))))))))))) := by kernel_rfl
theorem f4_nf (p ps : List (List Dv)) (n : Int) : wpFn Tryd.prog ⟨TL3, [], wl, y, false⟩ 200 Tryd.f4 [.d (.sl 1 p), .d (.sl 1 ps), .d (i64 n)] b R = ( ([] : List AV) = [] ∧ ∃ (z0 : Bool), z0 = true ∧ ∃ (d1 : List Int), ∃ (ps2 : List (List Int)), ∃ (z3 : Bool), [AV.d (Dv.sl 1 p), AV.d (Dv.sl 1 ps)] = [AV.d (Dv.sl 1 (bytesR d1)), AV.d (Dv.sl 1 (partsR ps2))] ∧ (List.length ps2 ≤ 9223372036854775807 ∧ z3 = shortS d1 ps2) ∧ BIf (!z3) (R (AV.d (bo z0)) b) (∃ (p4 : List Int), ∃ (q5 : List (List Int)), ∃ (e6 : Int), [AV.d (Dv.sl 1 p)] = [AV.d (Dv.sl 1 (bytesR p4))] ∧ (List.length p4 ≤ 9223372036854775807 ∧ (q5, e6) = splitE p4) ∧ BIf (decide (((List.length p : Nat) : Int) ≥ (1 : Int))) (BIf (!(e6 == (0 : Int)) == decide (((List.length p : Nat) : Int) ≤ (4096 : Int))) (R (AV.d (bo false)) b) (BIf (e6 == (0 : Int)) (∃ (ps7 : List (List Int)), ∃ (n8 : Int), ∃ (z9 : List Int), ∃ (e10 : Int), [AV.d (Dv.sl 1 (partsR q5)), AV.d (i64 ((List.length p : Nat) : Int))] = [AV.d (Dv.sl 1 (partsR ps7)), AV.d (i64 n8)] ∧ (List.length ps7 ≤ 9223372036854775807 ∧ (z9, e10) = joinS ps7 n8) ∧ BIf (e10 != (0 : Int)) (R (AV.d (bo false)) b) (∃ (a11 : List Int), ∃ (c12 : List Int), ∃ (z13 : Bool), [AV.d (Dv.sl 1 (bytesR z9)), AV.d (Dv.sl 1 p)] = [AV.d (Dv.sl 1 (bytesR a11)), AV.d (Dv.sl 1 (bytesR c12))] ∧ (List.length a11 ≤ 9223372036854775807 ∧ z13 = decide (a11 = c12)) ∧ BIf (!z13) (R (AV.d (bo false)) b) (∃ (ps14 : List (List Int)), ∃ (n15 : Int), ∃ (z16 : List Int), ∃ (e17 : Int), [AV.d (Dv.sl 1 ps), AV.d (i64 n)] = [AV.d (Dv.sl 1 (partsR ps14)), AV.d (i64 n15)] ∧ (List.length ps14 ≤ 9223372036854775807 ∧ (z16, e17) = joinS ps14 n15) ∧ BIf (e17 != (0 : Int)) (R (AV.d (bo z0)) b) (∃ (p18 : List Int), ∃ (q19 : List (List Int)), ∃ (e20 : Int), [AV.d (Dv.sl 1 (bytesR z16))] = [AV.d (Dv.sl 1 (bytesR p18))] ∧ (List.length p18 ≤ 9223372036854775807 ∧ (q19, e20) = splitE p18) ∧ BIf z0 (BIf (e20 == (0 : Int)) (BIf (((List.length (bytesR z16) : Nat) : Int) == n) (∃ (a21 : List (List Int)), ∃ (c22 : List (List Int)), ∃ (z23 : Bool), [AV.d (Dv.sl 1 (partsR q19)), AV.d (Dv.sl 1 ps)] = [AV.d (Dv.sl 1 (partsR a21)), AV.d (Dv.sl 1 (partsR c22))] ∧ ((List.length a21 ≤ 9223372036854775807 ∧ ∀ (p : List Int), p ∈ a21 → List.length p ≤ 9223372036854775807) ∧ z23 = decide (a21 = c22)) ∧ R (AV.d (bo z23)) b) (R (AV.d (bo false)) b)) (R (AV.d (bo false)) b)) (R (AV.d (bo false)) b))))) (∃ (ps26 : List (List Int)), ∃ (n27 : Int), ∃ (z28 : List Int), ∃ (e29 : Int), [AV.d (Dv.sl 1 ps), AV.d (i64 n)] = [AV.d (Dv.sl 1 (partsR ps26)), AV.d (i64 n27)] ∧ (List.length ps26 ≤ 9223372036854775807 ∧ (z28, e29) = joinS ps26 n27) ∧ BIf (e29 != (0 : Int)) (R (AV.d (bo z0)) b) (∃ (p30 : List Int), ∃ (q31 : List (List Int)), ∃ (e32 : Int), [AV.d (Dv.sl 1 (bytesR z28))] = [AV.d (Dv.sl 1 (bytesR p30))] ∧ (List.length p30 ≤ 9223372036854775807 ∧ (q31, e32) = splitE p30) ∧ BIf z0 (BIf (e32 == (0 : Int)) (BIf (((List.length (bytesR z28) : Nat) : Int) == n) (∃ (a33 : List (List Int)), ∃ (c34 : List (List Int)), ∃ (z35 : Bool), [AV.d (Dv.sl 1 (partsR q31)), AV.d (Dv.sl 1 ps)] = [AV.d (Dv.sl 1 (partsR a33)), AV.d (Dv.sl 1 (partsR c34))] ∧ ((List.length a33 ≤ 9223372036854775807 ∧ ∀ (p : List Int), p ∈ a33 → List.length p ≤ 9223372036854775807) ∧ z35 = decide (a33 = c34)) ∧ R (AV.d (bo z35)) b) (R (AV.d (bo false)) b)) (R (AV.d (bo false)) b)) (R (AV.d (bo false)) b))))) (BIf (!(e6 == (0 : Int)) == false) (R (AV.d (bo false)) b) (BIf (e6 == (0 : Int)) (∃ (ps38 : List (List Int)), ∃ (n39 : Int), ∃ (z40 : List Int), ∃ (e41 : Int), [AV.d (Dv.sl 1 (partsR q5)), AV.d (i64 ((List.length p : Nat) : Int))] = [AV.d (Dv.sl 1 (partsR ps38)), AV.d (i64 n39)] ∧ (List.length ps38 ≤ 9223372036854775807 ∧ (z40, e41) = joinS ps38 n39) ∧ BIf (e41 != (0 : Int)) (R (AV.d (bo false)) b) (∃ (a42 : List Int), ∃ (c43 : List Int), ∃ (z44 : Bool), [AV.d (Dv.sl 1 (bytesR z40)), AV.d (Dv.sl 1 p)] = [AV.d (Dv.sl 1 (bytesR a42)), AV.d (Dv.sl 1 (bytesR c43))] ∧ (List.length a42 ≤ 9223372036854775807 ∧ z44 = decide (a42 = c43)) ∧ BIf (!z44) (R (AV.d (bo false)) b) (∃ (ps45 : List (List Int)), ∃ (n46 : Int), ∃ (z47 : List Int), ∃ (e48 : Int), [AV.d (Dv.sl 1 ps), AV.d (i64 n)] = [AV.d (Dv.sl 1 (partsR ps45)), AV.d (i64 n46)] ∧ (List.length ps45 ≤ 9223372036854775807 ∧ (z47, e48) = joinS ps45 n46) ∧ BIf (e48 != (0 : Int)) (R (AV.d (bo z0)) b) (∃ (p49 : List Int), ∃ (q50 : List (List Int)), ∃ (e51 : Int), [AV.d (Dv.sl 1 (bytesR z47))] = [AV.d (Dv.sl 1 (bytesR p49))] ∧ (List.length p49 ≤ 9223372036854775807 ∧ (q50, e51) = splitE p49) ∧ BIf z0 (BIf (e51 == (0 : Int)) (BIf (((List.length (bytesR z47) : Nat) : Int) == n) (∃ (a52 : List (List Int)), ∃ (c53 : List (List Int)), ∃ (z54 : Bool), [AV.d (Dv.sl 1 (partsR q50)), AV.d (Dv.sl 1 ps)] = [AV.d (Dv.sl 1 (partsR a52)), AV.d (Dv.sl 1 (partsR c53))] ∧ ((List.length a52 ≤ 9223372036854775807 ∧ ∀ (p : List Int), p ∈ a52 → List.length p ≤ 9223372036854775807) ∧ z54 = decide (a52 = c53)) ∧ R (AV.d (bo z54)) b) (R (AV.d (bo false)) b)) (R (AV.d (bo false)) b)) (R (AV.d (bo false)) b))))) (∃ (ps57 : List (List Int)), ∃ (n58 : Int), ∃ (z59 : List Int), ∃ (e60 : Int), [AV.d (Dv.sl 1 ps), AV.d (i64 n)] = [AV.d (Dv.sl 1 (partsR ps57)), AV.d (i64 n58)] ∧ (List.length ps57 ≤ 9223372036854775807 ∧ (z59, e60) = joinS ps57 n58) ∧ BIf (e60 != (0 : Int)) (R (AV.d (bo z0)) b) (∃ (p61 : List Int), ∃ (q62 : List (List Int)), ∃ (e63 : Int), [AV.d (Dv.sl 1 (bytesR z59))] = [AV.d (Dv.sl 1 (bytesR p61))] ∧ (List.length p61 ≤ 9223372036854775807 ∧ (q62, e63) = splitE p61) ∧ BIf z0 (BIf (e63 == (0 : Int)) (BIf (((List.length (bytesR z59) : Nat) : Int) == n) (∃ (a64 : List (List Int)), ∃ (c65 : List (List Int)), ∃ (z66 : Bool), [AV.d (Dv.sl 1 (partsR q62)), AV.d (Dv.sl 1 ps)] = [AV.d (Dv.sl 1 (partsR a64)), AV.d (Dv.sl 1 (partsR c65))] ∧ ((List.length a64 ≤ 9223372036854775807 ∧ ∀ (p : List Int), p ∈ a64 → List.length p ≤ 9223372036854775807) ∧ z66 = decide (a64 = c65)) ∧ R (AV.d (bo z66)) b) (R (AV.d (bo false)) b)) (R (AV.d (bo false)) b)) (R (AV.d (bo false)) b))))))) := by kernel_rfl
end
end Go.Proofs.YtfeemohdpmdaoaaDoor.Am

namespace Go.Proofs.YtfeemohdpmdaoaaDoor.Am
set_option linter.unusedVariables false
open Go Go.RowKit Go.Proofs

/-! ### plain facts of pages -/
theorem split_flat : ∀ (n : Nat) (p : List Int), p.length ≤ n → ∃ z, ((chunkD 256 n p).map padS).flatten = p ++ List.replicate z 0
  | 0, p, h => by
    have : p = [] := List.length_eq_zero_iff.1 (by omega)
    subst this; exact ⟨0, rfl⟩
  | n + 1, p, h => by
    rw [chunkD]
    cases hp : p with
    | nil => exact ⟨0, rfl⟩
    | cons a l =>
      rw [if_neg (by simp), ← hp, List.map_cons, List.flatten_cons]
      have hl : 1 ≤ p.length := by rw [hp]; simp
      obtain ⟨z, hz⟩ := split_flat n (p.drop 256) (by simp; omega)
      rw [hz]
      by_cases h256 : 256 ≤ p.length
      · refine ⟨z, ?_⟩
        have : padS (p.take 256) = p.take 256 := by
          have e : (p.take 256).length = 256 := by simp; omega
          rw [padS, e]; simp
        rw [this, ← List.append_assoc, List.take_append_drop]
      · refine ⟨(256 - p.length) + z, ?_⟩
        rw [List.take_of_length_le (by omega), List.drop_of_length_le (by omega), List.nil_append, padS, List.append_assoc, List.replicate_append_replicate]
theorem all_zeros (z : Nat) : (List.replicate z (0 : Int)).all (· == 0) = true := List.all_eq_true.2 fun x hx => by rw [(List.mem_replicate.1 hx).2]; rfl
theorem split_all {p : List Int} : anyOther (splitS p) = false := by
  rw [anyOther, List.any_eq_false]
  intro q hq
  rw [split_pieces] at hq
  obtain ⟨i, _, rfl⟩ := List.mem_map.1 hq
  have := padS_len (piece_len p i)
  simp; omega
theorem split_len (p : List Int) : (splitS p).length = (p.length + 255) / 256 := by rw [split_pieces]; simp
/-- the pages of a program, joined for a size -/
theorem join_split {p : List Int} {n : Nat} (hn : sizedS (n : Int) = true) (hc : (n + 255) / 256 = (p.length + 255) / 256) :
    joinS (splitS p) n = if (p.drop n).all (· == 0) then ((p ++ List.replicate (n - p.length) 0).take n, 0) else ([], 12) := by
  obtain ⟨k, hk, h1, h2⟩ := sized_nat hn
  have hk : n = k := by omega
  subst hk
  obtain ⟨z, hz⟩ := split_flat p.length p (Nat.le_refl _)
  have hz : (splitS p).flatten = p ++ List.replicate z 0 := hz
  have hg : ((!sizedS (n : Int)) || ((((splitS p).length : Int) != countS n) || anyOther (splitS p))) = false := by
    rw [hn, split_all, split_len, countS_eq (by omega), hc]; simp
  have hs := sum_pages (ps := splitS p) split_all
  rw [hz, split_len] at hs
  rw [joinS, if_neg (by rw [hg]; simp), Int.toNat_natCast, hz]
  simp only [List.length_append, List.length_replicate] at hs
  have hd : (p ++ List.replicate z 0).drop n = p.drop n ++ List.replicate (z - (n - p.length)) 0 := by
    rw [List.drop_append, List.drop_replicate]
  have hall : ((p ++ List.replicate z 0).drop n).all (· == 0) = (p.drop n).all (· == 0) := by
    rw [hd, List.all_append, all_zeros, Bool.and_true]
  have ht : (p ++ List.replicate z 0).take n = (p ++ List.replicate (n - p.length) 0).take n := by
    rw [List.take_append, List.take_append, List.take_replicate, List.take_replicate]
    congr 2; omega
  by_cases h : (p.drop n).all (· == 0) = true
  · rw [if_neg (by rw [trimS_all, hall, h]; simp), if_pos h, ht]
  · rw [if_pos (by rw [trimS_all, hall]; simpa using h), if_neg h]
/-- joined pages, split -/
theorem split_join : ∀ (ps : List (List Int)) (n m : Nat), (∀ p ∈ ps, p.length = 256) → n ≤ 256 * ps.length → 256 * ps.length < n + 256 → n ≤ m → (ps.flatten.drop n).all (· == 0) = true → (chunkD 256 m (ps.flatten.take n)).map padS = ps
  | [], n, m, h1, h2, h3, h4, h5 => by
    simp only [List.flatten_nil, List.take_nil]
    cases m with
    | zero => rfl
    | succ m => rfl
  | p :: ps, n, m, h1, h2, h3, h4, h5 => by
    have hp := h1 p (List.mem_cons_self ..)
    rw [List.length_cons] at h2 h3
    rw [List.flatten_cons] at h5 ⊢
    cases m with
    | zero => omega
    | succ m =>
      by_cases hn : 256 < n
      · have e1 : (p ++ ps.flatten).take n = p ++ ps.flatten.take (n - 256) := by rw [List.take_append, List.take_of_length_le (by omega), hp]
        rw [e1, chunkD, if_neg (by simp; intro h; rw [h] at hp; simp at hp)]
        have e2 : (p ++ ps.flatten.take (n - 256)).take 256 = p := List.take_left' hp
        have e3 : (p ++ ps.flatten.take (n - 256)).drop 256 = ps.flatten.take (n - 256) := List.drop_left' hp
        rw [e2, e3, List.map_cons]
        have e4 : padS p = p := by rw [padS, hp]; simp
        have h5' : (ps.flatten.drop (n - 256)).all (· == 0) = true := by
          rw [List.drop_append, List.drop_of_length_le (by omega), List.nil_append, hp] at h5; exact h5
        rw [e4, split_join ps (n - 256) m (fun q hq => h1 q (List.mem_cons_of_mem _ hq)) (by omega) (by omega) (by omega) h5']
      · have hps : ps = [] := List.length_eq_zero_iff.1 (by omega)
        subst hps
        simp only [List.flatten_nil, List.append_nil] at h5 ⊢
        have hn1 : 1 ≤ n := by simp at h3; omega
        have hl : (p.take n).length = n := by simp; omega
        rw [chunkD, if_neg (by intro h; rw [List.isEmpty_iff] at h; rw [h] at hl; simp at hl; omega)]
        rw [List.take_of_length_le (by omega), List.drop_of_length_le (by omega)]
        have e0 : chunkD 256 m ([] : List Int) = [] := by cases m <;> rfl
        rw [e0, List.map_cons, List.map_nil, padS, hl]
        have e5 : p.drop n = List.replicate (256 - n) 0 := by
          apply List.ext_getElem
          · simp; omega
          · intro i g1 g2
            rw [List.getElem_replicate]
            have := List.all_eq_true.1 h5 _ (List.getElem_mem g1)
            simpa using this
        rw [← e5, List.take_append_drop]
theorem join_ok {ps : List (List Int)} {n : Int} {x : List Int} (h : joinS ps n = (x, 0)) : splitE x = (ps, 0) ∧ (x.length : Int) = n := by
  rw [joinS] at h
  split at h
  · cases h
  · rename_i hg
    split at h
    · cases h
    · rename_i ht
      simp only [Bool.or_eq_true, not_or, Bool.not_eq_true, Bool.not_eq_false', bne_eq_false_iff_eq] at hg
      obtain ⟨g1, g2, g3⟩ := hg
      obtain ⟨k, rfl, k1, k2⟩ := sized_nat (by simpa using g1)
      rw [countS_eq (by omega)] at g2
      cases h
      have hs := sum_pages g3
      have hl : (ps.flatten.take k).length = k := by rw [List.length_take]; omega
      have h256 : ∀ p ∈ ps, p.length = 256 := by
        intro p hp
        rw [anyOther, List.any_eq_false] at g3
        have := g3 p hp
        simp at this; omega
      rw [Int.toNat_natCast] at ht ⊢
      rw [splitE, hl, if_pos (by simpa using g1)]
      refine ⟨?_, rfl⟩
      rw [splitS, hl, split_join ps k k h256 (by omega) (by omega) (Nat.le_refl _) ?_]
      cases hh : (ps.flatten.drop k).all (· == 0) with
      | true => rfl
      | false => exact absurd ((trimS_all _).2 hh) ht
end Go.Proofs.YtfeemohdpmdaoaaDoor.Am

namespace Go.Proofs.YtfeemohdpmdaoaaDoor.Am
set_option linter.unusedVariables false
open Go Go.RowKit Go.Proofs

theorem few_facts {s : SprT} (h : fewS s = true) : s.ps.length ≤ 20 ∧ s.qs.length ≤ 20 ∧ s.pf.length ≤ 40 ∧ (∀ p ∈ s.ps, p.length ≤ 1000) ∧ ∀ q ∈ s.qs, q.length ≤ 40 := by
  simp only [fewS, Bool.and_eq_true, Bool.not_eq_true', decide_eq_false_iff_not] at h
  obtain ⟨h1, h2, h3, h4, h5, h6, h7⟩ := h
  refine ⟨by omega, by omega, by omega, fun p hp => ?_, fun q hq => ?_⟩
  · have := any_mem (n := 1000) h5 p hp; omega
  · have := any_mem (n := 40) h6 q hq; omega
theorem splitE_small {p : List Int} {q : List (List Int)} {e : Int} (h : (q, e) = splitE p) (hp : p.length ≤ 9223372036854775807) : q.length ≤ 9223372036854775807 ∧ ∀ x ∈ q, x.length ≤ 9223372036854775807 := by
  rw [splitE] at h
  split at h
  · cases h
    refine ⟨by rw [split_len]; omega, fun x hx => ?_⟩
    rw [split_pieces] at hx
    obtain ⟨i, _, rfl⟩ := List.mem_map.1 hx
    rw [padS_len (piece_len p i)]; omega
  · cases h; simp
theorem putS_small {s z : SprT} {p q : List Int} {e : Int} (h : (z, e) = putS s p q) (hs : fewS s = true) (hp : p.length ≤ 1000) (hq : q.length ≤ 40) : z.rows = [] ∧ z.ps.length ≤ 21 ∧ (∀ x ∈ z.ps, x.length ≤ 1000) ∧ z.qs.length ≤ 21 ∧ (∀ x ∈ z.qs, x.length ≤ 40) ∧ z.pf = [] := by
  obtain ⟨f1, f2, f3, f4, f5⟩ := few_facts hs
  rw [putS] at h
  split at h
  · cases h; simp [zeroSp]
  · split at h
    · cases h; simp [zeroSp]
    · split at h
      · cases h; simp [zeroSp]
      · cases h
        refine ⟨rfl, by simp; omega, fun x hx => ?_, by simp; omega, fun x hx => ?_, rfl⟩
        · rcases List.mem_append.1 hx with hx | hx
          · exact f4 x hx
          · simp at hx; subst hx; exact hp
        · rcases List.mem_append.1 hx with hx | hx
          · exact f5 x hx
          · simp at hx; subst hx; exact hq
theorem wholeS_small {s : SprT} {x : List Int} {e : Bool} (h : (x, e) = wholeS s) : x.length ≤ 4096 := by
  rw [wholeS] at h
  split at h
  · cases h
    rw [joinS]
    split
    · simp
    · rename_i hg
      simp only [Bool.or_eq_true, not_or, Bool.not_eq_true, Bool.not_eq_false', bne_eq_false_iff_eq] at hg
      obtain ⟨k, hk, k1, k2⟩ := sized_nat (by simpa using hg.1)
      split
      · simp
      · rw [hk, Int.toNat_natCast, List.length_take]; omega
  · cases h; simp
theorem joinS_small {ps : List (List Int)} {n : Int} {x : List Int} {e : Int} (h : (x, e) = joinS ps n) : x.length ≤ 4096 := by
  rw [joinS] at h
  split at h
  · cases h; simp
  · rename_i hg
    simp only [Bool.or_eq_true, not_or, Bool.not_eq_true, Bool.not_eq_false', bne_eq_false_iff_eq] at hg
    obtain ⟨k, hk, k1, k2⟩ := sized_nat (by simpa using hg.1)
    split at h
    · cases h; simp
    · cases h; rw [hk, Int.toNat_natCast, List.length_take]; omega
set_option maxRecDepth 20000 in
theorem pcLaw3 (p : List Int) (ps : List (List Int)) (n v t : Int) (s : SprT) (pg pf : List Int) (h1 : p.length ≤ 9223372036854775807) (h2 : ps.length ≤ 9223372036854775807) (ho : RowsOk s) :
    PCall Tryd.prog 3 [.d (.sl 1 (bytesR p)), .d (.sl 1 (partsR ps)), .d (i64 n), .d (i64 v), .d (i64 t), spV s, .d (.sl 1 (bytesR pg)), .d (.sl 1 (digR pf))] (.d (bo true)) := by
  refine PCall.ofFn (n := 200) (u := false) mixed TL3_ok SCallsOk.nil Tryd.func3 (by rfl) (by rfl) fun Ev bb => ?_
  rw [f3_nf]
  refine ⟨rfl, _, rfl, p, ps, _, rfl, ⟨h2, rfl⟩, BIf.of (fun _ => rfl) fun _ => ⟨s, _, rfl, ⟨ho, rfl⟩, BIf.of (fun _ => rfl) fun g1 => BIf.of (fun _ => rfl) fun g2 => BIf.of (fun _ => rfl) fun g3 => ?_⟩⟩
  have hf : fewS s = true := by simpa using g1
  obtain ⟨f1, f2, f3, f4, f5⟩ := few_facts hf
  rw [bytesR_len] at g2
  rw [digR_len] at g3
  have g2 := of_decide_eq_false g2
  have g3 := of_decide_eq_false g3
  refine ⟨p, (splitE p).1, (splitE p).2, rfl, ⟨h1, rfl⟩, p, (splitE p).1, (splitE p).2, rfl, ⟨h1, rfl⟩, ps, n, (joinS ps n).1, (joinS ps n).2, rfl, ⟨h2, rfl⟩, ps, n, (joinS ps n).1, (joinS ps n).2, rfl, ⟨h2, rfl⟩, v, t, p, (annS v p t).1, (annS v p t).2, rfl, ⟨h1, rfl⟩, v, t, p, (annS v p t).1, (annS v p t).2, rfl, ⟨h1, rfl⟩, ?_⟩
  refine ⟨_, _, _, rfl, ⟨splitE_small (p := p) (e := (splitE p).2) rfl h1, rfl⟩, BIf.f (by simp) (BIf.f (by simp) ⟨_, _, _, rfl, ⟨Nat.le_trans (joinS_small (ps := ps) (n := n) (e := (joinS ps n).2) rfl) (by decide), rfl⟩, BIf.f (by simp) (BIf.f (by simp) (BIf.f (by simp) (BIf.f (by simp) ?_)))⟩)⟩
  have hq : ∀ x ∈ s.qs, x.length ≤ 1000000 := fun x hx => by have := f5 x hx; omega
  obtain ⟨w1, w2, w3, w4, w5, w6⟩ := putS_small (s := s) (p := pg) (q := pf) (z := (putS s pg pf).1) (e := (putS s pg pf).2) rfl hf (by omega) (by omega)
  refine ⟨s, pg, pf, (putS s pg pf).1, (putS s pg pf).2, rfl, ⟨⟨by omega, by omega, hq⟩, rfl⟩, s, pg, pf, (putS s pg pf).1, (putS s pg pf).2, rfl, ⟨⟨by omega, by omega, hq⟩, rfl⟩, s, (wholeS s).1, (wholeS s).2, rfl, ⟨by omega, rfl⟩, s, (wholeS s).1, (wholeS s).2, rfl, ⟨by omega, rfl⟩, BIf.t rfl ?_⟩
  refine ⟨(putS s pg pf).1, (putS s pg pf).1, _, rfl, ⟨⟨w1, w1, ⟨by omega, fun x hx => by have := w3 x hx; omega⟩, ⟨by omega, fun x hx => by have := w5 x hx; omega⟩, by rw [w6]; simp⟩, rfl⟩, BIf.t (sameS_rfl _) (BIf.t (by simp) ⟨_, _, _, rfl, ⟨Nat.le_trans (wholeS_small (s := s) (e := (wholeS s).2) rfl) (by decide), rfl⟩, BIf.t (by simp) ?_⟩)⟩
  rw [show ((wholeS s).2 == (wholeS s).2) = true by simp]
theorem sized_iff (n : Nat) : sizedS (n : Int) = (decide ((n : Int) ≥ 1) && decide ((n : Int) ≤ 4096)) := rfl
set_option maxRecDepth 20000 in
theorem pcLaw4 (p : List Int) (ps : List (List Int)) (n : Int) (h1 : p.length ≤ 9223372036854775807) (h2 : ps.length ≤ 9223372036854775807) :
    PCall Tryd.prog 4 [.d (.sl 1 (bytesR p)), .d (.sl 1 (partsR ps)), .d (i64 n)] (.d (bo true)) := by
  refine PCall.ofFn (n := 200) (u := false) mixed TL3_ok SCallsOk.nil Tryd.func4 (by rfl) (by rfl) fun Ev bb => ?_
  rw [f4_nf]
  refine ⟨rfl, _, rfl, p, ps, _, rfl, ⟨h2, rfl⟩, BIf.of (fun _ => rfl) fun _ => ⟨p, (splitE p).1, (splitE p).2, rfl, ⟨h1, rfl⟩, ?_⟩⟩
  rw [bytesR_len]
  have tail : ∃ (ps14 : List (List Int)), ∃ (n15 : Int), ∃ (z16 : List Int), ∃ (e17 : Int), [AV.d (Dv.sl 1 (partsR ps)), AV.d (i64 n)] = [AV.d (Dv.sl 1 (partsR ps14)), AV.d (i64 n15)] ∧ (List.length ps14 ≤ 9223372036854775807 ∧ (z16, e17) = joinS ps14 n15) ∧
      BIf (e17 != (0 : Int)) (AV.d (bo true) = AV.d (bo true)) (∃ (p18 : List Int), ∃ (q19 : List (List Int)), ∃ (e20 : Int), [AV.d (Dv.sl 1 (bytesR z16))] = [AV.d (Dv.sl 1 (bytesR p18))] ∧ (List.length p18 ≤ 9223372036854775807 ∧ (q19, e20) = splitE p18) ∧
        BIf true (BIf (e20 == (0 : Int)) (BIf (((List.length (bytesR z16) : Nat) : Int) == n) (∃ (a21 : List (List Int)), ∃ (c22 : List (List Int)), ∃ (z23 : Bool), [AV.d (Dv.sl 1 (partsR q19)), AV.d (Dv.sl 1 (partsR ps))] = [AV.d (Dv.sl 1 (partsR a21)), AV.d (Dv.sl 1 (partsR c22))] ∧
          ((List.length a21 ≤ 9223372036854775807 ∧ ∀ (p : List Int), p ∈ a21 → List.length p ≤ 9223372036854775807) ∧ z23 = decide (a21 = c22)) ∧ AV.d (bo z23) = AV.d (bo true)) (AV.d (bo false) = AV.d (bo true))) (AV.d (bo false) = AV.d (bo true))) (AV.d (bo false) = AV.d (bo true))) := by
    refine ⟨ps, n, (joinS ps n).1, (joinS ps n).2, rfl, ⟨h2, rfl⟩, BIf.of (fun _ => rfl) fun g => ?_⟩
    have he : (joinS ps n).2 = 0 := by simpa using g
    have hj : joinS ps n = ((joinS ps n).1, 0) := by rw [← he]
    obtain ⟨k1, k2⟩ := join_ok hj
    have hsm := joinS_small (ps := ps) (n := n) (x := (joinS ps n).1) (e := (joinS ps n).2) rfl
    refine ⟨(joinS ps n).1, ps, 0, rfl, ⟨by omega, k1.symm⟩, BIf.t rfl (BIf.t rfl (BIf.t (by rw [bytesR_len, k2]; simp) ⟨ps, ps, true, rfl, ⟨⟨h2, fun x hx => ?_⟩, by simp⟩, rfl⟩))⟩
    exact (splitE_small k1.symm (by omega)).2 x hx
  have fwd : sizedS (p.length : Int) = true → splitE p = (splitS p, 0) ∧ joinS (splitS p) p.length = (p, 0) := by
    intro hz
    refine ⟨by rw [splitE, if_pos hz], ?_⟩
    rw [join_split hz rfl, List.drop_length, List.all_nil, if_pos rfl, Nat.sub_self, List.replicate_zero, List.append_nil, List.take_length]
  have join1 : sizedS (p.length : Int) = true → ∃ (ps7 : List (List Int)), ∃ (n8 : Int), ∃ (z9 : List Int), ∃ (e10 : Int), [AV.d (Dv.sl 1 (partsR (splitE p).1)), AV.d (i64 ((p.length : Nat) : Int))] = [AV.d (Dv.sl 1 (partsR ps7)), AV.d (i64 n8)] ∧ (List.length ps7 ≤ 9223372036854775807 ∧ (z9, e10) = joinS ps7 n8) ∧
      e10 = 0 ∧ z9 = p := by
    intro hz
    obtain ⟨e1, e2⟩ := fwd hz
    refine ⟨splitS p, _, p, 0, by rw [e1], ⟨(splitE_small (p := p) (q := splitS p) (e := 0) e1.symm h1).1, e2.symm⟩, rfl, rfl⟩
  cases hz : sizedS (p.length : Int) with
  | true =>
    have hz' := hz
    rw [sized_iff, Bool.and_eq_true] at hz'
    obtain ⟨e1, e2⟩ := fwd hz
    have e3 : (splitE p).2 = 0 := by rw [e1]
    refine BIf.t hz'.1 (BIf.f (by rw [e3, hz'.2]; rfl) (BIf.t (by rw [e3]; rfl) ?_))
    obtain ⟨ps7, n8, z9, e10, q1, q2, rfl, rfl⟩ := join1 hz
    refine ⟨ps7, n8, _, _, q1, q2, BIf.f rfl ⟨_, _, _, rfl, ⟨h1, rfl⟩, BIf.f (by simp) tail⟩⟩
  | false =>
    have e1 : splitE p = ([], 1) := by rw [splitE, if_neg (by rw [hz]; simp)]
    have e3 : ((splitE p).2 == 0) = false := by rw [e1]; rfl
    rw [sized_iff] at hz
    refine BIf.of (fun g => BIf.f ?_ (BIf.f e3 tail)) fun g => BIf.f ?_ (BIf.f e3 tail)
    · rw [g, Bool.true_and] at hz
      rw [e3, hz]; rfl
    · rw [e3]; rfl
end Go.Proofs.YtfeemohdpmdaoaaDoor.Am

namespace Go.Proofs.YtfeemohdpmdaoaaDoor.Am
set_option linter.unusedVariables false
set_option maxHeartbeats 0
set_option maxRecDepth 100000
open Go Go.RowKit Go.Proofs

/-! ### the laws Notices, Sizes, Keeps: loops -/
noncomputable def lp7 : Code := sub [1, 1, 1, 1, 1, 1, 1, 1, 0, 1, 2, 3] (code Tryd.f7)
def tm7 (p : List (List Dv)) (n : Int) (x : List (List Dv)) (e : Int) (z : Bool) (i : Int) : List AV := [.d (.sl 1 p), .d (i64 n), .bad, .bad, .bad, .d (bo true), .bad, .bad, .d (.sl 1 x), .d (i64 e), .d (bo z), .d (i64 i)] ++ List.replicate 99 .bad
noncomputable def lp5 : Code := sub [1, 1, 1, 1, 1, 1, 1, 1, 0, 1, 2, 3] (code Tryd.f5)
def tm5 (pg pf : List (List Dv)) (n m i : Int) : List AV := [.bad, .d (.sl 1 pg), .d (.sl 1 pf), .ptr 0 0, .bad, .bad, .bad, .d (bo true), .ptr 1 0, .bad, .d (i64 n)] ++ List.replicate 105 .bad ++ [.d (i64 m), .d (i64 i)] ++ List.replicate 48 .bad
def T5 : List (Nat × (List AV → (AV → Prop) → Prop)) := [(20, cBytes), (28, cTSame)]
theorem T5_ok : CallsOk Tryd.prog T5 := CallsOk.cons cBytes_ok (CallsOk.cons cTSame_ok CallsOk.nil)
section
variable {β : Type} (wl : WLT β) (y : YieldT β) (b : β) (R : AV → β → Prop) (K : Exit → List AV → List Blk → β → Prop)
theorem r7 (p : List (List Dv)) (n : Int) (x : List (List Dv)) (e : Int) (z : Bool) (i : Int) : wpc Tryd.prog ⟨[], [], wl, y, false⟩ 100 lp7 (tm7 p n x e z i) [] b (maskT [0, 1, 5, 8, 9, 10, 11] K) = ( BIf (decide (i < ((List.length p : Nat) : Int))) (BIf z (BIf (true && decide ((0 : Int) ≤ i)) (∃ (x0 : Int), p[Int.toNat i]? = some [u8 x0] ∧ K Exit.normal [AV.d (Dv.sl 1 p), AV.d (i64 n), AV.bad, AV.bad, AV.bad, AV.d (bo true), AV.bad, AV.bad, AV.d (Dv.sl 1 x), AV.d (i64 e), AV.d (bo (x0 == (0 : Int))), AV.d (i64 (IntKind.wrap IntKind.i64 (i + (1 : Int)))), AV.bad, AV.bad, AV.bad, AV.bad, AV.bad, AV.bad, AV.bad, AV.bad, AV.bad, AV.bad, AV.bad, AV.bad, AV.bad, AV.bad, AV.bad, AV.bad, AV.bad, AV.bad, AV.bad, AV.bad, AV.bad, AV.bad, AV.bad, AV.bad, AV.bad, AV.bad, AV.bad, AV.bad, AV.bad, AV.bad, AV.bad, AV.bad, AV.bad, AV.bad, AV.bad, AV.bad, AV.bad, AV.bad, AV.bad, AV.bad, AV.bad, AV.bad, AV.bad, AV.bad, AV.bad, AV.bad, AV.bad, AV.bad, AV.bad, AV.bad, AV.bad, AV.bad, AV.bad, AV.bad, AV.bad, AV.bad, AV.bad, AV.bad, AV.bad, AV.bad, AV.bad, AV.bad, AV.bad, AV.bad, AV.bad, AV.bad, AV.bad, AV.bad, AV.bad, AV.bad, AV.bad, AV.bad, AV.bad, AV.bad, AV.bad, AV.bad, AV.bad, AV.bad, AV.bad, AV.bad, AV.bad, AV.bad, AV.bad, AV.bad, AV.bad, AV.bad, AV.bad, AV.bad, AV.bad, AV.bad, AV.bad, AV.bad, AV.bad, AV.bad, AV.bad, AV.bad, AV.bad, AV.bad, AV.bad] [] b) False) (K Exit.normal [AV.d (Dv.sl 1 p), AV.d (i64 n), AV.bad, AV.bad, AV.bad, AV.d (bo true), AV.bad, AV.bad, AV.d (Dv.sl 1 x), AV.d (i64 e), AV.d (bo false), AV.d (i64 (IntKind.wrap IntKind.i64 (i + (1 : Int)))), AV.bad, AV.bad, AV.bad, AV.bad, AV.bad, AV.bad, AV.bad, AV.bad, AV.bad, AV.bad, AV.bad, AV.bad, AV.bad, AV.bad, AV.bad, AV.bad, AV.bad, AV.bad, AV.bad, AV.bad, AV.bad, AV.bad, AV.bad, AV.bad, AV.bad, AV.bad, AV.bad, AV.bad, AV.bad, AV.bad, AV.bad, AV.bad, AV.bad, AV.bad, AV.bad, AV.bad, AV.bad, AV.bad, AV.bad, AV.bad, AV.bad, AV.bad, AV.bad, AV.bad, AV.bad, AV.bad, AV.bad, AV.bad, AV.bad, AV.bad, AV.bad, AV.bad, AV.bad, AV.bad, AV.bad, AV.bad, AV.bad, AV.bad, AV.bad, AV.bad, AV.bad, AV.bad, AV.bad, AV.bad, AV.bad, AV.bad, AV.bad, AV.bad, AV.bad, AV.bad, AV.bad, AV.bad, AV.bad, AV.bad, AV.bad, AV.bad, AV.bad, AV.bad, AV.bad, AV.bad, AV.bad, AV.bad, AV.bad, AV.bad, AV.bad, AV.bad, AV.bad, AV.bad, AV.bad, AV.bad, AV.bad, AV.bad, AV.bad, AV.bad, AV.bad, AV.bad, AV.bad, AV.bad, AV.bad] [] b)) (K (Exit.exit 0) [AV.d (Dv.sl 1 p), AV.d (i64 n), AV.bad, AV.bad, AV.bad, AV.d (bo true), AV.bad, AV.bad, AV.d (Dv.sl 1 x), AV.d (i64 e), AV.d (bo z), AV.d (i64 i), AV.bad, AV.bad, AV.bad, AV.bad, AV.bad, AV.bad, AV.bad, AV.bad, AV.bad, AV.bad, AV.bad, AV.bad, AV.bad, AV.bad, AV.bad, AV.bad, AV.bad, AV.bad, AV.bad, AV.bad, AV.bad, AV.bad, AV.bad, AV.bad, AV.bad, AV.bad, AV.bad, AV.bad, AV.bad, AV.bad, AV.bad, AV.bad, AV.bad, AV.bad, AV.bad, AV.bad, AV.bad, AV.bad, AV.bad, AV.bad, AV.bad, AV.bad, AV.bad, AV.bad, AV.bad, AV.bad, AV.bad, AV.bad, AV.bad, AV.bad, AV.bad, AV.bad, AV.bad, AV.bad, AV.bad, AV.bad, AV.bad, AV.bad, AV.bad, AV.bad, AV.bad, AV.bad, AV.bad, AV.bad, AV.bad, AV.bad, AV.bad, AV.bad, AV.bad, AV.bad, AV.bad, AV.bad, AV.bad, AV.bad, AV.bad, AV.bad, AV.bad, AV.bad, AV.bad, AV.bad, AV.bad, AV.bad, AV.bad, AV.bad, AV.bad, AV.bad, AV.bad, AV.bad, AV.bad, AV.bad, AV.bad, AV.bad, AV.bad, AV.bad, AV.bad, AV.bad, AV.bad, AV.bad, AV.bad] [] b)) := by kernel_rfl
theorem r5 (s u : SprT) (pg pf : List (List Dv)) (n m i : Int) : wpc Tryd.prog ⟨T5, [], wl, y, false⟩ 100 lp5 (tm5 pg pf n m i) [blkS s, blkS u] b (maskT [1, 2, 3, 6, 7, 8, 10, 116, 117] K) = ( BIf (decide (i < m)) (BIf (true && decide ((0 : Int) ≤ i)) (∃ (xs0 : List (List Dv)), (partsR (SprT.ps u))[Int.toNat i]? = some [Dv.sl 1 xs0] ∧ BIf (true && decide ((0 : Int) ≤ i)) (∃ (xs3 : List (List Dv)), (partsR (SprT.ps s))[Int.toNat i]? = some [Dv.sl 1 xs3] ∧ ∃ (a6 : List Int), ∃ (c7 : List Int), ∃ (z8 : Bool), [AV.d (Dv.sl 1 xs0), AV.d (Dv.sl 1 xs3)] = [AV.d (Dv.sl 1 (bytesR a6)), AV.d (Dv.sl 1 (bytesR c7))] ∧ (List.length a6 ≤ 9223372036854775807 ∧ z8 = decide (a6 = c7)) ∧ BIf (!z8) (K Exit.ret [AV.bad, AV.d (Dv.sl 1 pg), AV.d (Dv.sl 1 pf), AV.ptr 0 0, AV.bad, AV.bad, AV.d (bo false), AV.d (bo true), AV.ptr 1 0, AV.bad, AV.d (i64 n), AV.bad, AV.bad, AV.bad, AV.bad, AV.bad, AV.bad, AV.bad, AV.bad, AV.bad, AV.bad, AV.bad, AV.bad, AV.bad, AV.bad, AV.bad, AV.bad, AV.bad, AV.bad, AV.bad, AV.bad, AV.bad, AV.bad, AV.bad, AV.bad, AV.bad, AV.bad, AV.bad, AV.bad, AV.bad, AV.bad, AV.bad, AV.bad, AV.bad, AV.bad, AV.bad, AV.bad, AV.bad, AV.bad, AV.bad, AV.bad, AV.bad, AV.bad, AV.bad, AV.bad, AV.bad, AV.bad, AV.bad, AV.bad, AV.bad, AV.bad, AV.bad, AV.bad, AV.bad, AV.bad, AV.bad, AV.bad, AV.bad, AV.bad, AV.bad, AV.bad, AV.bad, AV.bad, AV.bad, AV.bad, AV.bad, AV.bad, AV.bad, AV.bad, AV.bad, AV.bad, AV.bad, AV.bad, AV.bad, AV.bad, AV.bad, AV.bad, AV.bad, AV.bad, AV.bad, AV.bad, AV.bad, AV.bad, AV.bad, AV.bad, AV.bad, AV.bad, AV.bad, AV.bad, AV.bad, AV.bad, AV.bad, AV.bad, AV.bad, AV.bad, AV.bad, AV.bad, AV.bad, AV.bad, AV.bad, AV.bad, AV.bad, AV.bad, AV.bad, AV.bad, AV.bad, AV.d (i64 m), AV.d (i64 i), AV.bad, AV.bad, AV.bad, AV.bad, AV.bad, AV.bad, AV.bad, AV.bad, AV.bad, AV.bad, AV.bad, AV.bad, AV.bad, AV.bad, AV.bad, AV.bad, AV.bad, AV.bad, AV.bad, AV.bad, AV.bad, AV.bad, AV.bad, AV.bad, AV.bad, AV.bad, AV.bad, AV.bad, AV.bad, AV.bad, AV.bad, AV.bad, AV.bad, AV.bad, AV.bad, AV.bad, AV.bad, AV.bad, AV.bad, AV.bad, AV.bad, AV.bad, AV.bad, AV.bad, AV.bad, AV.bad, AV.bad, AV.bad] [Blk.mk [AV.d (i64 (NotT.v (SprT.no s))), AV.d (i64 (NotT.n (SprT.no s))), AV.d (u64 (NotT.r (SprT.no s))), AV.d (i64 (NotT.t (SprT.no s))), AV.d (Dv.sl 1 (partsR (SprT.ps s))), AV.d (Dv.sl 1 (proofsR (SprT.qs s))), AV.d (Dv.sl 2 (SprT.rows s)), AV.d (Dv.sl 1 (digR (SprT.pf s))), AV.d (i64 (SprT.i1 s)), AV.d (i64 (SprT.i2 s)), AV.d (i64 (SprT.i3 s)), AV.d (i64 (SprT.i4 s)), AV.d (i64 (SprT.i5 s))] false false 0, Blk.mk [AV.d (i64 (NotT.v (SprT.no u))), AV.d (i64 (NotT.n (SprT.no u))), AV.d (u64 (NotT.r (SprT.no u))), AV.d (i64 (NotT.t (SprT.no u))), AV.d (Dv.sl 1 (partsR (SprT.ps u))), AV.d (Dv.sl 1 (proofsR (SprT.qs u))), AV.d (Dv.sl 2 (SprT.rows u)), AV.d (Dv.sl 1 (digR (SprT.pf u))), AV.d (i64 (SprT.i1 u)), AV.d (i64 (SprT.i2 u)), AV.d (i64 (SprT.i3 u)), AV.d (i64 (SprT.i4 u)), AV.d (i64 (SprT.i5 u))] false false 0] b) (BIf (true && decide ((0 : Int) ≤ i)) (∃ (xs9 : List (List Dv)), (proofsR (SprT.qs u))[Int.toNat i]? = some [Dv.sl 1 xs9] ∧ BIf (true && decide ((0 : Int) ≤ i)) (∃ (xs12 : List (List Dv)), (proofsR (SprT.qs s))[Int.toNat i]? = some [Dv.sl 1 xs12] ∧ ∃ (a15 : List Int), ∃ (c16 : List Int), ∃ (z17 : Bool), [AV.d (Dv.sl 1 xs9), AV.d (Dv.sl 1 xs12)] = [AV.d (Dv.sl 1 (digR a15)), AV.d (Dv.sl 1 (digR c16))] ∧ (List.length a15 ≤ 9223372036854775807 ∧ z17 = decide (a15 = c16)) ∧ BIf (!z17) (K Exit.ret [AV.bad, AV.d (Dv.sl 1 pg), AV.d (Dv.sl 1 pf), AV.ptr 0 0, AV.bad, AV.bad, AV.d (bo false), AV.d (bo true), AV.ptr 1 0, AV.bad, AV.d (i64 n), AV.bad, AV.bad, AV.bad, AV.bad, AV.bad, AV.bad, AV.bad, AV.bad, AV.bad, AV.bad, AV.bad, AV.bad, AV.bad, AV.bad, AV.bad, AV.bad, AV.bad, AV.bad, AV.bad, AV.bad, AV.bad, AV.bad, AV.bad, AV.bad, AV.bad, AV.bad, AV.bad, AV.bad, AV.bad, AV.bad, AV.bad, AV.bad, AV.bad, AV.bad, AV.bad, AV.bad, AV.bad, AV.bad, AV.bad, AV.bad, AV.bad, AV.bad, AV.bad, AV.bad, AV.bad, AV.bad, AV.bad, AV.bad, AV.bad, AV.bad, AV.bad, AV.bad, AV.bad, AV.bad, AV.bad, AV.bad, AV.bad, AV.bad, AV.bad, AV.bad, AV.bad, AV.bad, AV.bad, AV.bad, AV.bad, AV.bad, AV.bad, AV.bad, AV.bad, AV.bad, AV.bad, AV.bad, AV.bad, AV.bad, AV.bad, AV.bad, AV.bad, AV.bad, AV.bad, AV.bad, AV.bad, AV.bad, AV.bad, AV.bad, AV.bad, AV.bad, AV.bad, AV.bad, AV.bad, AV.bad, AV.bad, AV.bad, AV.bad, AV.bad, AV.bad, AV.bad, AV.bad, AV.bad, AV.bad, AV.bad, AV.bad, AV.bad, AV.bad, AV.bad, AV.bad, AV.d (i64 m), AV.d (i64 i), AV.bad, AV.bad, AV.bad, AV.bad, AV.bad, AV.bad, AV.bad, AV.bad, AV.bad, AV.bad, AV.bad, AV.bad, AV.bad, AV.bad, AV.bad, AV.bad, AV.bad, AV.bad, AV.bad, AV.bad, AV.bad, AV.bad, AV.bad, AV.bad, AV.bad, AV.bad, AV.bad, AV.bad, AV.bad, AV.bad, AV.bad, AV.bad, AV.bad, AV.bad, AV.bad, AV.bad, AV.bad, AV.bad, AV.bad, AV.bad, AV.bad, AV.bad, AV.bad, AV.bad, AV.bad, AV.bad, AV.bad, AV.bad] [Blk.mk [AV.d (i64 (NotT.v (SprT.no s))), AV.d (i64 (NotT.n (SprT.no s))), AV.d (u64 (NotT.r (SprT.no s))), AV.d (i64 (NotT.t (SprT.no s))), AV.d (Dv.sl 1 (partsR (SprT.ps s))), AV.d (Dv.sl 1 (proofsR (SprT.qs s))), AV.d (Dv.sl 2 (SprT.rows s)), AV.d (Dv.sl 1 (digR (SprT.pf s))), AV.d (i64 (SprT.i1 s)), AV.d (i64 (SprT.i2 s)), AV.d (i64 (SprT.i3 s)), AV.d (i64 (SprT.i4 s)), AV.d (i64 (SprT.i5 s))] false false 0, Blk.mk [AV.d (i64 (NotT.v (SprT.no u))), AV.d (i64 (NotT.n (SprT.no u))), AV.d (u64 (NotT.r (SprT.no u))), AV.d (i64 (NotT.t (SprT.no u))), AV.d (Dv.sl 1 (partsR (SprT.ps u))), AV.d (Dv.sl 1 (proofsR (SprT.qs u))), AV.d (Dv.sl 2 (SprT.rows u)), AV.d (Dv.sl 1 (digR (SprT.pf u))), AV.d (i64 (SprT.i1 u)), AV.d (i64 (SprT.i2 u)), AV.d (i64 (SprT.i3 u)), AV.d (i64 (SprT.i4 u)), AV.d (i64 (SprT.i5 u))] false false 0] b) (K Exit.normal [AV.bad, AV.d (Dv.sl 1 pg), AV.d (Dv.sl 1 pf), AV.ptr 0 0, AV.bad, AV.bad, AV.bad, AV.d (bo true), AV.ptr 1 0, AV.bad, AV.d (i64 n), AV.bad, AV.bad, AV.bad, AV.bad, AV.bad, AV.bad, AV.bad, AV.bad, AV.bad, AV.bad, AV.bad, AV.bad, AV.bad, AV.bad, AV.bad, AV.bad, AV.bad, AV.bad, AV.bad, AV.bad, AV.bad, AV.bad, AV.bad, AV.bad, AV.bad, AV.bad, AV.bad, AV.bad, AV.bad, AV.bad, AV.bad, AV.bad, AV.bad, AV.bad, AV.bad, AV.bad, AV.bad, AV.bad, AV.bad, AV.bad, AV.bad, AV.bad, AV.bad, AV.bad, AV.bad, AV.bad, AV.bad, AV.bad, AV.bad, AV.bad, AV.bad, AV.bad, AV.bad, AV.bad, AV.bad, AV.bad, AV.bad, AV.bad, AV.bad, AV.bad, AV.bad, AV.bad, AV.bad, AV.bad, AV.bad, AV.bad, AV.bad, AV.bad, AV.bad, AV.bad, AV.bad, AV.bad, AV.bad, AV.bad, AV.bad, AV.bad, AV.bad, AV.bad, AV.bad, AV.bad, AV.bad, AV.bad, AV.bad, AV.bad, AV.bad, AV.bad, AV.bad, AV.bad, AV.bad, AV.bad, AV.bad, AV.bad, AV.bad, AV.bad, AV.bad, AV.bad, AV.bad, AV.bad, AV.bad, AV.bad, AV.bad, AV.bad, AV.bad, AV.bad, AV.bad, AV.d (i64 m), AV.d (i64 (IntKind.wrap IntKind.i64 (i + (1 : Int)))), AV.bad, AV.bad, AV.bad, AV.bad, AV.bad, AV.bad, AV.bad, AV.bad, AV.bad, AV.bad, AV.bad, AV.bad, AV.bad, AV.bad, AV.bad, AV.bad, AV.bad, AV.bad, AV.bad, AV.bad, AV.bad, AV.bad, AV.bad, AV.bad, AV.bad, AV.bad, AV.bad, AV.bad, AV.bad, AV.bad, AV.bad, AV.bad, AV.bad, AV.bad, AV.bad, AV.bad, AV.bad, AV.bad, AV.bad, AV.bad, AV.bad, AV.bad, AV.bad, AV.bad, AV.bad, AV.bad, AV.bad, AV.bad] [Blk.mk [AV.d (i64 (NotT.v (SprT.no s))), AV.d (i64 (NotT.n (SprT.no s))), AV.d (u64 (NotT.r (SprT.no s))), AV.d (i64 (NotT.t (SprT.no s))), AV.d (Dv.sl 1 (partsR (SprT.ps s))), AV.d (Dv.sl 1 (proofsR (SprT.qs s))), AV.d (Dv.sl 2 (SprT.rows s)), AV.d (Dv.sl 1 (digR (SprT.pf s))), AV.d (i64 (SprT.i1 s)), AV.d (i64 (SprT.i2 s)), AV.d (i64 (SprT.i3 s)), AV.d (i64 (SprT.i4 s)), AV.d (i64 (SprT.i5 s))] false false 0, Blk.mk [AV.d (i64 (NotT.v (SprT.no u))), AV.d (i64 (NotT.n (SprT.no u))), AV.d (u64 (NotT.r (SprT.no u))), AV.d (i64 (NotT.t (SprT.no u))), AV.d (Dv.sl 1 (partsR (SprT.ps u))), AV.d (Dv.sl 1 (proofsR (SprT.qs u))), AV.d (Dv.sl 2 (SprT.rows u)), AV.d (Dv.sl 1 (digR (SprT.pf u))), AV.d (i64 (SprT.i1 u)), AV.d (i64 (SprT.i2 u)), AV.d (i64 (SprT.i3 u)), AV.d (i64 (SprT.i4 u)), AV.d (i64 (SprT.i5 u))] false false 0] b)) False) False)) False) False) (K (Exit.exit 0) [AV.bad, AV.d (Dv.sl 1 pg), AV.d (Dv.sl 1 pf), AV.ptr 0 0, AV.bad, AV.bad, AV.bad, AV.d (bo true), AV.ptr 1 0, AV.bad, AV.d (i64 n), AV.bad, AV.bad, AV.bad, AV.bad, AV.bad, AV.bad, AV.bad, AV.bad, AV.bad, AV.bad, AV.bad, AV.bad, AV.bad, AV.bad, AV.bad, AV.bad, AV.bad, AV.bad, AV.bad, AV.bad, AV.bad, AV.bad, AV.bad, AV.bad, AV.bad, AV.bad, AV.bad, AV.bad, AV.bad, AV.bad, AV.bad, AV.bad, AV.bad, AV.bad, AV.bad, AV.bad, AV.bad, AV.bad, AV.bad, AV.bad, AV.bad, AV.bad, AV.bad, AV.bad, AV.bad, AV.bad, AV.bad, AV.bad, AV.bad, AV.bad, AV.bad, AV.bad, AV.bad, AV.bad, AV.bad, AV.bad, AV.bad, AV.bad, AV.bad, AV.bad, AV.bad, AV.bad, AV.bad, AV.bad, AV.bad, AV.bad, AV.bad, AV.bad, AV.bad, AV.bad, AV.bad, AV.bad, AV.bad, AV.bad, AV.bad, AV.bad, AV.bad, AV.bad, AV.bad, AV.bad, AV.bad, AV.bad, AV.bad, AV.bad, AV.bad, AV.bad, AV.bad, AV.bad, AV.bad, AV.bad, AV.bad, AV.bad, AV.bad, AV.bad, AV.bad, AV.bad, AV.bad, AV.bad, AV.bad, AV.bad, AV.bad, AV.bad, AV.bad, AV.bad, AV.bad, AV.d (i64 m), AV.d (i64 i), AV.bad, AV.bad, AV.bad, AV.bad, AV.bad, AV.bad, AV.bad, AV.bad, AV.bad, AV.bad, AV.bad, AV.bad, AV.bad, AV.bad, AV.bad, AV.bad, AV.bad, AV.bad, AV.bad, AV.bad, AV.bad, AV.bad, AV.bad, AV.bad, AV.bad, AV.bad, AV.bad, AV.bad, AV.bad, AV.bad, AV.bad, AV.bad, AV.bad, AV.bad, AV.bad, AV.bad, AV.bad, AV.bad, AV.bad, AV.bad, AV.bad, AV.bad, AV.bad, AV.bad, AV.bad, AV.bad, AV.bad, AV.bad] [Blk.mk [AV.d (i64 (NotT.v (SprT.no s))), AV.d (i64 (NotT.n (SprT.no s))), AV.d (u64 (NotT.r (SprT.no s))), AV.d (i64 (NotT.t (SprT.no s))), AV.d (Dv.sl 1 (partsR (SprT.ps s))), AV.d (Dv.sl 1 (proofsR (SprT.qs s))), AV.d (Dv.sl 2 (SprT.rows s)), AV.d (Dv.sl 1 (digR (SprT.pf s))), AV.d (i64 (SprT.i1 s)), AV.d (i64 (SprT.i2 s)), AV.d (i64 (SprT.i3 s)), AV.d (i64 (SprT.i4 s)), AV.d (i64 (SprT.i5 s))] false false 0, Blk.mk [AV.d (i64 (NotT.v (SprT.no u))), AV.d (i64 (NotT.n (SprT.no u))), AV.d (u64 (NotT.r (SprT.no u))), AV.d (i64 (NotT.t (SprT.no u))), AV.d (Dv.sl 1 (partsR (SprT.ps u))), AV.d (Dv.sl 1 (proofsR (SprT.qs u))), AV.d (Dv.sl 2 (SprT.rows u)), AV.d (Dv.sl 1 (digR (SprT.pf u))), AV.d (i64 (SprT.i1 u)), AV.d (i64 (SprT.i2 u)), AV.d (i64 (SprT.i3 u)), AV.d (i64 (SprT.i4 u)), AV.d (i64 (SprT.i5 u))] false false 0] b)) := by kernel_rfl
theorem f6_nf (p : List (List Dv)) (v t at' c : Int) : wpFn Tryd.prog ⟨TL3, GByte, wl, y, false⟩ 200 Tryd.f6 [.d (.sl 1 p), .d (i64 v), .d (i64 t), .d (.s (.int .u16 at')), .d (u8 c)] b R = ( ([] : List AV) = [] ∧ ∃ (z0 : Bool), z0 = true ∧ ∃ (v1 : Int), ∃ (t2 : Int), ∃ (p3 : List Int), ∃ (z4 : NotT), ∃ (e5 : Int), [AV.d (i64 v), AV.d (Dv.sl 1 p), AV.d (i64 t)] = [AV.d (i64 v1), AV.d (Dv.sl 1 (bytesR p3)), AV.d (i64 t2)] ∧ (List.length p3 ≤ 9223372036854775807 ∧ (z4, e5) = annS v1 p3 t2) ∧ BIf (e5 != (0 : Int)) (R (AV.d (bo z0)) b) (BIf (c == (0 : Int)) (R (AV.d (bo z0)) b) (BIf (((List.length p : Nat) : Int) == (0 : Int)) (R (AV.d (bo z0)) b) (BIf (true && decide (List.length p * 1 ≤ 140737488355328)) (BIf (decide (0 < List.length p)) (0 = 0 ∧ BIf (decide (((List.length p : Nat) : Int) = (0 : Int)) || false) False (0 = 0 ∧ BIf (decide ((0 : Int) ≤ Int.tmod (IntKind.wrap IntKind.i64 at') ((List.length p : Nat) : Int)) && decide (Int.tmod (IntKind.wrap IntKind.i64 at') ((List.length p : Nat) : Int) < ((List.length p : Nat) : Int))) (0 = 0 ∧ ∃ (x6 : Int), List.take 1 (List.drop (Int.toNat (Int.tmod (IntKind.wrap IntKind.i64 at') ((List.length p : Nat) : Int)) * 1) (flatA p)) = [AV.d (u8 x6)] ∧ 0 = 0 ∧ BIf (decide ((0 : Int) ≤ Int.tmod (IntKind.wrap IntKind.i64 at') ((List.length p : Nat) : Int)) && decide (Int.tmod (IntKind.wrap IntKind.i64 at') ((List.length p : Nat) : Int) < ((List.length p : Nat) : Int))) (0 = 0 ∧ BIf (decide (Int.toNat (Int.tmod (IntKind.wrap IntKind.i64 at') ((List.length p : Nat) : Int)) * 1 + 1 ≤ List.length (flatA p))) (0 = 0 ∧ ∃ (xs7 : List (List Dv)), List.take (Int.toNat (Int.tmod (IntKind.wrap IntKind.i64 at') ((List.length p : Nat) : Int)) * 1) (flatA p) ++ [AV.d (u8 (IntKind.wrap IntKind.u8 ((BitVec.toNat (BitVec.ofInt 8 x6 ^^^ BitVec.ofInt 8 c) : Nat) : Int)))] ++ List.drop (Int.toNat (Int.tmod (IntKind.wrap IntKind.i64 at') ((List.length p : Nat) : Int)) * 1 + 1) (flatA p) = flatA xs7 ∧ List.length xs7 = List.length p ∧ (∀ (r : List Dv), r ∈ xs7 → List.length r = 1) ∧ ∃ (v8 : Int), ∃ (t9 : Int), ∃ (p10 : List Int), ∃ (z11 : NotT), ∃ (e12 : Int), [AV.d (i64 v), AV.d (Dv.sl 1 xs7), AV.d (i64 t)] = [AV.d (i64 v8), AV.d (Dv.sl 1 (bytesR p10)), AV.d (i64 t9)] ∧ (List.length p10 ≤ 9223372036854775807 ∧ (z11, e12) = annS v8 p10 t9) ∧ BIf z0 (BIf (e12 == (0 : Int)) (BIf (NotT.r z4 != NotT.r z11) (BIf (NotT.v z4 == v) (BIf (NotT.v z11 == v) (BIf (NotT.n z4 == ((List.length p : Nat) : Int)) (BIf (NotT.n z11 == NotT.n z4) (BIf (NotT.t z4 == t) (R (AV.d (bo (NotT.t z11 == t))) b) (R (AV.d (bo false)) b)) (R (AV.d (bo false)) b)) (R (AV.d (bo false)) b)) (R (AV.d (bo false)) b)) (R (AV.d (bo false)) b)) (R (AV.d (bo false)) b)) (R (AV.d (bo false)) b)) (R (AV.d (bo false)) b)) False) False) False)) False) False)))) := by kernel_rfl
end
end Go.Proofs.YtfeemohdpmdaoaaDoor.Am

namespace Go.Proofs.YtfeemohdpmdaoaaDoor.Am
set_option linter.unusedVariables false
open Go Go.RowKit Go.Proofs

/-! ### digests are one-to-one in each of their parts -/
def InR (x : Int) : Prop := 0 ≤ x ∧ x < 18446744073709551616
theorem wrap_emod (x : Int) : IntKind.wrap .u64 x = x % 18446744073709551616 := by
  simp only [IntKind.wrap]; simp [IntKind.signed, IntKind.bits]
theorem step_range (n w : Int) : InR (stepS n w) := wrap_u64_range _
theorem inv_div {d P Q M T k : Int} (hPQ : P * Q - M * T = 1) (hk : d * P = M * k) : d = M * (k * Q - d * T) := by
  have e1 : d * P * Q = M * k * Q := by rw [hk]
  rw [Int.mul_assoc, Int.mul_assoc] at e1
  rw [Int.mul_sub, ← e1, ← Int.mul_assoc M d, Int.mul_comm M d, Int.mul_assoc d M, ← Int.mul_sub, hPQ, Int.mul_one]
theorem small_mul {d e : Int} (h : d = 18446744073709551616 * e) (h1 : -18446744073709551616 < d) (h2 : d < 18446744073709551616) : d = 0 := by omega
theorem inv_lit : (1099511628211 : Int) * 14886173955864302971 - 18446744073709551616 * 887285111055 = 1 := by decide +kernel
theorem mul_inj {a b : Int} (ha : InR a) (hb : InR b) (h : IntKind.wrap .u64 (a * 1099511628211) = IntKind.wrap .u64 (b * 1099511628211)) : a = b := by
  rw [wrap_emod, wrap_emod] at h
  have h2 := Int.emod_eq_emod_iff_emod_sub_eq_zero.1 h
  obtain ⟨k, hk⟩ := Int.dvd_of_emod_eq_zero h2
  rw [← Int.sub_mul] at hk
  have h3 := inv_div inv_lit hk
  have h4 := small_mul h3 (by obtain ⟨a1, a2⟩ := ha; obtain ⟨b1, b2⟩ := hb; clear h h2 hk h3; omega) (by obtain ⟨a1, a2⟩ := ha; obtain ⟨b1, b2⟩ := hb; clear h h2 hk h3; omega)
  clear h h2 hk h3
  omega
theorem ofInt_inj {a b : Int} (ha : InR a) (hb : InR b) (h : BitVec.ofInt 64 a = BitVec.ofInt 64 b) : a = b := by
  have h1 := congrArg BitVec.toNat h
  rw [BitVec.toNat_ofInt, BitVec.toNat_ofInt] at h1
  obtain ⟨a1, a2⟩ := ha
  obtain ⟨b1, b2⟩ := hb
  omega
theorem step_xor {n w n' w' : Int} (h : stepS n w = stepS n' w') : BitVec.ofInt 64 n ^^^ BitVec.ofInt 64 w = BitVec.ofInt 64 n' ^^^ BitVec.ofInt 64 w' := by
  have hr : ∀ x : BitVec 64, InR (x.toNat : Int) := fun x => ⟨by omega, by have := x.isLt; omega⟩
  have hw : ∀ x : BitVec 64, IntKind.wrap .u64 (x.toNat : Int) = (x.toNat : Int) := fun x => wrap_u64 (hr x).1 (hr x).2
  unfold stepS at h
  rw [hw, hw] at h
  have := mul_inj (hr _) (hr _) h
  exact BitVec.eq_of_toNat_eq (by omega)
theorem step_inj_r {n w w' : Int} (h1 : InR w) (h2 : InR w') (h : stepS n w = stepS n w') : w = w' := by
  have := step_xor h
  exact ofInt_inj h1 h2 (by
    have h3 := congrArg (BitVec.ofInt 64 n ^^^ ·) this
    simpa [← BitVec.xor_assoc] using h3)
theorem step_inj_l {n n' w : Int} (h1 : InR n) (h2 : InR n') (h : stepS n w = stepS n' w) : n = n' := by
  have := step_xor h
  exact ofInt_inj h1 h2 (by
    have h3 := congrArg (· ^^^ BitVec.ofInt 64 w) this
    simpa [BitVec.xor_assoc] using h3)
theorem pair_range (a b : Int) : InR (pairS a b) := step_range _ _
theorem pair_inj_l {a a' b : Int} (h1 : InR a) (h2 : InR a') (h : pairS a b = pairS a' b) : a = a' :=
  step_inj_r h1 h2 (step_inj_l (step_range _ _) (step_range _ _) h)
theorem pair_inj_r {a b b' : Int} (h1 : InR b) (h2 : InR b') (h : pairS a b = pairS a b') : b = b' := step_inj_r h1 h2 h

/-! ### lists that differ at one place -/
inductive One {α : Type} (R : α → α → Prop) : List α → List α → Prop
  | head {a b : α} {l : List α} (h : R a b) : One R (a :: l) (b :: l)
  | tail {a : α} {l l' : List α} (h : One R l l') : One R (a :: l) (a :: l')
theorem One.len {α : Type} {R : α → α → Prop} {l l' : List α} (h : One R l l') : l.length = l'.length := by
  induction h with
  | head => rfl
  | tail _ ih => simp [ih]
theorem One.map {α γ : Type} {R : α → α → Prop} {R' : γ → γ → Prop} {f : α → γ} {l l' : List α} (h : One R l l') (hf : ∀ a b, a ∈ l → b ∈ l' → R a b → R' (f a) (f b)) : One R' (l.map f) (l'.map f) := by
  induction h with
  | head h => exact .head (hf _ _ (List.mem_cons_self ..) (List.mem_cons_self ..) h)
  | tail _ ih => exact .tail (ih fun a b ha hb => hf a b (List.mem_cons_of_mem _ ha) (List.mem_cons_of_mem _ hb))
theorem One.append {α : Type} {R : α → α → Prop} {l l' : List α} (h : One R l l') (m : List α) : One R (l ++ m) (l' ++ m) := by
  induction h with
  | head h => exact .head h
  | tail _ ih => exact .tail ih
theorem One.split {α : Type} {R : α → α → Prop} {l l' : List α} (h : One R l l') : ∀ m : Nat, (One R (l.take m) (l'.take m) ∧ l.drop m = l'.drop m) ∨ (l.take m = l'.take m ∧ One R (l.drop m) (l'.drop m)) := by
  induction h with
  | head h =>
    intro m
    cases m with
    | zero => exact .inr ⟨rfl, .head h⟩
    | succ m => exact .inl ⟨.head h, rfl⟩
  | tail h ih =>
    intro m
    cases m with
    | zero => exact .inr ⟨rfl, .tail h⟩
    | succ m =>
      rcases ih m with ⟨h1, h2⟩ | ⟨h1, h2⟩
      · exact .inl ⟨.tail h1, by simpa using h2⟩
      · exact .inr ⟨by simp [h1], by simpa using h2⟩
theorem One.set {α : Type} {R : α → α → Prop} : ∀ {l : List α} {i : Nat} {a b : α}, l[i]? = some a → R a b → One R l (l.set i b)
  | [], i, a, b, h, _ => by simp at h
  | x :: l, 0, a, b, h, hr => by simp at h; subst h; exact .head hr
  | x :: l, i + 1, a, b, h, hr => .tail (One.set (by simpa using h) hr)
theorem chunk_one {l l' : List Int} (m : Nat) : ∀ (n : Nat) {l l' : List Int}, One (fun a b => a ≠ b) l l' → l.length ≤ n → 1 ≤ m → One (One fun a b => a ≠ b) (chunkD m n l) (chunkD m n l')
  | 0, l, l', h, hn, hm => by
    cases h with
    | head => simp at hn
    | tail => simp at hn
  | n + 1, l, l', h, hn, hm => by
    have hl : l ≠ [] := by cases h <;> simp
    have hl' : l' ≠ [] := by cases h <;> simp
    rw [chunkD, chunkD, if_neg (by simpa using hl), if_neg (by simpa using hl')]
    rcases h.split m with ⟨h1, h2⟩ | ⟨h1, h2⟩
    · rw [h2]; exact .head h1
    · rw [h1]
      refine .tail (chunk_one (l := []) (l' := []) m n h2 ?_ hm)
      have : 1 ≤ l.length := List.length_pos_iff.2 hl
      simp; omega
theorem pad_one {l l' : List Int} (h : One (fun a b => a ≠ b) l l') : One (fun a b => a ≠ b) (padS l) (padS l') := by
  rw [padS, padS, ← h.len]; exact h.append _
theorem split_one {p p' : List Int} (h : One (fun a b => a ≠ b) p p') : One (One fun a b => a ≠ b) (splitS p) (splitS p') := by
  rw [splitS, splitS, ← h.len]
  exact (chunk_one (l := []) (l' := []) 256 _ h (Nat.le_refl _) (by omega)).map fun a b _ _ hr => pad_one hr
/-! ### leaves, levels, roots -/
theorem add_range {s : Int} (hs : InR s) : ∀ p : List Int, InR (addB s p) := by
  intro p
  induction p generalizing s with
  | nil => exact hs
  | cons c p ih => exact ih (step_range _ _)
theorem add_inj {s s' : Int} (h1 : InR s) (h2 : InR s') (hne : s ≠ s') : ∀ p : List Int, addB s p ≠ addB s' p := by
  intro p
  induction p generalizing s s' with
  | nil => exact hne
  | cons c p ih => exact ih (step_range _ _) (step_range _ _) fun h => hne (step_inj_l h1 h2 h)
theorem add_one {s : Int} (hs : InR s) {p p' : List Int} (h : One (fun a b => a ≠ b) p p') (hp : ∀ x ∈ p, InR x) (hp' : ∀ x ∈ p', InR x) : addB s p ≠ addB s p' := by
  induction h generalizing s with
  | head h =>
    rename_i a b l
    have ha := hp a (List.mem_cons_self ..)
    have hb := hp' b (List.mem_cons_self ..)
    refine add_inj (step_range _ _) (step_range _ _) (fun he => h ?_) l
    have := step_inj_r (wrap_u64_range a) (wrap_u64_range b) he
    rwa [wrap_u64 ha.1 ha.2, wrap_u64 hb.1 hb.2] at this
  | tail _ ih => exact ih (step_range _ _) (fun x hx => hp x (List.mem_cons_of_mem _ hx)) fun x hx => hp' x (List.mem_cons_of_mem _ hx)
theorem leaf_range (p : List Int) : InR (leafS p) := add_range (step_range _ _) p
theorem leaf_one {p p' : List Int} (h : One (fun a b => a ≠ b) p p') (hp : ∀ x ∈ p, InR x) (hp' : ∀ x ∈ p', InR x) : leafS p ≠ leafS p' := add_one (step_range _ _) h hp hp'
theorem next_range : ∀ {l : List Int}, (∀ x ∈ l, InR x) → ∀ x ∈ nextL l, InR x
  | [], h, x, hx => by simp [nextL] at hx
  | [a], h, x, hx => by simp [nextL] at hx; subst hx; exact h _ (List.mem_cons_self ..)
  | a :: c :: l, h, x, hx => by
    rcases List.mem_cons.1 hx with rfl | hx
    · exact pair_range _ _
    · exact next_range (fun y hy => h y (List.mem_cons_of_mem _ (List.mem_cons_of_mem _ hy))) x hx
theorem next_one : ∀ {l l' : List Int}, One (fun a b => a ≠ b) l l' → (∀ x ∈ l, InR x) → (∀ x ∈ l', InR x) → One (fun a b => a ≠ b) (nextL l) (nextL l')
  | [], _, h, _, _ => by cases h
  | [a], _, h, _, _ => by
    cases h with
    | head h => exact .head h
    | tail h => cases h
  | a :: c :: l, _, h, hr, hr' => by
    have ha := hr a (List.mem_cons_self ..)
    have hc := hr c (List.mem_cons_of_mem _ (List.mem_cons_self ..))
    cases h with
    | head h =>
      rename_i b
      have hb := hr' b (List.mem_cons_self ..)
      exact .head fun he => h (pair_inj_l ha hb he)
    | tail h =>
      cases h with
      | head h =>
        rename_i d
        have hd := hr' d (List.mem_cons_of_mem _ (List.mem_cons_self ..))
        exact .head fun he => h (pair_inj_r hc hd he)
      | tail h => exact .tail (next_one h (fun x hx => hr x (List.mem_cons_of_mem _ (List.mem_cons_of_mem _ hx))) fun x hx => hr' x (List.mem_cons_of_mem _ (List.mem_cons_of_mem _ hx)))
def rootF : Nat → List Int → Int
  | 0, now => nth now 0
  | n + 1, now => if 1 < now.length then rootF n (nextL now) else nth now 0
theorem last_root : ∀ (n : Nat) (now : List Int) (v : Int), lastS (levelsF n now) v = rootF n now
  | 0, now, v => rfl
  | n + 1, now, v => by
    rw [levelsF, rootF]
    split
    · exact last_root n (nextL now) _
    · rfl
theorem root_one : ∀ (n : Nat) {l l' : List Int}, l.length ≤ n + 1 → One (fun a b => a ≠ b) l l' → (∀ x ∈ l, InR x) → (∀ x ∈ l', InR x) → rootF n l ≠ rootF n l'
  | 0, l, l', hn, h, _, _ => by
    cases h with
    | head h => exact h
    | tail h => cases h <;> simp at hn
  | n + 1, l, l', hn, h, hr, hr' => by
    rw [rootF, rootF, ← h.len]
    split
    · rename_i h1
      have := (nextL_len l).2 h1
      exact root_one n (by omega) (next_one h hr hr') (next_range hr) (next_range hr')
    · cases h with
      | head h => exact h
      | tail h => cases h <;> simp at *
/-- a page is changed: another root -/
theorem rootS_one {ps ps' : List (List Int)} (h : One (One fun a b => a ≠ b) ps ps') (h1 : areS ps = true) (h2 : areS ps' = true) (hr : ∀ p ∈ ps, ∀ x ∈ p, InR x) (hr' : ∀ p ∈ ps', ∀ x ∈ p, InR x) : (rootS ps).1 ≠ (rootS ps').1 := by
  rw [rootS, rootS, if_pos h1, if_pos h2]
  simp only
  rw [levelsS, levelsS, last_root, last_root, List.length_map, List.length_map, ← h.len]
  refine root_one _ (by simp) (h.map fun a b ha hb hab => leaf_one hab (hr a ha) (hr' b hb)) ?_ ?_
  · intro x hx; obtain ⟨p, _, rfl⟩ := List.mem_map.1 hx; exact leaf_range p
  · intro x hx; obtain ⟨p, _, rfl⟩ := List.mem_map.1 hx; exact leaf_range p
end Go.Proofs.YtfeemohdpmdaoaaDoor.Am

namespace Go.Proofs.YtfeemohdpmdaoaaDoor.Am
set_option linter.unusedVariables false
open Go Go.RowKit Go.Proofs

/-! ### proofs are right, and changed ones are wrong -/
theorem nth_cons (a : Int) (l : List Int) (i : Nat) : nth (a :: l) (i + 1) = nth l i := by simp [nth]
theorem next_len : ∀ l : List Int, (nextL l).length = (l.length + 1) / 2
  | [] => rfl
  | [a] => by simp [nextL]
  | a :: c :: l => by
    have := next_len l
    simp only [nextL, List.length_cons]; omega
theorem next_nth : ∀ (l : List Int) (k : Nat), k < l.length → nth (nextL l) (k / 2) = if sibN k < l.length then (if k % 2 = 1 then pairS (nth l (sibN k)) (nth l k) else pairS (nth l k) (nth l (sibN k))) else nth l k
  | [], k, h => by simp at h
  | [a], k, h => by
    have : k = 0 := by simp at h; omega
    subst this
    rfl
  | a :: c :: l, 0, h => by
    rw [show sibN 0 = 1 from rfl, if_pos (by simp), if_neg (by decide)]; rfl
  | a :: c :: l, 1, h => by
    rw [show sibN 1 = 0 from rfl, if_pos (by simp), if_pos (by decide)]; rfl
  | a :: c :: l, k + 2, h => by
    have ih := next_nth l k (by simp at h; omega)
    have e1 : (k + 2) / 2 = k / 2 + 1 := by omega
    have e2 : sibN (k + 2) = sibN k + 2 := by unfold sibN; split <;> split <;> omega
    have e3 : (k + 2) % 2 = k % 2 := by omega
    rw [e1, e2, e3, nextL, nth_cons, ih]
    have e4 : nth (a :: c :: l) (sibN k + 2) = nth l (sibN k) := by rw [show sibN k + 2 = (sibN k + 1) + 1 from rfl, nth_cons, nth_cons]
    have e5 : nth (a :: c :: l) (k + 2) = nth l k := by rw [show k + 2 = (k + 1) + 1 from rfl, nth_cons, nth_cons]
    rw [e4, e5]
    by_cases hs : sibN k < l.length
    · rw [if_pos hs, if_pos (show sibN k + 2 < (a :: c :: l).length by simp only [List.length_cons]; omega)]
    · rw [if_neg hs, if_neg (show ¬ sibN k + 2 < (a :: c :: l).length by simp only [List.length_cons]; omega)]
theorem check_right : ∀ (n w k : Nat) (now : List Int), now.length = w → k < w → w ≤ n + 1 → checkF (walkP n w k) (proofF (levelsF n now) k) (nth now k) = some ([], rootF n now)
  | 0, w, k, now, hw, hk, hn => by
    have : k = 0 := by omega
    subst this
    rw [walkP, levelsF, proofF, show sibN 0 = 1 from rfl, if_neg (by omega), proofF]; rfl
  | n + 1, w, k, now, hw, hk, hn => by
    rw [walkP, levelsF, rootF, hw]
    by_cases h1 : 1 < w
    · rw [if_pos h1, if_pos h1, if_pos h1, proofF, hw]
      have hnx := next_nth now k (by omega)
      have hln := next_len now
      have ih := check_right n ((w + 1) / 2) (k / 2) (nextL now) (by rw [hln, hw]) (by omega) (by omega)
      rw [hw] at hnx
      by_cases hs : sibN k < w
      · rw [if_pos hs] at hnx ⊢
        rw [decide_eq_true hs, List.singleton_append]
        by_cases hodd : k % 2 = 1
        · rw [if_pos hodd] at hnx
          rw [show (k % 2 == 1) = true by simp [hodd], checkF_t, ← hnx]; exact ih
        · rw [if_neg hodd] at hnx
          rw [show (k % 2 == 1) = false by simp; omega, checkF_g, ← hnx]; exact ih
      · rw [if_neg hs] at hnx ⊢
        rw [decide_eq_false hs, List.nil_append, checkF_f, ← hnx]; exact ih
    · rw [if_neg h1, if_neg h1, if_neg h1, proofF, proofF, List.append_nil]
      have : k = 0 := by omega
      subst this
      rw [hw, show sibN 0 = 1 from rfl, if_neg (by omega)]; rfl
theorem check_inj : ∀ (l : List (Bool × Bool)) (q r : List Int) (s s' z : Int), InR s → InR s' → s ≠ s' → checkF l q s = some (r, z) → ∃ z', checkF l q s' = some (r, z') ∧ z ≠ z'
  | [], q, r, s, s', z, h1, h2, hne, h => by cases h; exact ⟨s', rfl, hne⟩
  | (false, u) :: l, q, r, s, s', z, h1, h2, hne, h => by
    rw [checkF_f] at h ⊢; exact check_inj l q r s s' z h1 h2 hne h
  | (true, u) :: l, [], r, s, s', z, h1, h2, hne, h => by rw [checkF_nil] at h; cases h
  | (true, true) :: l, x :: q, r, s, s', z, h1, h2, hne, h => by
    rw [checkF_t] at h ⊢; exact check_inj l q r _ _ z (pair_range _ _) (pair_range _ _) (fun he => hne (pair_inj_r h1 h2 he)) h
  | (true, false) :: l, x :: q, r, s, s', z, h1, h2, hne, h => by
    rw [checkF_g] at h ⊢; exact check_inj l q r _ _ z (pair_range _ _) (pair_range _ _) (fun he => hne (pair_inj_l h1 h2 he)) h
theorem check_one : ∀ (l : List (Bool × Bool)) (q q' : List Int) (s z : Int), One (fun a b => a ≠ b) q q' → (∀ x ∈ q, InR x) → (∀ x ∈ q', InR x) → checkF l q s = some ([], z) → ∃ z', checkF l q' s = some ([], z') ∧ z ≠ z'
  | [], q, q', s, z, ho, h1, h2, h => by
    cases h
    cases ho
  | (false, u) :: l, q, q', s, z, ho, h1, h2, h => by
    rw [checkF_f] at h ⊢; exact check_one l q q' s z ho h1 h2 h
  | (true, u) :: l, q, q', s, z, ho, h1, h2, h => by
    cases ho with
    | head hab =>
      rename_i a b r
      have ha := h1 a (List.mem_cons_self ..)
      have hb := h2 b (List.mem_cons_self ..)
      cases u with
      | true =>
        rw [checkF_t] at h ⊢
        exact check_inj l r [] _ _ z (pair_range _ _) (pair_range _ _) (fun he => hab (pair_inj_l ha hb he)) h
      | false =>
        rw [checkF_g] at h ⊢
        exact check_inj l r [] _ _ z (pair_range _ _) (pair_range _ _) (fun he => hab (pair_inj_r ha hb he)) h
    | tail ho =>
      cases u with
      | true =>
        rw [checkF_t] at h ⊢
        exact check_one l _ _ _ z ho (fun x hx => h1 x (List.mem_cons_of_mem _ hx)) (fun x hx => h2 x (List.mem_cons_of_mem _ hx)) h
      | false =>
        rw [checkF_g] at h ⊢
        exact check_one l _ _ _ z ho (fun x hx => h1 x (List.mem_cons_of_mem _ hx)) (fun x hx => h2 x (List.mem_cons_of_mem _ hx)) h
theorem check_more : ∀ (l : List (Bool × Bool)) (q r m : List Int) (s z : Int), checkF l q s = some (r, z) → checkF l (q ++ m) s = some (r ++ m, z)
  | [], q, r, m, s, z, h => by cases h; rfl
  | (false, u) :: l, q, r, m, s, z, h => by rw [checkF_f] at h ⊢; exact check_more l q r m s z h
  | (true, u) :: l, [], r, m, s, z, h => by rw [checkF_nil] at h; cases h
  | (true, true) :: l, x :: q, r, m, s, z, h => by rw [List.cons_append, checkF_t]; rw [checkF_t] at h; exact check_more l q r m _ z h
  | (true, false) :: l, x :: q, r, m, s, z, h => by rw [List.cons_append, checkF_g]; rw [checkF_g] at h; exact check_more l q r m _ z h
theorem check_less : ∀ (l : List (Bool × Bool)) (q : List Int) (a s z : Int), checkF l (q ++ [a]) s = some ([], z) → checkF l q s = none
  | [], q, a, s, z, h => by
    have h : some (q ++ [a], s) = some ([], z) := h
    simp at h
  | (false, u) :: l, q, a, s, z, h => by rw [checkF_f] at h ⊢; exact check_less l q a s z h
  | (true, u) :: l, [], a, s, z, h => checkF_nil _ _ _
  | (true, true) :: l, x :: q, a, s, z, h => by rw [List.cons_append, checkF_t] at h; rw [checkF_t]; exact check_less l q a _ z h
  | (true, false) :: l, x :: q, a, s, z, h => by rw [List.cons_append, checkF_g] at h; rw [checkF_g]; exact check_less l q a _ z h

/-! ### a program's pages, their proofs, the root -/
theorem map_nth {l : List (List Int)} {i : Nat} (h : i < l.length) : nth (l.map leafS) i = leafS (nthL l i) := by simp [nth, nthL, h]
/-- the check of a page of right pages -/
theorem check_page {ps : List (List Int)} (h : areS ps = true) {i : Nat} (hi : i < ps.length) : checkF (walkS ps.length i) (proofF (levelsS ps) i) (leafS (nthL ps i)) = some ([], (rootS ps).1) := by
  rw [rootS, if_pos h, levelsS, last_root, walkS, List.length_map, ← map_nth hi]
  exact check_right ps.length ps.length i (ps.map leafS) (by simp) hi (by omega)
theorem check_form {r : Int} {w i : Nat} {p q : List Int} (h1 : 1 ≤ w) (h2 : w ≤ 16) (h3 : i < w) (h4 : p.length ≤ 256) : checkS r w i p q = topS r (checkF (walkS w i) q (leafS p)) := by
  rw [checkS, Int.toNat_natCast, Int.toNat_natCast, decide_eq_false (by omega), decide_eq_false (by omega), decide_eq_false (by omega), decide_eq_false (by omega), decide_eq_false (by omega)]; rfl
theorem page_range {ps : List (List Int)} {i : Nat} : ∀ x ∈ proofF (levelsS ps) i, InR x := by
  have key : ∀ (n : Nat) (now : List Int) (k : Nat), (∀ x ∈ now, InR x) → ∀ x ∈ proofF (levelsF n now) k, InR x := by
    have one : ∀ (now : List Int) (k : Nat), (∀ x ∈ now, InR x) → ∀ x ∈ (if sibN k < now.length then [nth now (sibN k)] else []), InR x := by
      intro now k h x hx
      split at hx
      · rename_i hs
        simp only [List.mem_singleton] at hx
        subst hx
        rw [nth, List.getD_eq_getElem?_getD, List.getElem?_eq_getElem hs]
        exact h _ (List.getElem_mem hs)
      · cases hx
    intro n
    induction n with
    | zero =>
      intro now k h x hx
      rw [levelsF, proofF, proofF, List.append_nil] at hx
      exact one now k h x hx
    | succ n ih =>
      intro now k h x hx
      rw [levelsF] at hx
      split at hx
      · rw [proofF] at hx
        rcases List.mem_append.1 hx with hx | hx
        · exact one now k h x hx
        · exact ih (nextL now) (k / 2) (next_range h) x hx
      · rw [proofF, proofF, List.append_nil] at hx
        exact one now k h x hx
  refine key _ _ i ?_
  intro x hx
  obtain ⟨p, _, rfl⟩ := List.mem_map.1 hx
  exact leaf_range p
theorem page_len {ps : List (List Int)} {i : Nat} (h : areS ps = true) (hi : i < ps.length) : (proofF (levelsS ps) i).length ≤ 16 := by
  have hl : ps.length ≤ 16 := (areS_ok h).1
  have hF := checkF_len ps.length ps.length i (proofF (levelsS ps) i) (leafS (nthL ps i))
  have hc := check_page h hi
  rw [walkS] at hc
  have := lenW_le ps.length ps.length i
  rcases Nat.lt_or_ge (proofF (levelsS ps) i).length (lenW ps.length ps.length i) with h1 | h1
  · omega
  · obtain ⟨z, hz⟩ := hF.2 h1
    rw [hz] at hc
    simp only [Option.some.injEq, Prod.mk.injEq, List.drop_eq_nil_iff] at hc
    omega
end Go.Proofs.YtfeemohdpmdaoaaDoor.Am

namespace Go.Proofs.YtfeemohdpmdaoaaDoor.Am
set_option linter.unusedVariables false
open Go Go.RowKit Go.Proofs

def IsB (x : Int) : Prop := 0 ≤ x ∧ x < 256
theorem IsB.inR {x : Int} (h : IsB x) : InR x := ⟨h.1, by have := h.2; omega⟩
theorem split_range {p : List Int} (h : ∀ x ∈ p, IsB x) : ∀ q ∈ splitS p, ∀ x ∈ q, IsB x := by
  intro q hq x hx
  rw [split_pieces] at hq
  obtain ⟨i, _, rfl⟩ := List.mem_map.1 hq
  rw [padS] at hx
  rcases List.mem_append.1 hx with hx | hx
  · exact h x (List.mem_of_mem_drop (List.mem_of_mem_take hx))
  · rw [(List.mem_replicate.1 hx).2]; exact ⟨by decide, by decide⟩
def xorB (x c : Int) : Int := IntKind.wrap IntKind.u8 ((BitVec.toNat (BitVec.ofInt 8 x ^^^ BitVec.ofInt 8 c) : Nat) : Int)
theorem xorB_isB (x c : Int) : IsB (xorB x c) := by
  have := (BitVec.ofInt 8 x ^^^ BitVec.ofInt 8 c).isLt
  unfold xorB
  rw [wrap_u8 (by omega) (by omega)]
  exact ⟨by omega, by omega⟩
theorem xorB_ne {x c : Int} (hx : IsB x) (hc : IsB c) (h0 : c ≠ 0) : x ≠ xorB x c := by
  intro h
  have hlt := (BitVec.ofInt 8 x ^^^ BitVec.ofInt 8 c).isLt
  unfold xorB at h
  rw [wrap_u8 (by omega) (by omega)] at h
  obtain ⟨x1, x2⟩ := hx
  obtain ⟨c1, c2⟩ := hc
  have e1 : (BitVec.ofInt 8 x).toNat = x.toNat := by rw [BitVec.toNat_ofInt]; omega
  have e2 : (BitVec.ofInt 8 c).toNat = c.toNat := by rw [BitVec.toNat_ofInt]; omega
  have e3 : BitVec.ofInt 8 x ^^^ BitVec.ofInt 8 c = BitVec.ofInt 8 x := BitVec.eq_of_toNat_eq (by rw [e1]; omega)
  have e4 : BitVec.ofInt 8 c = 0 := by
    have := congrArg (BitVec.ofInt 8 x ^^^ ·) e3
    simpa [← BitVec.xor_assoc] using this
  have e5 := congrArg BitVec.toNat e4
  rw [e2] at e5
  simp at e5
  omega
theorem flatA_set {p : List Int} {j : Nat} {y : Int} (hj : j < p.length) : (flatA (bytesR p)).take (j * 1) ++ [AV.d (u8 y)] ++ (flatA (bytesR p)).drop (j * 1 + 1) = flatA (bytesR (p.set j y)) := by
  rw [flatA_bytes, flatA_bytes, Nat.mul_one, List.map_set, List.set_eq_take_append_cons_drop, if_pos (by simpa using hj)]; simp
set_option maxRecDepth 20000 in
theorem pcLaw6 (p : List Int) (v t a c : Int) (h1 : p.length ≤ 9223372036854775807) (hp : ∀ x ∈ p, IsB x) (ha : 0 ≤ a ∧ a < 65536) (hc : IsB c) :
    PCall Tryd.prog 6 [.d (.sl 1 (bytesR p)), .d (i64 v), .d (i64 t), .d (.s (.int .u16 a)), .d (u8 c)] (.d (bo true)) := by
  refine PCall.ofFn (n := 200) (u := false) mixed TL3_ok GByte_ok Tryd.func6 (by rfl) (by rfl) fun Ev bb => ?_
  rw [f6_nf]
  refine ⟨rfl, _, rfl, v, t, p, (annS v p t).1, (annS v p t).2, rfl, ⟨h1, rfl⟩, BIf.of (fun _ => rfl) fun g1 => BIf.of (fun _ => rfl) fun g2 => BIf.of (fun _ => rfl) fun g3 => ?_⟩
  have g1 : (annS v p t).2 = 0 := by simpa using g1
  have g2 : c ≠ 0 := by simpa using g2
  rw [bytesR_len] at g3 ⊢
  have g3 : p ≠ [] := by intro h; subst h; simp at g3
  have hl : 1 ≤ p.length := List.length_pos_iff.2 g3
  have hok : (sizedS p.length && announcedS v p.length t) = true := by
    cases hh : (sizedS p.length && announcedS v p.length t) with
    | true => rfl
    | false => rw [annS, if_neg (by rw [hh]; simp)] at g1; cases g1
  have hsz : sizedS p.length = true := (Bool.and_eq_true .. ▸ hok : _ ∧ _).1
  obtain ⟨kk, hk, hk1, hk2⟩ := sized_nat hsz
  obtain ⟨an, rfl⟩ := Int.eq_ofNat_of_zero_le ha.1
  have ej : Int.tmod (IntKind.wrap IntKind.i64 (an : Int)) (p.length : Int) = ((an % p.length : Nat) : Int) := by
    rw [wrap_i64 (by omega) (by omega)]; rfl
  have hj : an % p.length < p.length := Nat.mod_lt _ hl
  rw [ej, Int.toNat_natCast]
  generalize an % p.length = j at hj
  have hx : p[j]? = some (nth p j) := by simp [nth, hj]
  have hxB : IsB (nth p j) := hp _ (List.mem_of_getElem? hx)
  have hlen' : (p.set j (xorB (nth p j) c)).length = p.length := List.length_set
  have hfl : (flatA (bytesR p)).length = p.length := by rw [flatA_bytes, List.length_map]
  refine BIf.t (by simp <;> omega) (BIf.t (by simp <;> omega) ⟨rfl, BIf.f (by simp <;> omega) ⟨rfl, BIf.t (by simp <;> omega) ⟨rfl, nth p j, ?_, rfl, BIf.t (by simp <;> omega) ⟨rfl, BIf.t (by rw [hfl]; simp <;> omega) ⟨rfl, bytesR (p.set j (xorB (nth p j) c)), flatA_set hj, by rw [bytesR_len, hlen'], bytes_row,
    v, t, p.set j (xorB (nth p j) c), (annS v (p.set j (xorB (nth p j) c)) t).1, (annS v (p.set j (xorB (nth p j) c)) t).2, rfl, ⟨by omega, rfl⟩, ?_⟩⟩⟩⟩⟩)
  · rw [flatA_bytes, Nat.mul_one]
    apply List.ext_getElem?
    intro i
    rw [List.getElem?_take]
    cases i with
    | zero => simp [hx]
    | succ i => simp
  have hone : One (fun a b => a ≠ b) p (p.set j (xorB (nth p j) c)) := One.set hx (xorB_ne hxB hc g2)
  have hB' : ∀ x ∈ p.set j (xorB (nth p j) c), IsB x := by
    intro x hx
    rcases List.mem_or_eq_of_mem_set hx with hx | rfl
    · exact hp x hx
    · exact xorB_isB _ _
  have hroot := rootS_one (split_one hone) (split_are hsz) (split_are (by rw [hlen']; exact hsz)) (fun q hq x hx => (split_range hp q hq x hx).inR) fun q hq x hx => (split_range hB' q hq x hx).inR
  have hr2 := split_root (p := p.set j (xorB (nth p j) c)) (by rw [hlen']; exact hsz)
  have e1 : annS v p t = (⟨v, p.length, (rootS (splitS p)).1, t⟩, (rootS (splitS p)).2) := by rw [annS, if_pos hok]
  have e2 : annS v (p.set j (xorB (nth p j) c)) t = (⟨v, p.length, (rootS (splitS (p.set j (xorB (nth p j) c)))).1, t⟩, 0) := by rw [annS, hlen', if_pos hok, hr2]
  rw [e1, e2]
  exact BIf.t rfl (BIf.t rfl (BIf.t (by simpa using hroot) (BIf.t (by simp) (BIf.t (by simp) (BIf.t (by simp) (BIf.t (by simp) (BIf.t (by simp) (by simp))))))))
/-! ### the law Sizes -/
theorem wr7 {Ev : Env Tryd.prog} {b : Ev.β} {Q : Exit → St Ev.β → Prop} (p : List Int) (n : Int) (x : List (List Dv)) (e : Int) (hl : p.length ≤ 1000000) : ∀ (rest : List Int) (k : Nat) (z : Bool), p.drop k = rest →
    (∀ i : Int, Q (.exit 0) ⟨tm7 (bytesR p) n x e (z && rest.all (· == 0)) i, [], b⟩) → WR Ev lp7 (rest.length + 1) ⟨tm7 (bytesR p) n x e z k, [], b⟩ Q
  | [], k, z, hd, h => by
    refine WR.ofMaskT [0, 1, 5, 8, 9, 10, 11] mixed (CX.Ok.of (u := false) CallsOk.nil SCallsOk.nil) (k := 100) ?_
    rw [r7, bytesR_len]
    have := drop_nil hd
    rw [List.all_nil, Bool.and_true] at h
    exact BIf.f (by simp <;> omega) (h _)
  | c :: rest, k, z, hd, h => by
    refine WR.ofMaskT [0, 1, 5, 8, 9, 10, 11] mixed (CX.Ok.of (u := false) CallsOk.nil SCallsOk.nil) (k := 100) ?_
    rw [r7, bytesR_len]
    obtain ⟨hk', hr, hd'⟩ := drop_cons hd
    rw [wrap_succ hk' (by omega)]
    refine BIf.t (by simp <;> omega) ?_
    cases z with
    | true =>
      refine BIf.t rfl (BIf.t (by simp) ⟨c, by simp [bytesR, hr], ?_⟩)
      refine wr7 p n x e hl rest (k + 1) (c == 0) hd' fun i => ?_
      have := h i
      rw [List.all_cons, Bool.true_and] at this
      exact this
    | false =>
      refine BIf.f rfl ?_
      exact wr7 p n x e hl rest (k + 1) false hd' fun i => by have := h i; rw [Bool.false_and] at this ⊢; exact this
def wl7 {β : Type} : WLT β := fun c tm hp b K => ∃ (p : List Int) (n : Nat) (x : List (List Dv)) (e : Int) (z : Bool), c = .loop lp7 ∧ maskTm [0, 1, 5, 8, 9, 10, 11] 0 tm = tm7 (bytesR p) n x e true n ∧ hp = [] ∧ (p.length ≤ 1000000 ∧ z = (p.drop n).all (· == 0)) ∧ ∀ i : Int, K (.exit 0) (tm7 (bytesR p) n x e z i) [] b
theorem wl7_ok {Ev : Env Tryd.prog} (c : Code) (tm : List AV) (hp : List Blk) (b : Ev.β) (K : Exit → List AV → List Blk → Ev.β → Prop) (h : wl7 c tm hp b K) : W Ev c ⟨tm, hp, b⟩ (fun e s => K e s.tm s.hp s.b) := by
  obtain ⟨p, n, x, e, z, rfl, htm, rfl, ⟨hl, rfl⟩, hK⟩ := h
  refine W.cast (htm ▸ maskTm_le _ tm 0) (LeH.refl _) ?_
  exact W.rounds (wr7 (Q := fun e s => K e s.tm s.hp s.b) p n x e hl _ n true rfl (by simpa using hK))
section
variable {β : Type} (wl : WLT β) (y : YieldT β) (b : β) (R : AV → β → Prop) (K : Exit → List AV → List Blk → β → Prop)
set_option maxHeartbeats 0
set_option maxRecDepth 100000
theorem f7_nf (p : List (List Dv)) (n : Int) : wpFn Tryd.prog ⟨TL3, [], wl7, y, false⟩ 200 Tryd.f7 [.d (.sl 1 p), .d (i64 n)] b R = ( ([] : List AV) = [] ∧ ∃ (z0 : Bool), z0 = true ∧ BIf (decide (((List.length p : Nat) : Int) < (1 : Int))) (R (AV.d (bo z0)) b) (BIf (decide (((List.length p : Nat) : Int) > (4096 : Int))) (R (AV.d (bo z0)) b) (BIf (decide (n < (1 : Int))) (R (AV.d (bo z0)) b) (BIf (decide (n > (4096 : Int))) (R (AV.d (bo z0)) b) (∃ (p1 : List Int), ∃ (q2 : List (List Int)), ∃ (e3 : Int), [AV.d (Dv.sl 1 p)] = [AV.d (Dv.sl 1 (bytesR p1))] ∧ (List.length p1 ≤ 9223372036854775807 ∧ (q2, e3) = splitE p1) ∧ BIf (e3 != (0 : Int)) (R (AV.d (bo false)) b) (BIf (((List.length (partsR q2) : Nat) : Int) != IntKind.wrap IntKind.i64 (Int.tdiv (IntKind.wrap IntKind.i64 (((List.length p : Nat) : Int) + (255 : Int))) (256 : Int))) (R (AV.d (bo false)) b) (∃ (ps4 : List (List Int)), ∃ (n5 : Int), ∃ (z6 : List Int), ∃ (e7 : Int), [AV.d (Dv.sl 1 (partsR q2)), AV.d (i64 n)] = [AV.d (Dv.sl 1 (partsR ps4)), AV.d (i64 n5)] ∧ (List.length ps4 ≤ 9223372036854775807 ∧ (z6, e7) = joinS ps4 n5) ∧ BIf (IntKind.wrap IntKind.i64 (Int.tdiv (IntKind.wrap IntKind.i64 (n + (255 : Int))) (256 : Int)) != ((List.length (partsR q2) : Nat) : Int)) (BIf z0 (R (AV.d (bo (e7 == (1 : Int)))) b) (R (AV.d (bo false)) b)) (∃ (p8 : List Int), ∃ (n9 : Nat), ∃ (x10 : List (List Dv)), ∃ (e11 : Int), ∃ (z12 : Bool), Code.loop lp7 = Code.loop lp7 ∧ [AV.d (Dv.sl 1 p), AV.d (i64 n), AV.bad, AV.bad, AV.bad, AV.d (bo z0), AV.bad, AV.bad, AV.d (Dv.sl 1 (bytesR z6)), AV.d (i64 e7), AV.d (bo true), AV.d (i64 n), AV.bad, AV.bad, AV.bad, AV.bad, AV.bad, AV.bad, AV.bad, AV.bad, AV.bad, AV.bad, AV.bad, AV.bad, AV.bad, AV.bad, AV.bad, AV.bad, AV.bad, AV.bad, AV.bad, AV.bad, AV.bad, AV.bad, AV.bad, AV.bad, AV.bad, AV.bad, AV.bad, AV.bad, AV.bad, AV.bad, AV.bad, AV.bad, AV.bad, AV.bad, AV.bad, AV.bad, AV.bad, AV.bad, AV.bad, AV.bad, AV.bad, AV.bad, AV.bad, AV.bad, AV.bad, AV.bad, AV.bad, AV.bad, AV.bad, AV.bad, AV.bad, AV.bad, AV.bad, AV.bad, AV.bad, AV.bad, AV.bad, AV.bad, AV.bad, AV.bad, AV.bad, AV.bad, AV.bad, AV.bad, AV.bad, AV.bad, AV.bad, AV.bad, AV.bad, AV.bad, AV.bad, AV.bad, AV.bad, AV.bad, AV.bad, AV.bad, AV.bad, AV.bad, AV.bad, AV.bad, AV.bad, AV.bad, AV.bad, AV.bad, AV.bad, AV.bad, AV.bad, AV.bad, AV.bad, AV.bad, AV.bad, AV.bad, AV.bad, AV.bad, AV.bad, AV.bad, AV.bad, AV.bad, AV.bad] = [AV.d (Dv.sl 1 (bytesR p8)), AV.d (i64 (n9 : Int)), AV.bad, AV.bad, AV.bad, AV.d (bo true), AV.bad, AV.bad, AV.d (Dv.sl 1 x10), AV.d (i64 e11), AV.d (bo true), AV.d (i64 (n9 : Int)), AV.bad, AV.bad, AV.bad, AV.bad, AV.bad, AV.bad, AV.bad, AV.bad, AV.bad, AV.bad, AV.bad, AV.bad, AV.bad, AV.bad, AV.bad, AV.bad, AV.bad, AV.bad, AV.bad, AV.bad, AV.bad, AV.bad, AV.bad, AV.bad, AV.bad, AV.bad, AV.bad, AV.bad, AV.bad, AV.bad, AV.bad, AV.bad, AV.bad, AV.bad, AV.bad, AV.bad, AV.bad, AV.bad, AV.bad, AV.bad, AV.bad, AV.bad, AV.bad, AV.bad, AV.bad, AV.bad, AV.bad, AV.bad, AV.bad, AV.bad, AV.bad, AV.bad, AV.bad, AV.bad, AV.bad, AV.bad, AV.bad, AV.bad, AV.bad, AV.bad, AV.bad, AV.bad, AV.bad, AV.bad, AV.bad, AV.bad, AV.bad, AV.bad, AV.bad, AV.bad, AV.bad, AV.bad, AV.bad, AV.bad, AV.bad, AV.bad, AV.bad, AV.bad, AV.bad, AV.bad, AV.bad, AV.bad, AV.bad, AV.bad, AV.bad, AV.bad, AV.bad, AV.bad, AV.bad, AV.bad, AV.bad, AV.bad, AV.bad, AV.bad, AV.bad, AV.bad, AV.bad, AV.bad, AV.bad] ∧ ([] : List Blk) = [] ∧ (List.length p8 ≤ 1000000 ∧ z12 = List.all (List.drop n9 p8) fun (x13 : Int) => x13 == (0 : Int)) ∧ ∀ (i : Int), BIf (!z12) (R (AV.d (bo (e11 == (12 : Int)))) b) (BIf (e11 == (0 : Int)) (BIf (((List.length x10 : Nat) : Int) == (n9 : Int)) (∃ (z14 : Int), (z14 = if ((List.length (bytesR p8) : Nat) : Int) < (n9 : Int) then ((List.length (bytesR p8) : Nat) : Int) else (n9 : Int)) ∧ BIf (true && decide ((0 : Int) ≤ (0 : Int) ∧ (0 : Int) ≤ z14 ∧ z14 ≤ ((List.length x10 : Nat) : Int) ∧ ((List.length x10 : Nat) : Int) ≤ ((List.length x10 : Nat) : Int))) (∃ (z15 : Int), (z15 = if ((List.length (bytesR p8) : Nat) : Int) < (n9 : Int) then ((List.length (bytesR p8) : Nat) : Int) else (n9 : Int)) ∧ BIf (true && decide ((0 : Int) ≤ (0 : Int) ∧ (0 : Int) ≤ z15 ∧ z15 ≤ ((List.length (bytesR p8) : Nat) : Int) ∧ ((List.length (bytesR p8) : Nat) : Int) ≤ ((List.length (bytesR p8) : Nat) : Int))) (∃ (a16 : List Int), ∃ (c17 : List Int), ∃ (z18 : Bool), [AV.d (Dv.sl 1 (List.take (Int.toNat z14 - Int.toNat (0 : Int)) (List.drop (Int.toNat (0 : Int)) x10))), AV.d (Dv.sl 1 (List.take (Int.toNat z15 - Int.toNat (0 : Int)) (List.drop (Int.toNat (0 : Int)) (bytesR p8))))] = [AV.d (Dv.sl 1 (bytesR a16)), AV.d (Dv.sl 1 (bytesR c17))] ∧ (List.length a16 ≤ 9223372036854775807 ∧ z18 = decide (a16 = c17)) ∧ R (AV.d (bo z18)) b) False) False) (R (AV.d (bo false)) b)) (R (AV.d (bo false)) b)))))))))) := by kernel_rfl
end
end Go.Proofs.YtfeemohdpmdaoaaDoor.Am
