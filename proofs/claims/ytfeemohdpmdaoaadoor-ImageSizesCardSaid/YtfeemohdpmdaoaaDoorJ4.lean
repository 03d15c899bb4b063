import Derived.Test.YtfeemohdpmdaoaaDoorJ3
set_option linter.unusedSimpArgs false
namespace Go.Proofs.YtfeemohdpmdaoaaDoor.Am
set_option linter.unusedVariables false
open Go Go.RowKit Go.Proofs

/-! ### the reference's Leaf and Pages of a tree -/
section
variable {β : Type} (wl : WLT β) (y : YieldT β) (b : β) (R : AV → β → Prop)
theorem tLeaf_nf (p : List (List Dv)) : wpFn Tryd.prog ⟨TRl, [], wl, y, false⟩ 100 Tryd.f32 [.d (.sl 1 p)] b R = (
  ∃ (p0 : List Int) (z1 : Int), [AV.full 1 [[u8 0]]] = [.full 1 (bytesR p0)] ∧ (p0.length ≤ 9223372036854775807 ∧ z1 = addB basisS p0) ∧ ∃ (s2 : Int) (p3 : List Int) (z4 : Int), [AV.d (u64 z1), .d (.sl 1 p)] = [.d (u64 s2), .d (.sl 1 (bytesR p3))] ∧
    (p3.length ≤ 9223372036854775807 ∧ z4 = addB s2 p3) ∧ R (.d (u64 z4)) b) := by kernel_rfl
end
theorem pcTLeaf (p : List Int) (hl : p.length ≤ 9223372036854775807) : PCall Tryd.prog 32 [.d (.sl 1 (bytesR p))] (.d (u64 (leafS p))) := by
  refine PCall.ofFn (n := 100) (u := false) mixed TRl_ok SCallsOk.nil Tryd.func32 (by rfl) (by rfl) fun Ev bb => ?_
  rw [tLeaf_nf]
  exact ⟨[0], _, rfl, ⟨by decide, rfl⟩, _, p, _, rfl, ⟨hl, rfl⟩, rfl⟩
def cTLeaf (args : List AV) (K : AV → Prop) : Prop := ∃ (p : List Int) (z : Int), args = [.d (.sl 1 (bytesR p))] ∧ (p.length ≤ 9223372036854775807 ∧ z = leafS p) ∧ K (.d (u64 z))
theorem cTLeaf_ok : ∀ args K, cTLeaf args K → ∃ x, PCall Tryd.prog 32 args x ∧ K x := by
  rintro _ K ⟨p, _, rfl, ⟨hl, rfl⟩, h⟩; exact ⟨_, pcTLeaf p hl, h⟩
noncomputable def lpTp : Code := sub [1, 1, 0, 1, 2, 3] (code Tryd.f68)
def tmTp (ps : List (List Dv)) (i : Int) : List AV := [.d (.sl 1 ps), .bad, .bad, .d (i64 i)] ++ List.replicate 20 .bad
section
variable {β : Type} (wl : WLT β) (y : YieldT β) (b : β) (K : Exit → List AV → List Blk → β → Prop)
theorem tp_round (ps : List (List Dv)) (i : Int) : wpc Tryd.prog ⟨[], [], wl, y, false⟩ 100 lpTp (tmTp ps i) [] b (maskK 0 [0, 2, 3] K) = (
  BIf (decide (i < (ps.length : Int))) (BIf (true && decide (0 ≤ i)) (∃ (xs0 : List (List Dv)), ps[Int.toNat i]? = some [Dv.sl 1 xs0] ∧ BIf (decide ((xs0.length : Int) > 256)) (K .ret ((tmTp ps i).set 2 (.d (bo false))) [] b) (K .normal (tmTp ps (IntKind.wrap .i64 (i + 1))) [] b)) False)
    (K (.exit 0) (tmTp ps i) [] b)) := by kernel_rfl
end
set_option maxRecDepth 10000 in
theorem wrTp {Ev : Env Tryd.prog} {b : Ev.β} {Q : Exit → St Ev.β → Prop} (ps : List (List Int)) (hl : ps.length ≤ 9223372036854775807) : ∀ (rest : List (List Int)) (k : Nat), ps.drop k = rest → k ≤ ps.length →
    (anyLong rest = false → ∀ i : Int, Q (.exit 0) ⟨tmTp (partsR ps) i, [], b⟩) → (anyLong rest = true → ∀ i : Int, Q .ret ⟨(tmTp (partsR ps) i).set 2 (.d (bo false)), [], b⟩) →
    WR Ev lpTp (rest.length + 1) ⟨tmTp (partsR ps) k, [], b⟩ Q
  | [], k, hd, hk, h1, h2 => by
    refine WR.ofMask [0, 2, 3] mixed (CX.Ok.of (u := false) CallsOk.nil SCallsOk.nil) (k := 100) ?_
    show wpc _ _ _ _ _ _ _ (maskK 0 _ _)
    rw [tp_round, partsR_len]
    have := drop_nil hd
    exact BIf.f (by simp; omega) (h1 rfl _)
  | p :: rest, k, hd, hk, h1, h2 => by
    refine WR.ofMask [0, 2, 3] mixed (CX.Ok.of (u := false) CallsOk.nil SCallsOk.nil) (k := 100) ?_
    show wpc _ _ _ _ _ _ _ (maskK 0 _ _)
    rw [tp_round, partsR_len]
    obtain ⟨hk', hr, hd'⟩ := drop_cons hd
    refine BIf.t (by simp; omega) (BIf.t (by simp) ⟨bytesR p, by simp [partsR, hr], BIf.of (fun hz => ?_) fun hz => ?_⟩)
    · rw [bytesR_len] at hz
      exact h2 (by rw [anyLong, List.any_cons, hz]; rfl) _
    · rw [bytesR_len] at hz
      rw [wrap_succ hk' hl]
      have e : anyLong (p :: rest) = anyLong rest := by rw [anyLong, List.any_cons, hz]; rfl
      rw [e] at h1 h2
      exact wrTp ps hl rest (k + 1) hd' hk' h1 h2
def wlTp {β : Type} : WLT β := fun c tm hp b K => ∃ (ps : List (List Int)) (z : Bool), c = .loop lpTp ∧ maskTm [0, 3] 0 tm = tmTp (partsR ps) 0 ∧ hp = [] ∧ (ps.length ≤ 9223372036854775807 ∧ z = anyLong ps) ∧
  BIf z (∀ i : Int, K .ret ((tmTp (partsR ps) i).set 2 (.d (bo false))) [] b) (∀ i : Int, K (.exit 0) (tmTp (partsR ps) i) [] b)
theorem wlTp_ok {Ev : Env Tryd.prog} (c : Code) (tm : List AV) (hp : List Blk) (b : Ev.β) (K : Exit → List AV → List Blk → Ev.β → Prop) (h : wlTp c tm hp b K) : W Ev c ⟨tm, hp, b⟩ (fun e s => K e s.tm s.hp s.b) := by
  obtain ⟨ps, z, rfl, htm, rfl, ⟨hl, hz⟩, hK⟩ := h
  refine W.cast (htm ▸ maskTm_le _ tm 0) (LeH.refl _) ?_
  exact W.rounds (wrTp (Q := fun e s => K e s.tm s.hp s.b) ps hl ps 0 rfl (Nat.zero_le _) (fun h => by rw [hz, h] at hK; exact hK) fun h => by rw [hz, h] at hK; exact hK)
section
variable {β : Type} (y : YieldT β) (b : β) (R : AV → β → Prop)
theorem tPages_nf (ps : List (List Dv)) : wpFn Tryd.prog ⟨[], [], wlTp, y, false⟩ 100 Tryd.f68 [.d (.sl 1 ps)] b R = (
  BIf (decide ((ps.length : Int) < 1)) (R (.d (bo false)) b) (BIf (decide ((ps.length : Int) > 16)) (R (.d (bo false)) b) (∃ (ps1 : List (List Int)) (z : Bool), Code.loop lpTp = .loop lpTp ∧ tmTp ps 0 = tmTp (partsR ps1) 0 ∧ ([] : List Blk) = [] ∧ (ps1.length ≤ 9223372036854775807 ∧ z = anyLong ps1) ∧
    BIf z (∀ _ : Int, R (.d (bo false)) b) (∀ _ : Int, R (.d (bo true)) b)))) := by kernel_rfl
end
theorem pcTPages (ps : List (List Int)) : PCall Tryd.prog 68 [.d (.sl 1 (partsR ps))] (.d (bo (areS ps))) := by
  refine PCall.ofFnW (n := 100) (u := false) (fun _ => wlTp) mixed CallsOk.nil SCallsOk.nil (fun Ev => wlTp_ok) Tryd.func68 (by rfl) (by rfl) fun Ev bb => ?_
  rw [tPages_nf, partsR_len]
  refine BIf.of (fun g => ?_) fun g => BIf.of (fun f => ?_) fun f => ⟨ps, _, rfl, rfl, rfl, ⟨by simp at f; omega, rfl⟩, BIf.of (fun h i => ?_) fun h i => ?_⟩
  · rw [areS, show decide ((ps.length : Int) > 0) = false from decide_eq_false (by have := of_decide_eq_true g; omega)]; rfl
  · rw [areS, show decide ((ps.length : Int) ≤ 16) = false from decide_eq_false (by have := of_decide_eq_true f; omega), Bool.false_and, Bool.and_false]
  · rw [areS, h, Bool.not_true, Bool.and_false, Bool.and_false]
  · rw [areS, h, show decide ((ps.length : Int) > 0) = true from decide_eq_true (by have := of_decide_eq_false g; omega), show decide ((ps.length : Int) ≤ 16) = true from decide_eq_true (by have := of_decide_eq_false f; omega)]; rfl
def cTPages (args : List AV) (K : AV → Prop) : Prop := ∃ (ps : List (List Int)) (z : Bool), args = [.d (.sl 1 (partsR ps))] ∧ z = areS ps ∧ K (.d (bo z))
theorem cTPages_ok : ∀ args K, cTPages args K → ∃ x, PCall Tryd.prog 68 args x ∧ K x := by
  rintro _ K ⟨ps, _, rfl, rfl, h⟩; exact ⟨_, pcTPages ps, h⟩
end Go.Proofs.YtfeemohdpmdaoaaDoor.Am

namespace Go.Proofs.YtfeemohdpmdaoaaDoor.Am
set_option linter.unusedVariables false
open Go Go.RowKit Go.Proofs

/-! ### the reference's leaves and Next -/
noncomputable def lpTl : Code := sub [1, 1, 0, 1, 2, 3] (code Tryd.f69)
def tmTl (ps : List (List Dv)) (acc : AV) (i : Int) : List AV := [.d (.sl 1 ps), .bad, .bad, acc, .d (i64 i)] ++ List.replicate 15 .bad
def TTl : List (Nat × (List AV → (AV → Prop) → Prop)) := [(32, cTLeaf)]
theorem TTl_ok : CallsOk Tryd.prog TTl := CallsOk.cons cTLeaf_ok CallsOk.nil
noncomputable def lpTn : Code := sub [1, 1, 0, 1, 2, 3] (code Tryd.f70)
def tmTn (xs : List (List Dv)) (acc : AV) (i : Int) : List AV := [.d (.sl 1 xs), .bad, .bad, acc, .d (i64 i)] ++ List.replicate 32 .bad
def TTn : List (Nat × (List AV → (AV → Prop) → Prop)) := [(74, cRPair)]
theorem TTn_ok : CallsOk Tryd.prog TTn := CallsOk.cons cRPair_ok CallsOk.nil
section
variable {β : Type} (wl : WLT β) (y : YieldT β) (b : β) (K : Exit → List AV → List Blk → β → Prop)
theorem tl_round (ps xs : List (List Dv)) (i : Int) : wpc Tryd.prog ⟨TTl, [], wl, y, false⟩ 100 lpTl (tmTl ps (.own 24 1 xs) i) [] b (maskK 0 [0, 3, 4] K) = (
  BIf (decide (i < (ps.length : Int))) (BIf (true && decide (0 ≤ i)) (∃ (xs0 : List (List Dv)), ps[Int.toNat i]? = some [Dv.sl 1 xs0] ∧ ∃ (p3 : List Int) (z4 : Int), [AV.d (.sl 1 xs0)] = [.d (.sl 1 (bytesR p3))] ∧ (p3.length ≤ 9223372036854775807 ∧ z4 = leafS p3) ∧
    BIf (true && decide ((xs.length + 1) * 8 ≤ 140737488355328)) (K .normal (tmTl ps (.own 24 1 (xs ++ [[u64 z4]])) (IntKind.wrap .i64 (i + 1))) [] b) False) False) (K (.exit 0) (tmTl ps (.own 24 1 xs) i) [] b)) := by kernel_rfl
theorem tn_round (ps xs : List (List Dv)) (i : Int) : wpc Tryd.prog ⟨TTn, [], wl, y, false⟩ 100 lpTn (tmTn ps (.own 24 1 xs) i) [] b (maskK 0 [0, 3, 4] K) = (
  BIf (decide (i < (ps.length : Int))) (BIf (decide (IntKind.wrap .i64 (i + 1) < (ps.length : Int))) (BIf (true && decide (0 ≤ i)) (∃ (x0 : Int), ps[Int.toNat i]? = some [u64 x0] ∧ BIf (true && decide (0 ≤ IntKind.wrap .i64 (i + 1))) (∃ (x3 : Int), ps[Int.toNat (IntKind.wrap .i64 (i + 1))]? = some [u64 x3] ∧
      ∃ (a6 c7 z8 : Int), [AV.d (u64 x0), .d (u64 x3)] = [.d (u64 a6), .d (u64 c7)] ∧ z8 = pairS a6 c7 ∧ BIf (true && decide ((xs.length + 1) * 8 ≤ 140737488355328)) (K .normal (tmTn ps (.own 24 1 (xs ++ [[u64 z8]])) (IntKind.wrap .i64 (i + 2))) [] b) False) False) False)
    (BIf (true && decide (0 ≤ i)) (∃ (x9 : Int), ps[Int.toNat i]? = some [u64 x9] ∧ BIf (true && decide ((xs.length + 1) * 8 ≤ 140737488355328)) (K .normal (tmTn ps (.own 24 1 (xs ++ [[u64 x9]])) (IntKind.wrap .i64 (i + 2))) [] b) False) False)) (K (.exit 0) (tmTn ps (.own 24 1 xs) i) [] b)) := by kernel_rfl
end
set_option maxRecDepth 10000 in
theorem wrTl {Ev : Env Tryd.prog} {b : Ev.β} {Q : Exit → St Ev.β → Prop} (ps : List (List Int)) (hl : ps.length ≤ 1000) (hp : ∀ p ∈ ps, p.length ≤ 9223372036854775807) : ∀ (rest : List (List Int)) (k : Nat) (acc : List Int), ps.drop k = rest → k ≤ ps.length → acc.length ≤ k →
    (∀ i : Int, Q (.exit 0) ⟨tmTl (partsR ps) (.own 24 1 (digR (acc ++ rest.map leafS))) i, [], b⟩) → WR Ev lpTl (rest.length + 1) ⟨tmTl (partsR ps) (.own 24 1 (digR acc)) k, [], b⟩ Q
  | [], k, acc, hd, hk, ha, h => by
    refine WR.ofMask [0, 3, 4] mixed (CX.Ok.of (u := false) TTl_ok SCallsOk.nil) (k := 100) ?_
    show wpc _ _ _ _ _ _ _ (maskK 0 _ _)
    rw [tl_round, partsR_len]
    have := drop_nil hd
    have h := h k
    rw [List.map_nil, List.append_nil] at h
    exact BIf.f (by simp; omega) h
  | p :: rest, k, acc, hd, hk, ha, h => by
    refine WR.ofMask [0, 3, 4] mixed (CX.Ok.of (u := false) TTl_ok SCallsOk.nil) (k := 100) ?_
    show wpc _ _ _ _ _ _ _ (maskK 0 _ _)
    rw [tl_round, partsR_len]
    obtain ⟨hk', hr, hd'⟩ := drop_cons hd
    refine BIf.t (by simp; omega) (BIf.t (by simp) ⟨bytesR p, by simp [partsR, hr], p, _, rfl, ⟨hp p (List.mem_of_getElem? hr), rfl⟩, BIf.t (by simp [digR_len]; omega) ?_⟩)
    rw [digs_app, wrap_succ hk' (by omega)]
    refine wrTl ps hl hp rest (k + 1) (acc ++ [leafS p]) hd' hk' (by simp; omega) fun i => ?_
    have h := h i
    rw [List.map_cons] at h
    rw [List.append_assoc]; exact h
def wlTl {β : Type} : WLT β := fun c tm hp b K => ∃ (ps : List (List Int)) (q : List Int), c = .loop lpTl ∧ maskTm [0, 3, 4] 0 tm = tmTl (partsR ps) nilV 0 ∧ hp = [] ∧ ((ps.length ≤ 1000 ∧ ∀ p ∈ ps, p.length ≤ 9223372036854775807) ∧ q = ps.map leafS) ∧ ∀ i : Int, K (.exit 0) (tmTl (partsR ps) (.own 24 1 (digR q)) i) [] b
theorem wlTl_ok {Ev : Env Tryd.prog} (c : Code) (tm : List AV) (hp : List Blk) (b : Ev.β) (K : Exit → List AV → List Blk → Ev.β → Prop) (h : wlTl c tm hp b K) : W Ev c ⟨tm, hp, b⟩ (fun e s => K e s.tm s.hp s.b) := by
  obtain ⟨ps, q, rfl, htm, rfl, ⟨⟨hl, hp⟩, rfl⟩, hK⟩ := h
  refine W.cast (htm ▸ maskTm_le _ tm 0) (LeH.refl _) ?_
  refine W.cast (tm' := tmTl (partsR ps) (.own 24 1 (digR [])) 0) (LeL.at [_, _, _] _ (LeA.nilOwn rfl)) (LeH.refl _) ?_
  exact W.rounds (wrTl (Q := fun e s => K e s.tm s.hp s.b) ps hl hp ps 0 [] rfl (Nat.zero_le _) (Nat.zero_le _) hK)
section
variable {β : Type} (y : YieldT β) (b : β) (R : AV → β → Prop)
theorem tLeaves_nf (ps : List (List Dv)) : wpFn Tryd.prog ⟨TTl, [], wlTl, y, false⟩ 100 Tryd.f69 [.d (.sl 1 ps)] b R = (
  ∃ (ps1 : List (List Int)) (q : List Int), Code.loop lpTl = .loop lpTl ∧ tmTl ps nilV 0 = tmTl (partsR ps1) nilV 0 ∧ ([] : List Blk) = [] ∧ ((ps1.length ≤ 1000 ∧ ∀ p ∈ ps1, p.length ≤ 9223372036854775807) ∧ q = ps1.map leafS) ∧ ∀ _ : Int, R (.d (.sl 1 (digR q))) b) := by kernel_rfl
end
theorem pcTLeaves (ps : List (List Int)) (hl : ps.length ≤ 1000) (hp : ∀ p ∈ ps, p.length ≤ 9223372036854775807) : PCall Tryd.prog 69 [.d (.sl 1 (partsR ps))] (.d (.sl 1 (digR (ps.map leafS)))) := by
  refine PCall.ofFnW (n := 100) (u := false) (fun _ => wlTl) mixed TTl_ok SCallsOk.nil (fun Ev => wlTl_ok) Tryd.func69 (by rfl) (by rfl) fun Ev bb => ?_
  rw [tLeaves_nf]
  exact ⟨ps, _, rfl, rfl, rfl, ⟨⟨hl, hp⟩, rfl⟩, fun _ => rfl⟩
def cTLeaves (args : List AV) (K : AV → Prop) : Prop := ∃ (ps : List (List Int)) (q : List Int), args = [.d (.sl 1 (partsR ps))] ∧ ((ps.length ≤ 1000 ∧ ∀ p ∈ ps, p.length ≤ 9223372036854775807) ∧ q = ps.map leafS) ∧ K (.d (.sl 1 (digR q)))
theorem cTLeaves_ok : ∀ args K, cTLeaves args K → ∃ x, PCall Tryd.prog 69 args x ∧ K x := by
  rintro _ K ⟨ps, _, rfl, ⟨⟨hl, hp⟩, rfl⟩, h⟩; exact ⟨_, pcTLeaves ps hl hp, h⟩
end Go.Proofs.YtfeemohdpmdaoaaDoor.Am

namespace Go.Proofs.YtfeemohdpmdaoaaDoor.Am
set_option linter.unusedVariables false
open Go Go.RowKit Go.Proofs

/-! ### the reference's Next -/
set_option maxRecDepth 10000 in
theorem wrTn {Ev : Env Tryd.prog} {b : Ev.β} {Q : Exit → St Ev.β → Prop} (xs : List Int) (hl : xs.length ≤ 1000) : ∀ (n : Nat) (rest : List Int) (k : Nat) (acc : List Int), rest.length ≤ n → xs.drop k = rest → k ≤ xs.length + 1 → acc.length ≤ k →
    (∀ i : Int, Q (.exit 0) ⟨tmTn (digR xs) (.own 24 1 (digR (acc ++ nextL rest))) i, [], b⟩) → WR Ev lpTn (n + 1) ⟨tmTn (digR xs) (.own 24 1 (digR acc)) k, [], b⟩ Q
  | n, [], k, acc, hn, hd, hk, ha, h => by
    refine WR.ofMask [0, 3, 4] mixed (CX.Ok.of (u := false) TTn_ok SCallsOk.nil) (k := 100) ?_
    show wpc _ _ _ _ _ _ _ (maskK 0 _ _)
    rw [tn_round, digR_len]
    have := drop_nil hd
    have h := h k
    rw [show nextL [] = [] from rfl, List.append_nil] at h
    exact BIf.f (by simp; omega) h
  | 0, a :: l, k, acc, hn, hd, hk, ha, h => by simp at hn
  | n + 1, [a], k, acc, hn, hd, hk, ha, h => by
    refine WR.ofMask [0, 3, 4] mixed (CX.Ok.of (u := false) TTn_ok SCallsOk.nil) (k := 100) ?_
    show wpc _ _ _ _ _ _ _ (maskK 0 _ _)
    rw [tn_round, digR_len]
    obtain ⟨hk', hr, hd'⟩ := drop_cons hd
    have h9 := drop_nil hd'
    rw [wrap_i64 (x := (k : Int) + 1) (by omega) (by omega), wrap_i64 (x := (k : Int) + 2) (by omega) (by omega)]
    refine BIf.t (by simp; omega) (BIf.f (by simp; omega) (BIf.t (by simp) ⟨a, by simp [digR, hr], BIf.t (by simp [digR_len]; omega) ?_⟩))
    rw [digs_app, show (k : Int) + 2 = ((k + 2 : Nat) : Int) by omega]
    refine wrTn xs hl n [] (k + 2) (acc ++ [a]) (by simp) (List.drop_eq_nil_of_le (by omega)) (by omega) (by simp; omega) fun i => ?_
    have h := h i
    rw [show nextL [] = [] from rfl, List.append_nil]
    exact h
  | n + 1, a :: c :: l, k, acc, hn, hd, hk, ha, h => by
    refine WR.ofMask [0, 3, 4] mixed (CX.Ok.of (u := false) TTn_ok SCallsOk.nil) (k := 100) ?_
    show wpc _ _ _ _ _ _ _ (maskK 0 _ _)
    rw [tn_round, digR_len]
    obtain ⟨hk', hr, hd'⟩ := drop_cons hd
    obtain ⟨hk2, hr2, hd2⟩ := drop_cons hd'
    rw [wrap_i64 (x := (k : Int) + 1) (by omega) (by omega), wrap_i64 (x := (k : Int) + 2) (by omega) (by omega)]
    have e1 : Int.toNat ((k : Int) + 1) = k + 1 := by omega
    refine BIf.t (by simp; omega) (BIf.t (by simp; omega) (BIf.t (by simp) ⟨a, by simp [digR, hr], BIf.t (by simp; omega) ⟨c, by rw [e1]; simp [digR, hr2], _, _, _, rfl, rfl, BIf.t (by simp [digR_len]; omega) ?_⟩⟩))
    rw [digs_app, show (k : Int) + 2 = ((k + 1 + 1 : Nat) : Int) by omega]
    refine wrTn xs hl n l (k + 1 + 1) (acc ++ [pairS a c]) (by simp at hn; omega) hd2 (by omega) (by simp; omega) fun i => ?_
    have h := h i
    rw [nextL] at h
    rw [List.append_assoc]; exact h
def wlTn {β : Type} : WLT β := fun c tm hp b K => ∃ (xs q : List Int), c = .loop lpTn ∧ maskTm [0, 3, 4] 0 tm = tmTn (digR xs) nilV 0 ∧ hp = [] ∧ (xs.length ≤ 1000 ∧ q = nextL xs) ∧ ∀ i : Int, K (.exit 0) (tmTn (digR xs) (.own 24 1 (digR q)) i) [] b
theorem wlTn_ok {Ev : Env Tryd.prog} (c : Code) (tm : List AV) (hp : List Blk) (b : Ev.β) (K : Exit → List AV → List Blk → Ev.β → Prop) (h : wlTn c tm hp b K) : W Ev c ⟨tm, hp, b⟩ (fun e s => K e s.tm s.hp s.b) := by
  obtain ⟨xs, q, rfl, htm, rfl, ⟨hl, rfl⟩, hK⟩ := h
  refine W.cast (htm ▸ maskTm_le _ tm 0) (LeH.refl _) ?_
  refine W.cast (tm' := tmTn (digR xs) (.own 24 1 (digR [])) 0) (LeL.at [_, _, _] _ (LeA.nilOwn rfl)) (LeH.refl _) ?_
  exact W.rounds (wrTn (Q := fun e s => K e s.tm s.hp s.b) xs hl xs.length xs 0 [] (Nat.le_refl _) rfl (Nat.zero_le _) (Nat.zero_le _) hK)
section
variable {β : Type} (y : YieldT β) (b : β) (R : AV → β → Prop)
theorem tNext_nf (xs : List (List Dv)) : wpFn Tryd.prog ⟨TTn, [], wlTn, y, false⟩ 100 Tryd.f70 [.d (.sl 1 xs)] b R = (
  ∃ (xs1 q : List Int), Code.loop lpTn = .loop lpTn ∧ tmTn xs nilV 0 = tmTn (digR xs1) nilV 0 ∧ ([] : List Blk) = [] ∧ (xs1.length ≤ 1000 ∧ q = nextL xs1) ∧ ∀ _ : Int, R (.d (.sl 1 (digR q))) b) := by kernel_rfl
end
theorem pcTNext (xs : List Int) (hl : xs.length ≤ 1000) : PCall Tryd.prog 70 [.d (.sl 1 (digR xs))] (.d (.sl 1 (digR (nextL xs)))) := by
  refine PCall.ofFnW (n := 100) (u := false) (fun _ => wlTn) mixed TTn_ok SCallsOk.nil (fun Ev => wlTn_ok) Tryd.func70 (by rfl) (by rfl) fun Ev bb => ?_
  rw [tNext_nf]
  exact ⟨xs, _, rfl, rfl, rfl, ⟨hl, rfl⟩, fun _ => rfl⟩
def cTNext (args : List AV) (K : AV → Prop) : Prop := ∃ (xs q : List Int), args = [.d (.sl 1 (digR xs))] ∧ (xs.length ≤ 1000 ∧ q = nextL xs) ∧ K (.d (.sl 1 (digR q)))
theorem cTNext_ok : ∀ args K, cTNext args K → ∃ x, PCall Tryd.prog 70 args x ∧ K x := by
  rintro _ K ⟨xs, _, rfl, ⟨hl, rfl⟩, h⟩; exact ⟨_, pcTNext xs hl, h⟩
end Go.Proofs.YtfeemohdpmdaoaaDoor.Am

namespace Go.Proofs.YtfeemohdpmdaoaaDoor.Am
set_option linter.unusedVariables false
open Go Go.RowKit Go.Proofs

/-! ### the reference's other -/
def othB (k : Int) : Int := IntKind.wrap IntKind.i64 (IntKind.wrap IntKind.i64 (k + 1) - IntKind.wrap IntKind.i64 (2 * Int.tmod k 2))
theorem othB_nat {k : Nat} (h : k < 1000000) : othB (k : Int) = ((sibN k : Nat) : Int) := by
  unfold othB
  have e : Int.tmod (k : Int) 2 = ((k % 2 : Nat) : Int) := rfl
  rw [e, wrap_i64 (x := (k : Int) + 1) (by omega) (by omega), wrap_i64 (x := 2 * ((k % 2 : Nat) : Int)) (by omega) (by omega), wrap_i64 (by omega) (by omega)]
  unfold sibN
  split <;> omega
def otherS (k w : Nat) : Int := if sibN k ≥ w then -1 else (sibN k : Int)
section
variable {β : Type} (wl : WLT β) (y : YieldT β) (b : β) (R : AV → β → Prop)
theorem tOther_nf (k w : Int) : wpFn Tryd.prog ⟨[], [], wl, y, false⟩ 100 Tryd.f73 [.d (i64 k), .d (i64 w)] b R = BIf (decide (othB k ≥ w)) (R (.d (i64 (-1))) b) (R (.d (i64 (othB k))) b) := by kernel_rfl
end
theorem pcTOther (k w : Nat) (h : k < 1000000) : PCall Tryd.prog 73 [.d (i64 k), .d (i64 w)] (.d (i64 (otherS k w))) := by
  refine PCall.ofFn (n := 100) (u := false) mixed CallsOk.nil SCallsOk.nil Tryd.func73 (by rfl) (by rfl) fun Ev bb => ?_
  rw [tOther_nf, othB_nat h]
  refine BIf.of (fun g => ?_) fun g => ?_
  · have := of_decide_eq_true g
    rw [otherS, if_pos (by omega)]
  · have := of_decide_eq_false g
    rw [otherS, if_neg (by omega)]
def cTOther (args : List AV) (K : AV → Prop) : Prop := ∃ (k w : Nat) (z : Int), args = [.d (i64 k), .d (i64 w)] ∧ (k < 1000000 ∧ z = otherS k w) ∧ K (.d (i64 z))
theorem cTOther_ok : ∀ args K, cTOther args K → ∃ x, PCall Tryd.prog 73 args x ∧ K x := by
  rintro _ K ⟨k, w, _, rfl, ⟨hk, rfl⟩, h⟩; exact ⟨_, pcTOther k w hk, h⟩
end Go.Proofs.YtfeemohdpmdaoaaDoor.Am

namespace Go.Proofs.YtfeemohdpmdaoaaDoor.Am
set_option linter.unusedVariables false
open Go Go.RowKit Go.Proofs

/-! ### the reference's Root -/
noncomputable def lpTt : Code := sub [1, 1, 1, 0, 2, 3] (code Tryd.f44)
def tmTt (xs : List (List Dv)) : List AV := [.bad, .bad, .bad, .bad, .d (.sl 1 xs)] ++ List.replicate 13 .bad
def TTt : List (Nat × (List AV → (AV → Prop) → Prop)) := [(68, cTPages), (69, cTLeaves), (70, cTNext)]
theorem TTt_ok : CallsOk Tryd.prog TTt := CallsOk.cons cTPages_ok (CallsOk.cons cTLeaves_ok (CallsOk.cons cTNext_ok CallsOk.nil))
section
variable {β : Type} (wl : WLT β) (y : YieldT β) (b : β) (K : Exit → List AV → List Blk → β → Prop)
theorem tt_round (xs : List (List Dv)) : wpc Tryd.prog ⟨TTt, [], wl, y, false⟩ 100 lpTt (tmTt xs) [] b (maskK 0 [4] K) = (
  BIf (decide ((xs.length : Int) > 1)) (∃ (xs0 q1 : List Int), [AV.d (.sl 1 xs)] = [.d (.sl 1 (digR xs0))] ∧ (xs0.length ≤ 1000 ∧ q1 = nextL xs0) ∧ K .normal (tmTt (digR q1)) [] b) (K (.exit 0) (tmTt xs) [] b)) := by kernel_rfl
end
/-- the top level -/
def topL : Nat → List Int → List Int
  | 0, l => l
  | n + 1, l => if 1 < l.length then topL n (nextL l) else l
theorem lastS_top : ∀ (n : Nat) (l : List Int) (v : Int), lastS (levelsF n l) v = nth (topL n l) 0
  | 0, l, v => rfl
  | n + 1, l, v => by
    rw [levelsF, topL]
    split
    · rw [lastS, lastS_top n]
    · rfl
theorem topL_ne : ∀ (n : Nat) (l : List Int), l ≠ [] → topL n l ≠ []
  | 0, l, h => h
  | n + 1, l, h => by
    rw [topL]; split
    · exact topL_ne n _ (nextL_ne h)
    · exact h
theorem wrTt {Ev : Env Tryd.prog} {b : Ev.β} {Q : Exit → St Ev.β → Prop} : ∀ (n : Nat) (l : List Int), l.length ≤ n + 1 → l.length ≤ 1000 → Q (.exit 0) ⟨tmTt (digR (topL n l)), [], b⟩ → WR Ev lpTt (n + 1) ⟨tmTt (digR l), [], b⟩ Q
  | 0, l, hn, hl, h => by
    refine WR.ofMask [4] mixed (CX.Ok.of (u := false) TTt_ok SCallsOk.nil) (k := 100) ?_
    show wpc _ _ _ _ _ _ _ (maskK 0 _ _)
    rw [tt_round, digR_len]
    exact BIf.f (by simp; omega) h
  | n + 1, l, hn, hl, h => by
    refine WR.ofMask [4] mixed (CX.Ok.of (u := false) TTt_ok SCallsOk.nil) (k := 100) ?_
    show wpc _ _ _ _ _ _ _ (maskK 0 _ _)
    rw [tt_round, digR_len]
    by_cases h1 : 1 < l.length
    · rw [topL, if_pos h1] at h
      have := (nextL_len l).2 h1
      exact BIf.t (by simp; omega) ⟨l, _, rfl, ⟨hl, rfl⟩, wrTt n (nextL l) (by omega) (by omega) h⟩
    · rw [topL, if_neg h1] at h
      exact BIf.f (by simp; omega) h
def wlTt {β : Type} : WLT β := fun c tm hp b K => ∃ (l q : List Int), c = .loop lpTt ∧ maskTm [4] 0 tm = tmTt (digR l) ∧ hp = [] ∧ (l.length ≤ 1000 ∧ q = topL l.length l) ∧ K (.exit 0) (tmTt (digR q)) [] b
theorem wlTt_ok {Ev : Env Tryd.prog} (c : Code) (tm : List AV) (hp : List Blk) (b : Ev.β) (K : Exit → List AV → List Blk → Ev.β → Prop) (h : wlTt c tm hp b K) : W Ev c ⟨tm, hp, b⟩ (fun e s => K e s.tm s.hp s.b) := by
  obtain ⟨l, q, rfl, htm, rfl, ⟨hl, rfl⟩, hK⟩ := h
  refine W.cast (htm ▸ maskTm_le _ tm 0) (LeH.refl _) ?_
  exact W.rounds (wrTt (Q := fun e s => K e s.tm s.hp s.b) l.length l (by omega) hl hK)
section
variable {β : Type} (y : YieldT β) (b : β) (R : AV → β → Prop)
theorem tRoot_nf (ps : List (List Dv)) : wpFn Tryd.prog ⟨TTt, [], wlTt, y, false⟩ 100 Tryd.f44 [.d (.sl 1 ps)] b R = (
  ∃ (ps0 : List (List Int)) (z1 : Bool), [AV.d (.sl 1 ps)] = [.d (.sl 1 (partsR ps0))] ∧ z1 = areS ps0 ∧ BIf (!z1) (R (.tup [.d (u64 0), .d (i64 1)]) b) (∃ (ps2 : List (List Int)) (q3 : List Int), [AV.d (.sl 1 ps)] = [.d (.sl 1 (partsR ps2))] ∧
    ((ps2.length ≤ 1000 ∧ ∀ p ∈ ps2, p.length ≤ 9223372036854775807) ∧ q3 = ps2.map leafS) ∧ ∃ (l4 q5 : List Int), Code.loop lpTt = .loop lpTt ∧ tmTt (digR q3) = tmTt (digR l4) ∧ ([] : List Blk) = [] ∧ (l4.length ≤ 1000 ∧ q5 = topL l4.length l4) ∧
      ∃ (x6 : Int), (digR q5)[0]? = some [u64 x6] ∧ R (.tup [.d (u64 x6), .d (i64 0)]) b)) := by kernel_rfl
end
theorem pcTRoot (ps : List (List Int)) : PCall Tryd.prog 44 [.d (.sl 1 (partsR ps))] (.tup [.d (u64 (rootS ps).1), .d (i64 (rootS ps).2)]) := by
  refine PCall.ofFnW (n := 100) (u := false) (fun _ => wlTt) mixed TTt_ok SCallsOk.nil (fun Ev => wlTt_ok) Tryd.func44 (by rfl) (by rfl) fun Ev bb => ?_
  rw [tRoot_nf]
  refine ⟨ps, _, rfl, rfl, BIf.of (fun h => ?_) fun h => ?_⟩
  · have h : areS ps = false := by simpa using h
    rw [rootS, if_neg (by rw [h]; simp)]
  · have h : areS ps = true := by simpa using h
    obtain ⟨h1, h2, h3⟩ := areS_ok h
    have h0 : 0 < (topL (ps.map leafS).length (ps.map leafS)).length := List.length_pos_iff.2 (topL_ne _ _ (by simpa using h2))
    rw [rootS, if_pos h, levelsS, lastS_top]
    exact ⟨ps, _, rfl, ⟨⟨by omega, fun p hp => by have := h3 p hp; omega⟩, rfl⟩, _, _, rfl, rfl, rfl, ⟨by simp; omega, rfl⟩, _, digs_at h0, rfl⟩
def cTRoot (args : List AV) (K : AV → Prop) : Prop := ∃ (ps : List (List Int)) (z : Int × Int), args = [.d (.sl 1 (partsR ps))] ∧ z = rootS ps ∧ K (.tup [.d (u64 z.1), .d (i64 z.2)])
theorem cTRoot_ok : ∀ args K, cTRoot args K → ∃ x, PCall Tryd.prog 44 args x ∧ K x := by
  rintro _ K ⟨ps, _, rfl, rfl, h⟩; exact ⟨_, pcTRoot ps, h⟩
end Go.Proofs.YtfeemohdpmdaoaaDoor.Am

namespace Go.Proofs.YtfeemohdpmdaoaaDoor.Am
set_option linter.unusedVariables false
open Go Go.RowKit Go.Proofs

/-! ### the reference's Length -/
noncomputable def lpTm : Code := sub [1, 1, 0, 2, 3] (code Tryd.f72)
def tmTm (w k n : Int) : List AV := [.d (i64 w), .d (i64 k), .bad, .bad, .bad, .d (i64 n)] ++ List.replicate 14 .bad
def TTm : List (Nat × (List AV → (AV → Prop) → Prop)) := [(73, cTOther)]
theorem TTm_ok : CallsOk Tryd.prog TTm := CallsOk.cons cTOther_ok CallsOk.nil
section
variable {β : Type} (wl : WLT β) (y : YieldT β) (b : β) (K : Exit → List AV → List Blk → β → Prop)
theorem tm_round (w k n : Int) : wpc Tryd.prog ⟨TTm, [], wl, y, false⟩ 100 lpTm (tmTm w k n) [] b (maskK 0 [0, 1, 5] K) = (
  BIf (decide (w > 1)) (∃ (k0 w1 : Nat) (z2 : Int), [AV.d (i64 k), .d (i64 w)] = [.d (i64 k0), .d (i64 w1)] ∧ (k0 < 1000000 ∧ z2 = otherS k0 w1) ∧ BIf (decide (z2 ≥ 0))
    (K .normal (tmTm (IntKind.wrap .i64 (Int.tdiv (IntKind.wrap .i64 (w + 1)) 2)) (IntKind.wrap .i64 (Int.tdiv k 2)) (IntKind.wrap .i64 (n + 1))) [] b)
    (K .normal (tmTm (IntKind.wrap .i64 (Int.tdiv (IntKind.wrap .i64 (w + 1)) 2)) (IntKind.wrap .i64 (Int.tdiv k 2)) n) [] b)) (K (.exit 0) (tmTm w k n) [] b)) := by kernel_rfl
end
/-- how many neighbours a walk meets -/
def lenW : Nat → Nat → Nat → Nat
  | 0, _, _ => 0
  | n + 1, w, k => if 1 < w then (if sibN k < w then 1 else 0) + lenW n ((w + 1) / 2) (k / 2) else 0
theorem wrTm {Ev : Env Tryd.prog} {b : Ev.β} {Q : Exit → St Ev.β → Prop} : ∀ (n w k c : Nat), w ≤ n + 1 → w < 1000000 → k < 1000000 → c + n < 1000000000 →
    (∀ w' k' : Int, Q (.exit 0) ⟨tmTm w' k' ((c + lenW n w k : Nat) : Int), [], b⟩) → WR Ev lpTm (n + 1) ⟨tmTm w k c, [], b⟩ Q
  | 0, w, k, c, hn, hw, hk, hc, h => by
    refine WR.ofMask [0, 1, 5] mixed (CX.Ok.of (u := false) TTm_ok SCallsOk.nil) (k := 100) ?_
    show wpc _ _ _ _ _ _ _ (maskK 0 _ _)
    rw [tm_round]
    exact BIf.f (by simp; omega) (h _ _)
  | n + 1, w, k, c, hn, hw, hk, hc, h => by
    refine WR.ofMask [0, 1, 5] mixed (CX.Ok.of (u := false) TTm_ok SCallsOk.nil) (k := 100) ?_
    show wpc _ _ _ _ _ _ _ (maskK 0 _ _)
    rw [tm_round]
    by_cases h1 : 1 < w
    · rw [lenW, if_pos h1] at h
      refine BIf.t (by simp; omega) ⟨k, w, _, rfl, ⟨hk, rfl⟩, ?_⟩
      rw [wrap_i64 (x := (w : Int) + 1) (by omega) (by omega), show Int.tdiv ((w : Int) + 1) 2 = (((w + 1) / 2 : Nat) : Int) from rfl, show Int.tdiv (k : Int) 2 = ((k / 2 : Nat) : Int) from rfl, wrap_i64 (by omega) (by omega), wrap_i64 (x := ((k / 2 : Nat) : Int)) (by omega) (by omega)]
      refine BIf.of (fun g => ?_) fun g => ?_
      · have g := of_decide_eq_true g
        have h2 : sibN k < w := by
          apply Classical.byContradiction
          intro h2
          rw [otherS, if_pos (by omega)] at g
          omega
        rw [if_pos h2] at h
        rw [wrap_i64 (by omega) (by omega), show (c : Int) + 1 = ((c + 1 : Nat) : Int) by omega]
        refine wrTm n ((w + 1) / 2) (k / 2) (c + 1) (by omega) (by omega) (by omega) (by omega) fun w' k' => ?_
        rw [Nat.add_assoc]; exact h w' k'
      · have g := of_decide_eq_false g
        have h2 : ¬ sibN k < w := by
          intro h2
          rw [otherS, if_neg (by omega)] at g
          omega
        rw [if_neg h2, Nat.zero_add] at h
        exact wrTm n ((w + 1) / 2) (k / 2) c (by omega) (by omega) (by omega) (by omega) h
    · rw [lenW, if_neg h1] at h
      exact BIf.f (by simp; omega) (h _ _)
end Go.Proofs.YtfeemohdpmdaoaaDoor.Am

namespace Go.Proofs.YtfeemohdpmdaoaaDoor.Am
set_option linter.unusedVariables false
open Go Go.RowKit Go.Proofs

/-! ### Split -/
/-- a page, filled up by zeros -/
def padS (p : List Int) : List Int := p ++ List.replicate (256 - p.length) 0
theorem padS_len {p : List Int} (h : p.length ≤ 256) : (padS p).length = 256 := by simp [padS]; omega
theorem padS_cells (p : List Int) (h : p.length ≤ 256) : flatA ((bytesR p).take 256) ++ (flatA (List.replicate 256 [u8 0])).drop ((bytesR p).take 256).length = flatA (bytesR (padS p)) := by
  have e : List.replicate 256 [u8 0] = bytesR (List.replicate 256 0) := by simp only [bytesR, List.map_replicate]
  rw [e, bytesR_take, bytesR_len, List.take_of_length_le h]
  have key : ∀ q : List Int, flatA (bytesR q) = q.map fun x => AV.d (u8 x) := by
    intro q
    induction q with
    | nil => rfl
    | cons a q ih =>
      rw [show bytesR (a :: q) = [u8 a] :: bytesR q from rfl]
      simp only [flatA, List.flatten_cons, List.map_append] at ih ⊢
      rw [ih]; rfl
  rw [key, key, key, padS, List.map_append, ← List.map_drop, List.drop_replicate]
theorem chunkD_map {α γ : Type} (f : α → γ) (m : Nat) : ∀ (n : Nat) (xs : List α), chunkD m n (xs.map f) = (chunkD m n xs).map (List.map f)
  | 0, xs => rfl
  | n + 1, xs => by
    rw [chunkD, chunkD]
    cases xs with
    | nil => rfl
    | cons a xs =>
      rw [if_neg (by simp), if_neg (by simp), ← List.map_take, ← List.map_drop, chunkD_map f m n]; rfl
theorem chunkD_len {α : Type} (m : Nat) : ∀ (n : Nat) (xs : List α), (∀ c ∈ chunkD m n xs, c.length ≤ m) ∧ (chunkD m n xs).length ≤ n
  | 0, xs => by simp [chunkD]
  | n + 1, xs => by
    rw [chunkD]
    split
    · simp
    · obtain ⟨h1, h2⟩ := chunkD_len m n (xs.drop m)
      refine ⟨fun c hc => ?_, by simp; omega⟩
      rcases List.mem_cons.1 hc with rfl | hc
      · simp; omega
      · exact h1 c hc
def GByte : List (Nat × (List AV → List Blk → (AV → List Blk → Prop) → Prop)) := [(1000005, fun _ _ _ => False)]
theorem GByte_ok : SCallsOk Tryd.prog GByte := SCallsOk.cons (fun _ _ _ h => h.elim) SCallsOk.nil
section
variable {β : Type} (wl : WLT β) (y : YieldT β) (b : β) (Kh : Exit → List Blk → β → Prop)
theorem sp_round (ps xs x : List (List Dv)) : wpcY Tryd.prog ⟨[], GByte, wl, y, false⟩ 100 #[13] (assignOf rfSp) (bodyOf rfSp) (tmSp ps) [.full 1 x] [cellV (.own 22 1 xs)] b (takeK 1 Kh) = (
  0 = 0 ∧ 0 = 0 ∧ ∃ (xs0 : List (List Dv)), flatA (x.take 256) ++ (flatA (List.replicate 256 [u8 0])).drop (x.take 256).length = flatA xs0 ∧ xs0.length = 256 ∧ (∀ r ∈ xs0, r.length = 1) ∧
    BIf (true && decide ((xs.length + 1) * 24 ≤ 140737488355328)) (Kh .normal [cellV (.own 22 1 (xs ++ [[.sl 1 xs0]]))] b) False) := by kernel_rfl
end
theorem parts_app (ps : List (List Int)) (p : List Int) : partsR ps ++ [[.sl 1 (bytesR p)]] = partsR (ps ++ [p]) := by simp [partsR]
def itemB (p : List Int) : List AV := [.full 1 (bytesR p)]
theorem rangeSp {Ev : Env Tryd.prog} {b : Ev.β} {Q : Exit → St Ev.β → Prop} (ps : List (List Dv)) : ∀ (l acc : List (List Int)), (∀ p ∈ l, p.length ≤ 256) → acc.length + l.length ≤ 1000000 → Q .normal ⟨tmSp ps, [cellV (.own 22 1 (partsR (acc ++ l.map padS)))], b⟩ →
    YList (YBody Ev (tmSp ps) #[13] (assignOf rfSp) (bodyOf rfSp) 1) (l.map itemB) ([cellV (.own 22 1 (partsR acc))], b, none) (rangeQ (tmSp ps) Q)
  | [], acc, hl, hb, h => by rw [List.map_nil, List.append_nil] at h; exact h
  | p :: l, acc, hl, hb, h => by
    rw [List.map_cons]
    refine YList.step (X := ⟨[], GByte, wlW Ev, Ev.Y, false⟩) (k := 100) mixed (CX.Ok.of CallsOk.nil GByte_ok) rfl ?_
    show wpcY _ _ _ _ _ _ _ [.full 1 (bytesR p)] [cellV _] b (takeK 1 _)
    rw [sp_round]
    have hp := hl p (List.mem_cons_self ..)
    refine ⟨rfl, rfl, bytesR (padS p), padS_cells p hp, by rw [bytesR_len, padS_len hp], fun r hr => ?_, BIf.t (by simp [partsR_len] at hb ⊢; omega) ?_⟩
    · simp only [bytesR, List.mem_map] at hr
      obtain ⟨_, _, rfl⟩ := hr; rfl
    rw [parts_app]
    refine rangeSp ps l (acc ++ [padS p]) (fun q hq => hl q (List.mem_cons_of_mem _ hq)) (by simp at hb ⊢; omega) ?_
    rw [List.append_assoc]; exact h
/-- a program's pages -/
def splitS (p : List Int) : List (List Int) := (chunkD 256 p.length p).map padS
def wlSp {β : Type} : WLT β := fun c tm hp b K => ∃ (p : List Int) (q : List (List Int)), c = rfSp ∧ maskTm [4, 12] 0 tm = tmSp (bytesR p) ∧ hp = [cellV (.d (.s (.slice none 0 0)))] ∧ (p.length ≤ 1000000 ∧ q = splitS p) ∧ K .normal (tmSp (bytesR p)) [cellV (.own 22 1 (partsR q))] b
theorem wlSp_ok {Ev : Env Tryd.prog} (c : Code) (tm : List AV) (hp : List Blk) (b : Ev.β) (K : Exit → List AV → List Blk → Ev.β → Prop) (h : wlSp c tm hp b K) : W Ev c ⟨tm, hp, b⟩ (fun e s => K e s.tm s.hp s.b) := by
  obtain ⟨p, q, rfl, htm, rfl, ⟨hl, rfl⟩, hK⟩ := h
  refine W.cast (htm ▸ maskTm_le _ tm 0) (hp' := [cellV (.own 22 1 (partsR []))]) (.cons (.cons (LeA.nilOwn rfl) .nil) .nil) ?_
  rw [rfSp_shape]
  refine W.range (s := ⟨tmSp (bytesR p), _, b⟩) (k := 57) (first := []) (caps := [.rptr [.sl 1 (bytesR p)], .rptr [i64 256]]) rfl rfl rfl (ic57 (bytesR p) 256 (by omega) (by rw [bytesR_len]; omega)) ?_
  have e : (chunkD 256 (bytesR p).length (bytesR p)).map itemC = (chunkD 256 p.length p).map itemB := by
    rw [bytesR_len, bytesR, chunkD_map, List.map_map]; rfl
  rw [e]
  have := chunkD_len 256 p.length p
  exact rangeSp (bytesR p) _ [] this.1 (by simp; omega) (by simpa [splitS] using hK)
def TSp : List (Nat × (List AV → (AV → Prop) → Prop)) := [(33, cSized), (34, cChunkB)]
theorem TSp_ok : CallsOk Tryd.prog TSp := CallsOk.cons cSized_ok (CallsOk.cons cChunkB_ok CallsOk.nil)
end Go.Proofs.YtfeemohdpmdaoaaDoor.Am

namespace Go.Proofs.YtfeemohdpmdaoaaDoor.Am
set_option linter.unusedVariables false
open Go Go.RowKit Go.Proofs

/-! ### Split's contract; Trim; Concat -/
noncomputable def lp61 : Code := sub [1, 0, 2, 3] (code Tryd.f61)
noncomputable def lp62 : Code := sub [1, 0, 2, 3] (code Tryd.f62)
def tm61 (p : List (List Dv)) (c : Int) : List AV := [.d (.sl 1 p), .d (u8 c)] ++ List.replicate 19 .bad
def tm62 (p : List (List Dv)) (c : Int) : List AV := [.d (.sl 1 p), .d (u8 c)] ++ List.replicate 22 .bad
noncomputable def lp38a : Code := sub [1, 1, 0, 1, 2, 3] (code Tryd.f38)
noncomputable def lp38b : Code := sub [1, 1, 1, 1, 0, 1, 2, 3] (code Tryd.f38)
def tm38a (ps : List (List Dv)) (s n i : Int) : List AV := [.d (.sl 1 ps), .bad, .bad, .d (i64 s), .bad, .bad, .bad, .bad, .bad, .d (.sl 1 ps), .d (i64 n), .d (i64 i)] ++ List.replicate 24 .bad
def tm38b (ps : List (List Dv)) (v m : Nat) (n i : Int) : List AV := [.bad, .bad, .bad, .bad, .bad, .bad, .gref 0 v m 1] ++ List.replicate 18 .bad ++ [.d (.sl 1 ps), .d (i64 n), .d (i64 i)] ++ List.replicate 8 .bad
section
variable {β : Type} (wl : WLT β) (y : YieldT β) (b : β) (R : AV → β → Prop) (K : Exit → List AV → List Blk → β → Prop)
theorem r61 (p : List (List Dv)) (c : Int) : wpc Tryd.prog ⟨[], [], wl, y, false⟩ 100 lp61 (tm61 p c) [] b (maskK 0 [0, 1] K) = ( BIf (decide (((List.length p : Nat) : Int) > (0 : Int))) (∃ (x0 : Int), p[0]? = some [u8 x0] ∧ BIf (x0 == c) (BIf (true && decide ((0 : Int) ≤ (1 : Int) ∧ (1 : Int) ≤ ((List.length p : Nat) : Int) ∧ ((List.length p : Nat) : Int) ≤ ((List.length p : Nat) : Int) ∧ ((List.length p : Nat) : Int) ≤ ((List.length p : Nat) : Int))) (K Exit.normal [AV.d (Dv.sl 1 (List.take (Int.toNat ((List.length p : Nat) : Int) - Int.toNat (1 : Int)) (List.drop (Int.toNat (1 : Int)) p))), AV.d (u8 c), AV.bad, AV.bad, AV.bad, AV.bad, AV.bad, AV.bad, AV.bad, AV.bad, AV.bad, AV.bad, AV.bad, AV.bad, AV.bad, AV.bad, AV.bad, AV.bad, AV.bad, AV.bad, AV.bad] [] b) False) (K (Exit.exit 0) [AV.d (Dv.sl 1 p), AV.d (u8 c), AV.bad, AV.bad, AV.bad, AV.bad, AV.bad, AV.bad, AV.bad, AV.bad, AV.bad, AV.bad, AV.bad, AV.bad, AV.bad, AV.bad, AV.bad, AV.bad, AV.bad, AV.bad, AV.bad] [] b)) (K (Exit.exit 0) [AV.d (Dv.sl 1 p), AV.d (u8 c), AV.bad, AV.bad, AV.bad, AV.bad, AV.bad, AV.bad, AV.bad, AV.bad, AV.bad, AV.bad, AV.bad, AV.bad, AV.bad, AV.bad, AV.bad, AV.bad, AV.bad, AV.bad, AV.bad] [] b)) := by kernel_rfl
theorem r62 (p : List (List Dv)) (c : Int) : wpc Tryd.prog ⟨[], [], wl, y, false⟩ 100 lp62 (tm62 p c) [] b (maskK 0 [0, 1] K) = ( BIf (decide (((List.length p : Nat) : Int) > (0 : Int))) (BIf (true && decide ((0 : Int) ≤ IntKind.wrap IntKind.i64 (((List.length p : Nat) : Int) - (1 : Int)))) (∃ (x0 : Int), p[Int.toNat (IntKind.wrap IntKind.i64 (((List.length p : Nat) : Int) - (1 : Int)))]? = some [u8 x0] ∧ BIf (x0 == c) (BIf (true && decide ((0 : Int) ≤ (0 : Int) ∧ (0 : Int) ≤ IntKind.wrap IntKind.i64 (((List.length p : Nat) : Int) - (1 : Int)) ∧ IntKind.wrap IntKind.i64 (((List.length p : Nat) : Int) - (1 : Int)) ≤ ((List.length p : Nat) : Int) ∧ ((List.length p : Nat) : Int) ≤ ((List.length p : Nat) : Int))) (K Exit.normal [AV.d (Dv.sl 1 (List.take (Int.toNat (IntKind.wrap IntKind.i64 (((List.length p : Nat) : Int) - (1 : Int))) - Int.toNat (0 : Int)) (List.drop (Int.toNat (0 : Int)) p))), AV.d (u8 c), AV.bad, AV.bad, AV.bad, AV.bad, AV.bad, AV.bad, AV.bad, AV.bad, AV.bad, AV.bad, AV.bad, AV.bad, AV.bad, AV.bad, AV.bad, AV.bad, AV.bad, AV.bad, AV.bad, AV.bad, AV.bad, AV.bad] [] b) False) (K (Exit.exit 0) [AV.d (Dv.sl 1 p), AV.d (u8 c), AV.bad, AV.bad, AV.bad, AV.bad, AV.bad, AV.bad, AV.bad, AV.bad, AV.bad, AV.bad, AV.bad, AV.bad, AV.bad, AV.bad, AV.bad, AV.bad, AV.bad, AV.bad, AV.bad, AV.bad, AV.bad, AV.bad] [] b)) False) (K (Exit.exit 0) [AV.d (Dv.sl 1 p), AV.d (u8 c), AV.bad, AV.bad, AV.bad, AV.bad, AV.bad, AV.bad, AV.bad, AV.bad, AV.bad, AV.bad, AV.bad, AV.bad, AV.bad, AV.bad, AV.bad, AV.bad, AV.bad, AV.bad, AV.bad, AV.bad, AV.bad, AV.bad] [] b)) := by kernel_rfl
theorem r38a (ps : List (List Dv)) (s n i : Int) : wpc Tryd.prog ⟨[], [], wl, y, false⟩ 100 lp38a (tm38a ps s n i) [] b (maskK 0 [0, 3, 9, 10, 11] K) = ( BIf (decide (i < n)) (BIf (true && decide ((0 : Int) ≤ i)) (∃ (xs0 : List (List Dv)), ps[Int.toNat i]? = some [Dv.sl 1 xs0] ∧ BIf (decide (IntKind.wrap IntKind.i64 (s + ((List.length xs0 : Nat) : Int)) < (0 : Int))) False (K Exit.normal [AV.d (Dv.sl 1 ps), AV.bad, AV.bad, AV.d (i64 (IntKind.wrap IntKind.i64 (s + ((List.length xs0 : Nat) : Int)))), AV.bad, AV.bad, AV.bad, AV.bad, AV.bad, AV.d (Dv.sl 1 ps), AV.d (i64 n), AV.d (i64 (IntKind.wrap IntKind.i64 (i + (1 : Int)))), AV.bad, AV.bad, AV.bad, AV.bad, AV.bad, AV.bad, AV.bad, AV.bad, AV.bad, AV.bad, AV.bad, AV.bad, AV.bad, AV.bad, AV.bad, AV.bad, AV.bad, AV.bad, AV.bad, AV.bad, AV.bad, AV.bad, AV.bad, AV.bad] [] b)) False) (K (Exit.exit 0) [AV.d (Dv.sl 1 ps), AV.bad, AV.bad, AV.d (i64 s), AV.bad, AV.bad, AV.bad, AV.bad, AV.bad, AV.d (Dv.sl 1 ps), AV.d (i64 n), AV.d (i64 i), AV.bad, AV.bad, AV.bad, AV.bad, AV.bad, AV.bad, AV.bad, AV.bad, AV.bad, AV.bad, AV.bad, AV.bad, AV.bad, AV.bad, AV.bad, AV.bad, AV.bad, AV.bad, AV.bad, AV.bad, AV.bad, AV.bad, AV.bad, AV.bad] [] b)) := by kernel_rfl
theorem r38b (ps : List (List Dv)) (cs : List AV) (v m : Nat) (n i : Int) : wpc Tryd.prog ⟨[], GByte, wl, y, false⟩ 100 lp38b (tm38b ps v m n i) [blkG cs v] b (maskT [6, 25, 26, 27] K) = ( BIf (decide (i < n)) (BIf (true && decide ((0 : Int) ≤ i)) (∃ (xs0 : List (List Dv)), ps[Int.toNat i]? = some [Dv.sl 1 xs0] ∧ v = v ∧ BIf (decide ((m + List.length xs0) * 1 ≤ 140737488355328)) (K Exit.normal [AV.bad, AV.bad, AV.bad, AV.bad, AV.bad, AV.bad, AV.gref 0 (v + 1) (m + List.length xs0) 1, AV.bad, AV.bad, AV.bad, AV.bad, AV.bad, AV.bad, AV.bad, AV.bad, AV.bad, AV.bad, AV.bad, AV.bad, AV.bad, AV.bad, AV.bad, AV.bad, AV.bad, AV.bad, AV.d (Dv.sl 1 ps), AV.d (i64 n), AV.d (i64 (IntKind.wrap IntKind.i64 (i + (1 : Int)))), AV.bad, AV.bad, AV.bad, AV.bad, AV.bad, AV.bad, AV.bad, AV.bad] [Blk.mk (cs ++ flatA xs0) false true (v + 1)] b) False) False) (K (Exit.exit 2) [AV.bad, AV.bad, AV.bad, AV.bad, AV.bad, AV.bad, AV.gref 0 v m 1, AV.bad, AV.bad, AV.bad, AV.bad, AV.bad, AV.bad, AV.bad, AV.bad, AV.bad, AV.bad, AV.bad, AV.bad, AV.bad, AV.bad, AV.bad, AV.bad, AV.bad, AV.bad, AV.d (Dv.sl 1 ps), AV.d (i64 n), AV.d (i64 i), AV.bad, AV.bad, AV.bad, AV.bad, AV.bad, AV.bad, AV.bad, AV.bad] [Blk.mk cs false true v] b)) := by kernel_rfl
theorem split_nf (xs : List (List Dv)) : wpFn Tryd.prog ⟨TSp, [], wlSp, y, false⟩ 100 Tryd.f13 [.d (.sl 1 xs)] b R = ( ∃ (n0 : Int), ∃ (z1 : Bool), [AV.d (i64 ((List.length xs : Nat) : Int))] = [AV.d (i64 n0)] ∧ z1 = sizedS n0 ∧ BIf (!z1) (R (AV.tup [AV.d (Dv.s (Value.slice none 0 0)), AV.d (i64 (1 : Int))]) b) (∃ (xs2 : List (List Dv)), [AV.d (Dv.sl 1 xs), AV.d (i64 (256 : Int))] = [AV.d (Dv.sl 1 xs2), AV.d (i64 (256 : Int))] ∧ ∃ (p3 : List Int), ∃ (q4 : List (List Int)), rfSp = rfSp ∧ [AV.bad, AV.bad, AV.bad, AV.bad, AV.ptr 0 0, AV.bad, AV.bad, AV.bad, AV.bad, AV.bad, AV.bad, AV.bad, AV.fn (Fn.func 57) [] [AV.rptr [Dv.sl 1 xs2], AV.rptr [i64 (256 : Int)]], AV.bad, AV.bad, AV.bad, AV.bad, AV.bad, AV.bad, AV.bad, AV.bad, AV.bad, AV.bad] = [AV.bad, AV.bad, AV.bad, AV.bad, AV.ptr 0 0, AV.bad, AV.bad, AV.bad, AV.bad, AV.bad, AV.bad, AV.bad, AV.fn (Fn.func 57) [] [AV.rptr [Dv.sl 1 (bytesR p3)], AV.rptr [i64 (256 : Int)]], AV.bad, AV.bad, AV.bad, AV.bad, AV.bad, AV.bad, AV.bad, AV.bad, AV.bad, AV.bad] ∧ [Blk.mk [AV.d (Dv.s (Value.slice none 0 0))] false false 0] = [Blk.mk [AV.d (Dv.s (Value.slice none 0 0))] false false 0] ∧ (List.length p3 ≤ 1000000 ∧ q4 = splitS p3) ∧ R (AV.tup [AV.d (Dv.sl 1 (partsR q4)), AV.d (i64 (0 : Int))]) b)) := by kernel_rfl
end
theorem pcSplit (p : List Int) (hl : p.length ≤ 9223372036854775807) : PCall Tryd.prog 13 [.d (.sl 1 (bytesR p))] (if sizedS p.length then .tup [.d (.sl 1 (partsR (splitS p))), .d (i64 0)] else .tup [.d (.sl 1 []), .d (i64 1)]) := by
  refine PCall.ofFnV (n := 100) (u := false) (fun _ => wlSp) mixed TSp_ok SCallsOk.nil (fun Ev => wlSp_ok) Tryd.func13 (by rfl) (by rfl) fun Ev bb => ?_
  rw [split_nf, bytesR_len]
  refine ⟨_, _, rfl, rfl, BIf.of (fun h => ?_) fun h => ⟨_, rfl, p, _, rfl, rfl, rfl, ⟨?_, rfl⟩, ?_⟩⟩
  · rw [if_neg (by simpa using h)]
    exact LeV.tups (.cons (.nil rfl) (.cons .rfl .nil))
  · simp [sizedS] at h; omega
  · rw [if_pos (by simpa using h)]; exact .rfl
def cSplit (args : List AV) (K : AV → Prop) : Prop := ∃ (p : List Int), args = [.d (.sl 1 (bytesR p))] ∧ p.length ≤ 9223372036854775807 ∧ ∃ (z : Bool) (q : List (List Int)), z = sizedS p.length ∧ q = splitS p ∧
  BIf z (K (.tup [.d (.sl 1 (partsR q)), .d (i64 0)])) (K (.tup [.d (.sl 1 []), .d (i64 1)]))
theorem cSplit_ok : ∀ args K, cSplit args K → ∃ x, PCall Tryd.prog 13 args x ∧ K x := by
  rintro _ K ⟨p, rfl, hl, z, q, hz, rfl, h⟩
  refine ⟨_, pcSplit p hl, ?_⟩
  rw [← hz]
  cases z <;> exact h
/-! trimming -/
def trimR (c : Int) (p : List Int) : List Int := (p.reverse.dropWhile (· == c)).reverse
theorem trimR_app (c a : Int) (l : List Int) : trimR c (l ++ [a]) = if (a == c) = true then trimR c l else l ++ [a] := by
  simp only [trimR, List.reverse_append, List.reverse_cons, List.reverse_nil, List.nil_append, List.singleton_append, List.dropWhile_cons]
  split <;> simp
theorem wr61 {Ev : Env Tryd.prog} {b : Ev.β} {Q : Exit → St Ev.β → Prop} (c : Int) : ∀ (p : List Int), p.length ≤ 9223372036854775807 → Q (.exit 0) ⟨tm61 (bytesR (p.dropWhile (· == c))) c, [], b⟩ → WR Ev lp61 (p.length + 1) ⟨tm61 (bytesR p) c, [], b⟩ Q
  | [], hl, h => by
    refine WR.ofMask [0, 1] mixed (CX.Ok.of (u := false) CallsOk.nil SCallsOk.nil) (k := 100) ?_
    show wpc _ _ _ _ _ _ _ (maskK 0 _ _)
    rw [r61]
    exact BIf.f (by simp [bytesR_len]) h
  | a :: p, hl, h => by
    refine WR.ofMask [0, 1] mixed (CX.Ok.of (u := false) CallsOk.nil SCallsOk.nil) (k := 100) ?_
    show wpc _ _ _ _ _ _ _ (maskK 0 _ _)
    rw [r61, bytesR_len]
    refine BIf.t (by simp <;> omega) ⟨a, rfl, BIf.of (fun g => BIf.t (by simp <;> omega) ?_) fun g => ?_⟩
    · rw [List.dropWhile_cons, if_pos g] at h
      have e : List.take (Int.toNat ((a :: p).length : Int) - Int.toNat 1) (List.drop (Int.toNat 1) (bytesR (a :: p))) = bytesR p := by
        rw [show Int.toNat 1 = 1 from rfl, show (bytesR (a :: p)).drop 1 = bytesR p from rfl]
        exact List.take_of_length_le (by rw [bytesR_len]; simp)
      rw [e]
      exact wr61 c p (by simp at hl <;> omega) h
    · rw [List.dropWhile_cons, if_neg (by rw [g]; simp)] at h
      exact h
theorem wr62 {Ev : Env Tryd.prog} {b : Ev.β} {Q : Exit → St Ev.β → Prop} (c : Int) : ∀ (n : Nat) (p : List Int), p.length ≤ n → n ≤ 9223372036854775807 → Q (.exit 0) ⟨tm62 (bytesR (trimR c p)) c, [], b⟩ → WR Ev lp62 (n + 1) ⟨tm62 (bytesR p) c, [], b⟩ Q
  | n, p, hn, hl, h => by
    refine WR.ofMask [0, 1] mixed (CX.Ok.of (u := false) CallsOk.nil SCallsOk.nil) (k := 100) ?_
    show wpc _ _ _ _ _ _ _ (maskK 0 _ _)
    rw [r62, bytesR_len]
    rcases List.eq_nil_or_concat p with rfl | ⟨l, a, rfl⟩
    · exact BIf.f (by simp) h
    · rw [List.concat_eq_append] at *
      rw [trimR_app] at h
      have e0 : IntKind.wrap IntKind.i64 (((l ++ [a]).length : Int) - 1) = l.length := by
        rw [wrap_i64 (by simp <;> omega) (by simp at hn ⊢ <;> omega)]; simp
      rw [e0, Int.toNat_natCast]
      refine BIf.t (by simp <;> omega) (BIf.t (by simp) ⟨a, by simp [bytesR], BIf.of (fun g => BIf.t (by simp <;> omega) ?_) fun g => ?_⟩)
      · rw [if_pos g] at h
        have e : List.take (l.length - Int.toNat 0) (List.drop (Int.toNat 0) (bytesR (l ++ [a]))) = bytesR l := by
          rw [show Int.toNat 0 = 0 from rfl, List.drop_zero, Nat.sub_zero, bytesR_take, List.take_left']; rfl
        rw [e]
        cases n with
        | zero => simp at hn
        | succ n => exact wr62 c n l (by simp at hn <;> omega) (by omega) h
      · rw [if_neg (by rw [g]; simp)] at h
        exact h
end Go.Proofs.YtfeemohdpmdaoaaDoor.Am

namespace Go.Proofs.YtfeemohdpmdaoaaDoor.Am
set_option linter.unusedVariables false
open Go Go.RowKit Go.Proofs

def wl61 {β : Type} : WLT β := fun c tm hp b K => ∃ (p : List Int) (x : Int) (z : List Int), c = .loop lp61 ∧ maskTm [0, 1] 0 tm = tm61 (bytesR p) x ∧ hp = [] ∧ (p.length ≤ 9223372036854775807 ∧ z = p.dropWhile (· == x)) ∧ K (.exit 0) (tm61 (bytesR z) x) [] b
theorem wl61_ok {Ev : Env Tryd.prog} (c : Code) (tm : List AV) (hp : List Blk) (b : Ev.β) (K : Exit → List AV → List Blk → Ev.β → Prop) (h : wl61 c tm hp b K) : W Ev c ⟨tm, hp, b⟩ (fun e s => K e s.tm s.hp s.b) := by
  obtain ⟨p, x, z, rfl, htm, rfl, ⟨hl, rfl⟩, hK⟩ := h
  refine W.cast (htm ▸ maskTm_le _ tm 0) (LeH.refl _) ?_
  exact W.rounds (wr61 (Q := fun e s => K e s.tm s.hp s.b) x p hl hK)
def wl62 {β : Type} : WLT β := fun c tm hp b K => ∃ (p : List Int) (x : Int) (z : List Int), c = .loop lp62 ∧ maskTm [0, 1] 0 tm = tm62 (bytesR p) x ∧ hp = [] ∧ (p.length ≤ 9223372036854775807 ∧ z = trimR x p) ∧ K (.exit 0) (tm62 (bytesR z) x) [] b
theorem wl62_ok {Ev : Env Tryd.prog} (c : Code) (tm : List AV) (hp : List Blk) (b : Ev.β) (K : Exit → List AV → List Blk → Ev.β → Prop) (h : wl62 c tm hp b K) : W Ev c ⟨tm, hp, b⟩ (fun e s => K e s.tm s.hp s.b) := by
  obtain ⟨p, x, z, rfl, htm, rfl, ⟨hl, rfl⟩, hK⟩ := h
  refine W.cast (htm ▸ maskTm_le _ tm 0) (LeH.refl _) ?_
  exact W.rounds (wr62 (Q := fun e s => K e s.tm s.hp s.b) x p.length p (Nat.le_refl _) hl hK)
def strZ : ByteArray := ⟨#[0]⟩
section
variable {β : Type} (wl : WLT β) (y : YieldT β) (b : β) (R : AV → β → Prop) (K : Exit → List AV → List Blk → β → Prop)
theorem f61_nf (p : List (List Dv)) (x : Int) : wpFn Tryd.prog ⟨[], [], wl61, y, false⟩ 100 Tryd.f61 [.d (.sl 1 p), .d (u8 x)] b R = ( ∃ (p0 : List Int), ∃ (x1 : Int), ∃ (z2 : List Int), Code.loop lp61 = Code.loop lp61 ∧ [AV.d (Dv.sl 1 p), AV.d (u8 x), AV.bad, AV.bad, AV.bad, AV.bad, AV.bad, AV.bad, AV.bad, AV.bad, AV.bad, AV.bad, AV.bad, AV.bad, AV.bad, AV.bad, AV.bad, AV.bad, AV.bad, AV.bad, AV.bad] = [AV.d (Dv.sl 1 (bytesR p0)), AV.d (u8 x1), AV.bad, AV.bad, AV.bad, AV.bad, AV.bad, AV.bad, AV.bad, AV.bad, AV.bad, AV.bad, AV.bad, AV.bad, AV.bad, AV.bad, AV.bad, AV.bad, AV.bad, AV.bad, AV.bad] ∧ ([] : List Blk) = [] ∧ (List.length p0 ≤ 9223372036854775807 ∧ z2 = List.dropWhile (fun (x3 : Int) => x3 == x1) p0) ∧ BIf (((List.length (bytesR z2) : Nat) : Int) == (0 : Int)) (R (AV.d (Dv.s (Value.slice none 0 0))) b) (R (AV.d (Dv.sl 1 (bytesR z2))) b)) := by kernel_rfl
theorem f62_nf (p : List (List Dv)) (x : Int) : wpFn Tryd.prog ⟨[], [], wl62, y, false⟩ 100 Tryd.f62 [.d (.sl 1 p), .d (u8 x)] b R = ( ∃ (p0 : List Int), ∃ (x1 : Int), ∃ (z2 : List Int), Code.loop lp62 = Code.loop lp62 ∧ [AV.d (Dv.sl 1 p), AV.d (u8 x), AV.bad, AV.bad, AV.bad, AV.bad, AV.bad, AV.bad, AV.bad, AV.bad, AV.bad, AV.bad, AV.bad, AV.bad, AV.bad, AV.bad, AV.bad, AV.bad, AV.bad, AV.bad, AV.bad, AV.bad, AV.bad, AV.bad] = [AV.d (Dv.sl 1 (bytesR p0)), AV.d (u8 x1), AV.bad, AV.bad, AV.bad, AV.bad, AV.bad, AV.bad, AV.bad, AV.bad, AV.bad, AV.bad, AV.bad, AV.bad, AV.bad, AV.bad, AV.bad, AV.bad, AV.bad, AV.bad, AV.bad, AV.bad, AV.bad, AV.bad] ∧ ([] : List Blk) = [] ∧ (List.length p0 ≤ 9223372036854775807 ∧ z2 = trimR x1 p0) ∧ R (AV.d (Dv.sl 1 (bytesR z2))) b) := by kernel_rfl
end
theorem pcTl (p : List Int) (x : Int) (hl : p.length ≤ 9223372036854775807) : PCall Tryd.prog 61 [.d (.sl 1 (bytesR p)), .d (u8 x)] (.d (.sl 1 (bytesR (p.dropWhile (· == x))))) := by
  refine PCall.ofFnV (n := 100) (u := false) (fun _ => wl61) mixed CallsOk.nil SCallsOk.nil (fun Ev => wl61_ok) Tryd.func61 (by rfl) (by rfl) fun Ev bb => ?_
  rw [f61_nf]
  refine ⟨p, x, _, rfl, rfl, rfl, ⟨hl, rfl⟩, BIf.of (fun h => ?_) fun h => .rfl⟩
  have e : p.dropWhile (· == x) = [] := by
    have : (p.dropWhile (· == x)).length = 0 := by simpa [bytesR_len] using h
    exact List.length_eq_zero_iff.1 this
  rw [e]; exact .nil rfl
theorem pcTr (p : List Int) (x : Int) (hl : p.length ≤ 9223372036854775807) : PCall Tryd.prog 62 [.d (.sl 1 (bytesR p)), .d (u8 x)] (.d (.sl 1 (bytesR (trimR x p)))) := by
  refine PCall.ofFnV (n := 100) (u := false) (fun _ => wl62) mixed CallsOk.nil SCallsOk.nil (fun Ev => wl62_ok) Tryd.func62 (by rfl) (by rfl) fun Ev bb => ?_
  rw [f62_nf]
  exact ⟨p, x, _, rfl, rfl, rfl, ⟨hl, rfl⟩, .rfl⟩
def cTl (args : List AV) (K : AV → Prop) : Prop := ∃ (p : List Int) (x : Int) (z : List Int), args = [.d (.sl 1 (bytesR p)), .d (u8 x)] ∧ (p.length ≤ 9223372036854775807 ∧ z = p.dropWhile (· == x)) ∧ K (.d (.sl 1 (bytesR z)))
theorem cTl_ok : ∀ args K, cTl args K → ∃ x, PCall Tryd.prog 61 args x ∧ K x := by
  rintro _ K ⟨p, x, _, rfl, ⟨hl, rfl⟩, h⟩; exact ⟨_, pcTl p x hl, h⟩
def cTr (args : List AV) (K : AV → Prop) : Prop := ∃ (p : List Int) (x : Int) (z : List Int), args = [.d (.sl 1 (bytesR p)), .d (u8 x)] ∧ (p.length ≤ 9223372036854775807 ∧ z = trimR x p) ∧ K (.d (.sl 1 (bytesR z)))
theorem cTr_ok : ∀ args K, cTr args K → ∃ x, PCall Tryd.prog 62 args x ∧ K x := by
  rintro _ K ⟨p, x, _, rfl, ⟨hl, rfl⟩, h⟩; exact ⟨_, pcTr p x hl, h⟩
def TTrim : List (Nat × (List AV → (AV → Prop) → Prop)) := [(61, cTl), (62, cTr)]
theorem TTrim_ok : CallsOk Tryd.prog TTrim := CallsOk.cons cTl_ok (CallsOk.cons cTr_ok CallsOk.nil)
section
variable {β : Type} (wl : WLT β) (y : YieldT β) (b : β) (R : AV → β → Prop) (K : Exit → List AV → List Blk → β → Prop)
theorem trim_nf (p : List (List Dv)) : wpFn Tryd.prog ⟨TTrim, [], wl, y, false⟩ 100 Tryd.f39 [.d (.sl 1 p), .d (.s (.string strZ))] b R = ( BIf (((List.length p : Nat) : Int) == (0 : Int)) (R (AV.d (Dv.s (Value.slice none 0 0))) b) (∃ (c0 : UInt8), strZ[0]? = some c0 ∧ BIf (decide (((UInt8.toNat c0 : Nat) : Int) < (128 : Int))) (∃ (c3 : UInt8), strZ[0]? = some c3 ∧ ∃ (p6 : List Int), ∃ (x7 : Int), ∃ (z8 : List Int), [AV.d (Dv.sl 1 p), AV.d (u8 ((UInt8.toNat c3 : Nat) : Int))] = [AV.d (Dv.sl 1 (bytesR p6)), AV.d (u8 x7)] ∧ (List.length p6 ≤ 9223372036854775807 ∧ z8 = trimR x7 p6) ∧ ∃ (c9 : UInt8), strZ[0]? = some c9 ∧ ∃ (p12 : List Int), ∃ (x13 : Int), ∃ (z14 : List Int), [AV.d (Dv.sl 1 (bytesR z8)), AV.d (u8 ((UInt8.toNat c9 : Nat) : Int))] = [AV.d (Dv.sl 1 (bytesR p12)), AV.d (u8 x13)] ∧ (List.length p12 ≤ 9223372036854775807 ∧ z14 = List.dropWhile (fun (x15 : Int) => x15 == x13) p12) ∧ R (AV.d (Dv.sl 1 (bytesR z14))) b) False)) := by kernel_rfl
end
theorem trimR_le (x : Int) (p : List Int) : (trimR x p).length ≤ p.length := by
  simp only [trimR, List.length_reverse]
  exact Nat.le_trans (List.Sublist.length_le (List.dropWhile_sublist _)) (by rw [List.length_reverse]; exact Nat.le_refl _)
def trimS (p : List Int) : List Int := (trimR 0 p).dropWhile (· == 0)
end Go.Proofs.YtfeemohdpmdaoaaDoor.Am

namespace Go.Proofs.YtfeemohdpmdaoaaDoor.Am
set_option linter.unusedVariables false
open Go Go.RowKit Go.Proofs

theorem pcTrim (p : List Int) (hl : p.length ≤ 9223372036854775807) : PCall Tryd.prog 39 [.d (.sl 1 (bytesR p)), .d (.s (.string strZ))] (.d (.sl 1 (bytesR (trimS p)))) := by
  refine PCall.ofFnV (n := 100) (u := false) (fun _ => wlNo _) mixed TTrim_ok SCallsOk.nil (fun Ev => wlNo_ok Ev) Tryd.func39 (by rfl) (by rfl) fun Ev bb => ?_
  rw [trim_nf, bytesR_len]
  refine BIf.of (fun h => ?_) fun h => ⟨0, rfl, BIf.t (by decide) ⟨0, rfl, p, 0, _, rfl, ⟨hl, rfl⟩, 0, rfl, trimR 0 p, 0, _, rfl, ⟨Nat.le_trans (trimR_le 0 p) hl, rfl⟩, .rfl⟩⟩
  have : p = [] := by
    have : p.length = 0 := by simpa using h
    exact List.length_eq_zero_iff.1 this
  subst this
  exact .nil rfl
def cTrim (args : List AV) (K : AV → Prop) : Prop := ∃ (p z : List Int), args = [.d (.sl 1 (bytesR p)), .d (.s (.string strZ))] ∧ (p.length ≤ 9223372036854775807 ∧ z = trimS p) ∧ K (.d (.sl 1 (bytesR z)))
theorem cTrim_ok : ∀ args K, cTrim args K → ∃ x, PCall Tryd.prog 39 args x ∧ K x := by
  rintro _ K ⟨p, _, rfl, ⟨hl, rfl⟩, h⟩; exact ⟨_, pcTrim p hl, h⟩
section
variable {β : Type} (wl : WLT β) (y : YieldT β) (b : β) (R : AV → β → Prop) (RS : AV → List Blk → β → Prop) (K : Exit → List AV → List Blk → β → Prop)
theorem grow_nf (n : Int) : wpFnS Tryd.prog ⟨[], GByte, wl, y, false⟩ 100 Tryd.f60 [nilV, .d (i64 n)] b RS = ( BIf (decide (n < (0 : Int))) False (BIf (decide (IntKind.wrap IntKind.i64 (n - (0 : Int)) > (0 : Int))) (BIf (true && decide ((0 : Int) < IntKind.wrap IntKind.i64 (n - (0 : Int))) && decide (IntKind.wrap IntKind.i64 (n - (0 : Int)) * (1 : Int) ≤ (281474976710656 : Int)) && decide (IntKind.wrap IntKind.i64 (n - (0 : Int)) ≤ (9223372036854775807 : Int)) && true && true && true && true) (0 = 0 ∧ RS (AV.gref 0 1 0 1) [Blk.mk [] false true 1] b) False) (RS (AV.d (Dv.s (Value.slice none 0 0))) [] b))) := by kernel_rfl
end
theorem fcGrow (n : Int) (h0 : 0 < n) (hn : n ≤ 1000000) : FCall Tryd.prog 60 [nilV, .d (i64 n)] (.gref 0 1 0 1) [blkG [] 1] := by
  refine FCall.ofFnW (n := 100) (u := false) (fun _ => wlNo _) mixed CallsOk.nil GByte_ok (fun Ev => wlNo_ok Ev) Tryd.func60 (by rfl) (by rfl) (by rfl) fun Ev bb => ?_
  rw [grow_nf]
  have e : IntKind.wrap IntKind.i64 (n - 0) = n := by rw [wrap_i64 (by omega) (by omega)]; omega
  rw [e]
  refine BIf.f (by simp <;> omega) (BIf.t (by simp <;> omega) (BIf.t ?_ ⟨rfl, rfl, rfl⟩))
  simp only [Bool.and_true, Bool.true_and, Bool.and_eq_true, decide_eq_true_eq]; omega
def sGrow (args : List AV) (hp : List Blk) (K : AV → List Blk → Prop) : Prop := ∃ (n : Int), args = [nilV, .d (i64 n)] ∧ (0 < n ∧ n ≤ 1000000) ∧ K (.gref hp.length 1 0 1) (hp ++ [blkG [] 1])
theorem sGrow_ok : ∀ args hp K, sGrow args hp K → ∃ x hp', SCall Tryd.prog 60 args hp x hp' ∧ K x hp' := by
  rintro _ hp K ⟨n, rfl, ⟨h0, hn⟩, h⟩
  exact ⟨_, _, (fcGrow n h0 hn).toS rfl hp, by simpa [shift, shifts, shiftH, shiftB, blkG] using h⟩
def SCc : List (Nat × (List AV → List Blk → (AV → List Blk → Prop) → Prop)) := [(60, sGrow), (1000005, fun _ _ _ => False)]
theorem SCc_ok : SCallsOk Tryd.prog SCc := SCallsOk.cons sGrow_ok GByte_ok
/-- how many bytes -/
def sumL (ps : List (List Int)) : Nat := ps.flatten.length
theorem wr38a {Ev : Env Tryd.prog} {b : Ev.β} {Q : Exit → St Ev.β → Prop} (ps : List (List Int)) (hl : ps.length ≤ 1000000) : ∀ (rest : List (List Int)) (k s : Nat), ps.drop k = rest → k ≤ ps.length → s + sumL rest ≤ 1000000 →
    (∀ i : Int, Q (.exit 0) ⟨tm38a (partsR ps) ((s + sumL rest : Nat) : Int) ps.length i, [], b⟩) → WR Ev lp38a (rest.length + 1) ⟨tm38a (partsR ps) s ps.length k, [], b⟩ Q
  | [], k, s, hd, hk, hs, h => by
    refine WR.ofMask [0, 3, 9, 10, 11] mixed (CX.Ok.of (u := false) CallsOk.nil SCallsOk.nil) (k := 100) ?_
    show wpc _ _ _ _ _ _ _ (maskK 0 _ _)
    rw [r38a]
    have := drop_nil hd
    exact BIf.f (by simp <;> omega) (h _)
  | p :: rest, k, s, hd, hk, hs, h => by
    refine WR.ofMask [0, 3, 9, 10, 11] mixed (CX.Ok.of (u := false) CallsOk.nil SCallsOk.nil) (k := 100) ?_
    show wpc _ _ _ _ _ _ _ (maskK 0 _ _)
    rw [r38a]
    obtain ⟨hk', hr, hd'⟩ := drop_cons hd
    have hsum : sumL (p :: rest) = p.length + sumL rest := by simp [sumL]
    rw [hsum] at hs h
    have e : IntKind.wrap IntKind.i64 ((s : Int) + ((bytesR p).length : Int)) = ((s + p.length : Nat) : Int) := by rw [bytesR_len, wrap_i64 (by omega) (by omega)]; omega
    refine BIf.t (by simp <;> omega) (BIf.t (by simp) ⟨bytesR p, by simp [partsR, hr], ?_⟩)
    rw [e, wrap_succ hk' (by omega)]
    refine BIf.f (by simp <;> omega) (wr38a ps hl rest (k + 1) (s + p.length) hd' hk' (by omega) ?_)
    rw [Nat.add_assoc]; exact h
theorem wr38b {Ev : Env Tryd.prog} {b : Ev.β} {Q : Exit → St Ev.β → Prop} (ps : List (List Int)) (hl : ps.length ≤ 1000000) : ∀ (rest : List (List Int)) (k v : Nat) (acc : List Int), ps.drop k = rest → k ≤ ps.length → acc.length + sumL rest ≤ 1000000 →
    (∀ (i : Int), Q (.exit 2) ⟨tm38b (partsR ps) (v + rest.length) (acc ++ rest.flatten).length ps.length i, [blkG (flatA (bytesR (acc ++ rest.flatten))) (v + rest.length)], b⟩) →
    WR Ev lp38b (rest.length + 1) ⟨tm38b (partsR ps) v acc.length ps.length k, [blkG (flatA (bytesR acc)) v], b⟩ Q
  | [], k, v, acc, hd, hk, hs, h => by
    refine WR.ofMaskT [6, 25, 26, 27] mixed (CX.Ok.of (u := false) CallsOk.nil GByte_ok) (k := 100) ?_
    rw [r38b]
    have := drop_nil hd
    simp only [List.flatten_nil, List.append_nil] at h
    exact BIf.f (by simp <;> omega) (h _)
  | p :: rest, k, v, acc, hd, hk, hs, h => by
    refine WR.ofMaskT [6, 25, 26, 27] mixed (CX.Ok.of (u := false) CallsOk.nil GByte_ok) (k := 100) ?_
    rw [r38b]
    obtain ⟨hk', hr, hd'⟩ := drop_cons hd
    have hsum : sumL (p :: rest) = p.length + sumL rest := by simp [sumL]
    rw [hsum] at hs
    refine BIf.t (by simp <;> omega) (BIf.t (by simp) ⟨bytesR p, by simp [partsR, hr], rfl, BIf.t (by rw [bytesR_len]; simp <;> omega) ?_⟩)
    rw [wrap_succ hk' (by omega), bytesR_len]
    have e : flatA (bytesR acc) ++ flatA (bytesR p) = flatA (bytesR (acc ++ p)) := by rw [flatA_bytes, flatA_bytes, flatA_bytes, List.map_append]
    rw [e, ← List.length_append]
    refine wr38b ps hl rest (k + 1) (v + 1) (acc ++ p) hd' hk' (by rw [List.length_append]; omega) fun i => ?_
    have h1 := h i
    rw [List.flatten_cons, ← List.append_assoc, List.length_cons, show v + (rest.length + 1) = v + 1 + rest.length by omega] at h1
    exact h1
def wl38 {β : Type} : WLT β := fun c tm hp b K => match cidO c with
  | 4 => ∃ (ps : List (List Int)) (z : Nat), c = .loop lp38a ∧ maskTm [0, 3, 9, 10, 11] 0 tm = tm38a (partsR ps) 0 (partsR ps).length 0 ∧ hp = [] ∧ ((ps.length ≤ 1000000 ∧ sumL ps ≤ 1000000) ∧ z = sumL ps) ∧ ∀ i : Int, K (.exit 0) (tm38a (partsR ps) z (partsR ps).length i) [] b
  | 12 => ∃ (ps : List (List Int)) (v z m : Nat) (q : List Int), c = .loop lp38b ∧ maskTm [6, 25, 26, 27] 0 tm = tm38b (partsR ps) v 0 (partsR ps).length 0 ∧ hp = [blkG [] v] ∧ ((ps.length ≤ 1000000 ∧ sumL ps ≤ 1000000) ∧ z = v + ps.length ∧ q = ps.flatten ∧ m = q.length) ∧ ∀ i : Int, K (.exit 2) (tm38b (partsR ps) z m (partsR ps).length i) [blkG (flatA (bytesR q)) z] b
  | _ => False
theorem wl38_ok {Ev : Env Tryd.prog} (c : Code) (tm : List AV) (hp : List Blk) (b : Ev.β) (K : Exit → List AV → List Blk → Ev.β → Prop) (h : wl38 c tm hp b K) : W Ev c ⟨tm, hp, b⟩ (fun e s => K e s.tm s.hp s.b) := by
  unfold wl38 at h
  split at h
  · obtain ⟨ps, z, rfl, htm, rfl, ⟨⟨hl, hs⟩, rfl⟩, hK⟩ := h
    rw [partsR_len] at htm hK
    refine W.cast (htm ▸ maskTm_le _ tm 0) (LeH.refl _) ?_
    exact W.rounds (wr38a (Q := fun e s => K e s.tm s.hp s.b) ps hl ps 0 0 rfl (Nat.zero_le _) (by omega) (by simpa using hK))
  · obtain ⟨ps, v, z, m, q, rfl, htm, rfl, ⟨⟨hl, hs⟩, rfl, rfl, rfl⟩, hK⟩ := h
    rw [partsR_len] at htm hK
    refine W.cast (htm ▸ maskTm_le _ tm 0) (LeH.refl _) ?_
    exact W.rounds (wr38b (Q := fun e s => K e s.tm s.hp s.b) ps hl ps 0 v [] rfl (Nat.zero_le _) (by simpa using hs) (by simpa using hK))
  · exact h.elim
section
variable {β : Type} (wl : WLT β) (y : YieldT β) (b : β) (R : AV → β → Prop) (K : Exit → List AV → List Blk → β → Prop)
theorem concat_nf (ps : List (List Dv)) : wpFn Tryd.prog ⟨[], SCc, wl38, y, false⟩ 100 Tryd.f38 [.d (.sl 1 ps)] b R = ( ∃ (ps0 : List (List Int)), ∃ (z1 : Nat), Code.loop lp38a = Code.loop lp38a ∧ [AV.d (Dv.sl 1 ps), AV.bad, AV.bad, AV.d (i64 (0 : Int)), AV.bad, AV.bad, AV.bad, AV.bad, AV.bad, AV.d (Dv.sl 1 ps), AV.d (i64 ((List.length ps : Nat) : Int)), AV.d (i64 (0 : Int)), AV.bad, AV.bad, AV.bad, AV.bad, AV.bad, AV.bad, AV.bad, AV.bad, AV.bad, AV.bad, AV.bad, AV.bad, AV.bad, AV.bad, AV.bad, AV.bad, AV.bad, AV.bad, AV.bad, AV.bad, AV.bad, AV.bad, AV.bad, AV.bad] = [AV.d (Dv.sl 1 (partsR ps0)), AV.bad, AV.bad, AV.d (i64 (0 : Int)), AV.bad, AV.bad, AV.bad, AV.bad, AV.bad, AV.d (Dv.sl 1 (partsR ps0)), AV.d (i64 ((List.length (partsR ps0) : Nat) : Int)), AV.d (i64 (0 : Int)), AV.bad, AV.bad, AV.bad, AV.bad, AV.bad, AV.bad, AV.bad, AV.bad, AV.bad, AV.bad, AV.bad, AV.bad, AV.bad, AV.bad, AV.bad, AV.bad, AV.bad, AV.bad, AV.bad, AV.bad, AV.bad, AV.bad, AV.bad, AV.bad] ∧ ([] : List Blk) = [] ∧ ((List.length ps0 ≤ 1000000 ∧ sumL ps0 ≤ 1000000) ∧ z1 = sumL ps0) ∧ ∀ (i : Int), ∃ (n2 : Int), [AV.d (Dv.s (Value.slice none 0 0)), AV.d (i64 (z1 : Int))] = [AV.d (Dv.s (Value.slice none 0 0)), AV.d (i64 n2)] ∧ ((0 : Int) < n2 ∧ n2 ≤ (1000000 : Int)) ∧ ∃ (ps3 : List (List Int)), ∃ (v4 : Nat), ∃ (z5 : Nat), ∃ (m6 : Nat), ∃ (q7 : List Int), Code.loop lp38b = Code.loop lp38b ∧ [AV.bad, AV.bad, AV.bad, AV.bad, AV.bad, AV.bad, AV.gref 0 1 0 1, AV.bad, AV.bad, AV.bad, AV.bad, AV.bad, AV.bad, AV.bad, AV.bad, AV.bad, AV.bad, AV.bad, AV.bad, AV.bad, AV.bad, AV.bad, AV.bad, AV.bad, AV.bad, AV.d (Dv.sl 1 (partsR ps0)), AV.d (i64 ((List.length (partsR ps0) : Nat) : Int)), AV.d (i64 (0 : Int)), AV.bad, AV.bad, AV.bad, AV.bad, AV.bad, AV.bad, AV.bad, AV.bad] = [AV.bad, AV.bad, AV.bad, AV.bad, AV.bad, AV.bad, AV.gref 0 v4 0 1, AV.bad, AV.bad, AV.bad, AV.bad, AV.bad, AV.bad, AV.bad, AV.bad, AV.bad, AV.bad, AV.bad, AV.bad, AV.bad, AV.bad, AV.bad, AV.bad, AV.bad, AV.bad, AV.d (Dv.sl 1 (partsR ps3)), AV.d (i64 ((List.length (partsR ps3) : Nat) : Int)), AV.d (i64 (0 : Int)), AV.bad, AV.bad, AV.bad, AV.bad, AV.bad, AV.bad, AV.bad, AV.bad] ∧ [Blk.mk [] false true 1] = [Blk.mk [] false true v4] ∧ ((List.length ps3 ≤ 1000000 ∧ sumL ps3 ≤ 1000000) ∧ z5 = v4 + List.length ps3 ∧ q7 = List.flatten ps3 ∧ m6 = List.length q7) ∧ ∀ (i : Int), z5 = z5 ∧ ∃ (xs8 : List (List Dv)), flatA (bytesR q7) = flatA xs8 ∧ List.length xs8 = m6 ∧ (∀ (r : List Dv), r ∈ xs8 → List.length r = 1) ∧ R (AV.d (Dv.sl 1 xs8)) b) := by kernel_rfl
end
end Go.Proofs.YtfeemohdpmdaoaaDoor.Am

namespace Go.Proofs.YtfeemohdpmdaoaaDoor.Am
set_option linter.unusedVariables false
open Go Go.RowKit Go.Proofs

theorem pcConcat (ps : List (List Int)) (hl : ps.length ≤ 1000000) (h0 : 0 < sumL ps) (hs : sumL ps ≤ 1000000) : PCall Tryd.prog 38 [.d (.sl 1 (partsR ps))] (.d (.sl 1 (bytesR ps.flatten))) := by
  refine PCall.ofFnW (n := 100) (u := false) (fun _ => wl38) mixed CallsOk.nil SCc_ok (fun Ev => wl38_ok) Tryd.func38 (by rfl) (by rfl) fun Ev bb => ?_
  rw [concat_nf]
  refine ⟨ps, _, rfl, rfl, rfl, ⟨⟨hl, hs⟩, rfl⟩, fun _ => ⟨_, rfl, by omega, ps, 1, _, _, _, rfl, rfl, rfl, ⟨⟨hl, hs⟩, rfl, rfl, rfl⟩, fun _ => ⟨rfl, bytesR ps.flatten, rfl, by rw [bytesR_len], fun r hr => ?_, rfl⟩⟩⟩
  simp only [bytesR, List.mem_map] at hr
  obtain ⟨_, _, rfl⟩ := hr; rfl
def cConcat (args : List AV) (K : AV → Prop) : Prop := ∃ (ps : List (List Int)) (z : List Int), args = [.d (.sl 1 (partsR ps))] ∧ ((ps.length ≤ 1000000 ∧ 0 < sumL ps ∧ sumL ps ≤ 1000000) ∧ z = ps.flatten) ∧ K (.d (.sl 1 (bytesR z)))
theorem cConcat_ok : ∀ args K, cConcat args K → ∃ x, PCall Tryd.prog 38 args x ∧ K x := by
  rintro _ K ⟨ps, _, rfl, ⟨⟨h1, h2, h3⟩, rfl⟩, h⟩; exact ⟨_, pcConcat ps h1 h2 h3, h⟩
def TJn : List (Nat × (List AV → (AV → Prop) → Prop)) := [(33, cSized), (36, cCount), (37, cPaged), (38, cConcat), (39, cTrim)]
theorem TJn_ok : CallsOk Tryd.prog TJn := CallsOk.cons cSized_ok (CallsOk.cons cCount_ok (CallsOk.cons cPaged_ok (CallsOk.cons cConcat_ok (CallsOk.cons cTrim_ok CallsOk.nil))))
section
variable {β : Type} (wl : WLT β) (y : YieldT β) (b : β) (R : AV → β → Prop) (K : Exit → List AV → List Blk → β → Prop)
theorem join_nf (ps : List (List Dv)) (n : Int) : wpFn Tryd.prog ⟨TJn, [], wl, y, false⟩ 100 Tryd.f15 [.d (.sl 1 ps), .d (i64 n)] b R = ( ∃ (n0 : Int), ∃ (z1 : Bool), [AV.d (i64 n)] = [AV.d (i64 n0)] ∧ z1 = sizedS n0 ∧ BIf (!z1) (R (AV.tup [AV.d (Dv.s (Value.slice none 0 0)), AV.d (i64 (1 : Int))]) b) (∃ (n2 : Int), ∃ (z3 : Int), [AV.d (i64 n)] = [AV.d (i64 n2)] ∧ z3 = countS n2 ∧ BIf (((List.length ps : Nat) : Int) != z3) (R (AV.tup [AV.d (Dv.s (Value.slice none 0 0)), AV.d (i64 (1 : Int))]) b) (∃ (ps4 : List (List Int)), ∃ (z5 : Bool), [AV.d (Dv.sl 1 ps)] = [AV.d (Dv.sl 1 (partsR ps4))] ∧ (List.length ps4 ≤ 9223372036854775807 ∧ z5 = !anyOther ps4) ∧ BIf (!z5) (R (AV.tup [AV.d (Dv.s (Value.slice none 0 0)), AV.d (i64 (1 : Int))]) b) (∃ (ps6 : List (List Int)), ∃ (z7 : List Int), [AV.d (Dv.sl 1 ps)] = [AV.d (Dv.sl 1 (partsR ps6))] ∧ ((List.length ps6 ≤ 1000000 ∧ 0 < sumL ps6 ∧ sumL ps6 ≤ 1000000) ∧ z7 = List.flatten ps6) ∧ BIf (true && decide ((0 : Int) ≤ n ∧ n ≤ ((List.length (bytesR z7) : Nat) : Int) ∧ ((List.length (bytesR z7) : Nat) : Int) ≤ ((List.length (bytesR z7) : Nat) : Int) ∧ ((List.length (bytesR z7) : Nat) : Int) ≤ ((List.length (bytesR z7) : Nat) : Int))) (∃ (p8 : List Int), ∃ (z9 : List Int), [AV.d (Dv.sl 1 (List.take (Int.toNat ((List.length (bytesR z7) : Nat) : Int) - Int.toNat n) (List.drop (Int.toNat n) (bytesR z7)))), AV.d (Dv.s (Value.string (ByteArray.mk #[(0 : UInt8)])))] = [AV.d (Dv.sl 1 (bytesR p8)), AV.d (Dv.s (Value.string strZ))] ∧ (List.length p8 ≤ 9223372036854775807 ∧ z9 = trimS p8) ∧ BIf (decide (((List.length (bytesR z9) : Nat) : Int) > (0 : Int))) (R (AV.tup [AV.d (Dv.s (Value.slice none 0 0)), AV.d (i64 (12 : Int))]) b) (BIf (true && decide ((0 : Int) ≤ (0 : Int) ∧ (0 : Int) ≤ n ∧ n ≤ n ∧ n ≤ ((List.length (bytesR z7) : Nat) : Int))) (BIf (true && Int.toNat n == Int.toNat n) (R (AV.tup [AV.full 1 (List.take (Int.toNat n - Int.toNat (0 : Int)) (List.drop (Int.toNat (0 : Int)) (bytesR z7))), AV.d (i64 (0 : Int))]) b) (R (AV.tup [AV.d (Dv.sl 1 (List.take (Int.toNat n - Int.toNat (0 : Int)) (List.drop (Int.toNat (0 : Int)) (bytesR z7)))), AV.d (i64 (0 : Int))]) b)) False)) False)))) := by kernel_rfl
end
end Go.Proofs.YtfeemohdpmdaoaaDoor.Am

namespace Go.Proofs.YtfeemohdpmdaoaaDoor.Am
set_option linter.unusedVariables false
open Go Go.RowKit Go.Proofs

theorem countS_eq {n : Nat} (h : n ≤ 1000000) : countS n = (((n + 255) / 256 : Nat) : Int) := by
  unfold countS
  have e1 : IntKind.wrap IntKind.i64 ((n : Int) + 256) = ((n + 256 : Nat) : Int) := by rw [wrap_i64 (by omega) (by omega)]; omega
  have e2 : IntKind.wrap IntKind.i64 (((n + 256 : Nat) : Int) - 1) = ((n + 255 : Nat) : Int) := by rw [wrap_i64 (by omega) (by omega)]; omega
  have e3 : Int.tdiv ((n + 255 : Nat) : Int) 256 = (((n + 255) / 256 : Nat) : Int) := by
    rw [Int.tdiv_eq_ediv_of_nonneg (by omega)]; rfl
  rw [e1, e2, e3, wrap_i64 (by omega) (by omega)]
theorem sum_pages : ∀ {ps : List (List Int)}, anyOther ps = false → ps.flatten.length = 256 * ps.length
  | [], _ => rfl
  | p :: ps, h => by
    simp only [anyOther, List.any_cons, Bool.or_eq_false_iff] at h
    have h1 : p.length = 256 := by have := h.1; simp at this; omega
    have := sum_pages (ps := ps) h.2
    simp only [List.flatten_cons, List.length_append, List.length_cons]; omega
/-- pages joined -/
def joinS (ps : List (List Int)) (n : Int) : List Int × Int :=
  if (!sizedS n) || (((ps.length : Int) != countS n) || anyOther ps) then ([], 1)
  else if 0 < (trimS (ps.flatten.drop n.toNat)).length then ([], 12) else (ps.flatten.take n.toNat, 0)
theorem sized_nat {n : Int} (h : sizedS n = true) : ∃ k : Nat, n = k ∧ 1 ≤ k ∧ k ≤ 4096 := by
  simp only [sizedS, Bool.and_eq_true, decide_eq_true_eq] at h
  exact ⟨n.toNat, by omega, by omega, by omega⟩
theorem pcJoin (ps : List (List Int)) (n : Int) (hl : ps.length ≤ 9223372036854775807) : PCall Tryd.prog 15 [.d (.sl 1 (partsR ps)), .d (i64 n)] (.tup [.d (.sl 1 (bytesR (joinS ps n).1)), .d (i64 (joinS ps n).2)]) := by
  refine PCall.ofFnV (n := 100) (u := false) (fun _ => wlNo _) mixed TJn_ok SCallsOk.nil (fun Ev => wlNo_ok Ev) Tryd.func15 (by rfl) (by rfl) fun Ev bb => ?_
  rw [join_nf, partsR_len]
  have bad : ∀ z : Int, ((!sizedS n) || (((ps.length : Int) != countS n) || anyOther ps)) = true → z = 1 → LeV (AV.tup [AV.d (Dv.s (Value.slice none 0 0)), AV.d (i64 z)]) (.tup [.d (.sl 1 (bytesR (joinS ps n).1)), .d (i64 (joinS ps n).2)]) := by
    intro z h hz
    rw [joinS, if_pos h, hz]; exact LeV.tups (.cons (.nil rfl) (.cons .rfl .nil))
  refine ⟨n, _, rfl, rfl, BIf.of (fun g1 => bad 1 (by rw [g1]; rfl) rfl) fun g1 => ⟨n, _, rfl, rfl, BIf.of (fun g2 => bad 1 (by rw [g1, g2]; rfl) rfl) fun g2 => ⟨ps, _, rfl, ⟨hl, rfl⟩, BIf.of (fun g3 => bad 1 (by rw [g1, g2]; simpa using g3) rfl) fun g3 => ?_⟩⟩⟩
  have hz : sizedS n = true := by simpa using g1
  have hc : (ps.length : Int) = countS n := by simpa using g2
  have ho : anyOther ps = false := by simpa using g3
  obtain ⟨k, rfl, hk1, hk2⟩ := sized_nat hz
  rw [countS_eq (by omega)] at hc
  have hfl := sum_pages ho
  have hk3 : k ≤ ps.flatten.length := by omega
  have hgood : ((!sizedS (k : Int)) || (((ps.length : Int) != countS k) || anyOther ps)) = false := by rw [g1, g2, ho]; rfl
  refine ⟨ps, _, rfl, ⟨⟨by omega, by unfold sumL; omega, by unfold sumL; omega⟩, rfl⟩, ?_⟩
  rw [bytesR_len, Int.toNat_natCast, Int.toNat_natCast, bytesR_drop, bytesR_take]
  have e1 : List.take (ps.flatten.length - k) (List.drop k ps.flatten) = List.drop k ps.flatten := List.take_of_length_le (by simp)
  rw [e1]
  refine BIf.t (by simp only [Bool.true_and, decide_eq_true_eq]; omega) ⟨_, _, rfl, ⟨by rw [List.length_drop]; omega, rfl⟩, BIf.of (fun g4 => ?_) fun g4 => BIf.t (by simp only [Bool.true_and, decide_eq_true_eq]; omega) (BIf.t (by simp) ?_)⟩
  · rw [bytesR_len] at g4
    rw [joinS, if_neg (by rw [hgood]; simp), if_pos (by simpa using g4)]
    exact LeV.tups (.cons (.nil rfl) (.cons .rfl .nil))
  · rw [bytesR_len] at g4
    have e2 : List.take (k - Int.toNat 0) (List.drop (Int.toNat 0) (bytesR ps.flatten)) = bytesR (ps.flatten.take k) := by rw [show Int.toNat 0 = 0 from rfl, List.drop_zero, Nat.sub_zero, bytesR_take]
    rw [e2, joinS, if_neg (by rw [hgood]; simp), if_neg (by simpa using g4), Int.toNat_natCast]
    exact LeV.tups (.cons .full (.cons .rfl .nil))
def cJoin (args : List AV) (K : AV → Prop) : Prop := ∃ (ps : List (List Int)) (n : Int) (z : List Int) (e : Int), args = [.d (.sl 1 (partsR ps)), .d (i64 n)] ∧ (ps.length ≤ 9223372036854775807 ∧ (z, e) = joinS ps n) ∧ K (.tup [.d (.sl 1 (bytesR z)), .d (i64 e)])
theorem cJoin_ok : ∀ args K, cJoin args K → ∃ x, PCall Tryd.prog 15 args x ∧ K x := by
  rintro _ K ⟨ps, n, z, e, rfl, ⟨hl, he⟩, h⟩
  have h1 := pcJoin ps n hl
  rw [← he] at h1
  exact ⟨_, h1, h⟩
def TAc : List (Nat × (List AV → (AV → Prop) → Prop)) := [(13, cSplit), (41, cAnnounced), (42, cRoot)]
theorem TAc_ok : CallsOk Tryd.prog TAc := CallsOk.cons cSplit_ok (CallsOk.cons cAnnounced_ok (CallsOk.cons cRoot_ok CallsOk.nil))
section
variable {β : Type} (wl : WLT β) (y : YieldT β) (b : β) (R : AV → β → Prop) (K : Exit → List AV → List Blk → β → Prop)
theorem announce_nf (v t : Int) (p : List (List Dv)) : wpFn Tryd.prog ⟨TAc, [], wl, y, false⟩ 100 Tryd.f17 [.d (i64 v), .d (.sl 1 p), .d (i64 t)] b R = ( ∃ (p0 : List Int), [AV.d (Dv.sl 1 p)] = [AV.d (Dv.sl 1 (bytesR p0))] ∧ List.length p0 ≤ 9223372036854775807 ∧ ∃ (z1 : Bool), ∃ (q2 : List (List Int)), z1 = sizedS ((List.length p0 : Nat) : Int) ∧ q2 = splitS p0 ∧ BIf z1 (∃ (a3 : Int), ∃ (n4 : Int), ∃ (r5 : Int), ∃ (t6 : Int), ∃ (z7 : Bool), [AV.agg [AV.d (i64 v), AV.d (i64 ((List.length p : Nat) : Int)), AV.d (u64 (0 : Int)), AV.d (i64 t)]] = [AV.agg [AV.d (i64 a3), AV.d (i64 n4), AV.d (u64 r5), AV.d (i64 t6)]] ∧ z7 = announcedS a3 n4 t6 ∧ BIf (!z7) (R (AV.tup [AV.agg [AV.d (i64 (0 : Int)), AV.d (i64 (0 : Int)), AV.d (u64 (0 : Int)), AV.d (i64 (0 : Int))], AV.d (i64 (1 : Int))]) b) (∃ (ps8 : List (List Int)), ∃ (z9 : Int × Int), [AV.d (Dv.sl 1 (partsR q2))] = [AV.d (Dv.sl 1 (partsR ps8))] ∧ z9 = rootS ps8 ∧ R (AV.tup [AV.agg [AV.d (i64 v), AV.d (i64 ((List.length p : Nat) : Int)), AV.d (u64 (Prod.fst z9)), AV.d (i64 t)], AV.d (i64 (Prod.snd z9))]) b)) (R (AV.tup [AV.agg [AV.d (i64 (0 : Int)), AV.d (i64 (0 : Int)), AV.d (u64 (0 : Int)), AV.d (i64 (0 : Int))], AV.d (i64 (1 : Int))]) b)) := by kernel_rfl
theorem cloneB_nf (p : List (List Dv)) : wpFn Tryd.prog ⟨[], [], wl, y, false⟩ 100 Tryd.f48 [.d (.sl 1 p)] b R = ( ∀ (t : Bool), (t = true → p = []) → BIf t (R (AV.d (Dv.s (Value.slice none 0 0))) b) (BIf (decide ((0 + List.length p) * 1 ≤ 140737488355328)) (BIf (List.isEmpty p) (R (AV.full 1 []) b) (R (AV.d (Dv.sl 1 ([] ++ p))) b)) False)) := by kernel_rfl
theorem clone47_nf (p : List (List Dv)) : wpFn Tryd.prog ⟨[], [], wl, y, false⟩ 100 Tryd.f47 [.d (.sl 1 p)] b R = ( ∀ (t : Bool), (t = true → p = []) → BIf t (R (AV.d (Dv.s (Value.slice none 0 0))) b) (BIf (decide ((0 + List.length p) * 24 ≤ 140737488355328)) (BIf (List.isEmpty p) (R (AV.full 1 []) b) (R (AV.d (Dv.sl 1 ([] ++ p))) b)) False)) := by kernel_rfl
theorem clone50_nf (p : List (List Dv)) : wpFn Tryd.prog ⟨[], [], wl, y, false⟩ 100 Tryd.f50 [.d (.sl 1 p)] b R = ( ∀ (t : Bool), (t = true → p = []) → BIf t (R (AV.d (Dv.s (Value.slice none 0 0))) b) (BIf (decide ((0 + List.length p) * 8 ≤ 140737488355328)) (BIf (List.isEmpty p) (R (AV.full 1 []) b) (R (AV.d (Dv.sl 1 ([] ++ p))) b)) False)) := by kernel_rfl
end
end Go.Proofs.YtfeemohdpmdaoaaDoor.Am

namespace Go.Proofs.YtfeemohdpmdaoaaDoor.Am
set_option linter.unusedVariables false
open Go Go.RowKit Go.Proofs

/-! ### Announce -/
structure NotT where
  v : Int
  n : Int
  r : Int
  t : Int
def annS (v : Int) (p : List Int) (t : Int) : NotT × Int :=
  if sizedS p.length && announcedS v p.length t then (⟨v, p.length, (rootS (splitS p)).1, t⟩, (rootS (splitS p)).2) else (⟨0, 0, 0, 0⟩, 1)
def notV (x : NotT) : AV := notA x.v x.n x.r x.t
theorem pcAnnounce (v t : Int) (p : List Int) (hl : p.length ≤ 9223372036854775807) : PCall Tryd.prog 17 [.d (i64 v), .d (.sl 1 (bytesR p)), .d (i64 t)] (.tup [notV (annS v p t).1, .d (i64 (annS v p t).2)]) := by
  refine PCall.ofFn (n := 100) (u := false) mixed TAc_ok SCallsOk.nil Tryd.func17 (by rfl) (by rfl) fun Ev bb => ?_
  rw [announce_nf]
  refine ⟨p, rfl, hl, _, _, rfl, rfl, BIf.of (fun g1 => ⟨_, _, _, _, _, rfl, rfl, BIf.of (fun g2 => ?_) fun g2 => ⟨_, _, rfl, rfl, ?_⟩⟩) fun g1 => ?_⟩
  · rw [bytesR_len] at g2
    have g2 : announcedS v p.length t = false := by simpa using g2
    rw [annS, g1, g2]; rfl
  · rw [bytesR_len] at g2 ⊢
    have g2 : announcedS v p.length t = true := by simpa using g2
    rw [annS, g1, g2]; rfl
  · rw [annS, g1]; rfl
def cAnnounce (args : List AV) (K : AV → Prop) : Prop := ∃ (v t : Int) (p : List Int) (z : NotT) (e : Int), args = [.d (i64 v), .d (.sl 1 (bytesR p)), .d (i64 t)] ∧ (p.length ≤ 9223372036854775807 ∧ (z, e) = annS v p t) ∧ K (.tup [notV z, .d (i64 e)])
theorem cAnnounce_ok : ∀ args K, cAnnounce args K → ∃ x, PCall Tryd.prog 17 args x ∧ K x := by
  rintro _ K ⟨v, t, p, z, e, rfl, ⟨hl, he⟩, h⟩
  have := pcAnnounce v t p hl
  rw [← he] at this
  exact ⟨_, this, h⟩

/-! ### clones -/
def proofsR (qs : List (List Int)) : List (List Dv) := qs.map fun q => [.sl 1 (digR q)]
def G22 : List (Nat × (List AV → List Blk → (AV → List Blk → Prop) → Prop)) := [(1000022, fun _ _ _ => False), (1000029, fun _ _ _ => False)]
theorem G22_ok : SCallsOk Tryd.prog G22 := SCallsOk.cons (fun _ _ _ h => h.elim) (SCallsOk.cons (fun _ _ _ h => h.elim) SCallsOk.nil)
section
variable {β : Type} (wl : WLT β) (y : YieldT β) (b : β) (R : AV → β → Prop) (RS : AV → List Blk → β → Prop) (K : Exit → List AV → List Blk → β → Prop)
theorem clone47S_nf (p : List (List Dv)) : wpFnS Tryd.prog ⟨[], G22, wl, y, false⟩ 100 Tryd.f47 [.d (.sl 1 p)] b RS = ( ∀ (t : Bool), (t = true → p = []) → BIf t (RS (AV.d (Dv.s (Value.slice none 0 0))) [] b) (BIf (true && decide (List.length p * 24 ≤ 140737488355328)) (BIf (decide (0 < List.length p)) (RS (AV.gref 0 0 (List.length p) 1) [Blk.mk (flatA p) false true 0] b) (RS (AV.full 1 []) [] b)) False)) := by kernel_rfl
theorem clone49S_nf (p : List (List Dv)) : wpFnS Tryd.prog ⟨[], G22, wl, y, false⟩ 100 Tryd.f49 [.d (.sl 1 p)] b RS = ( ∀ (t : Bool), (t = true → p = []) → BIf t (RS (AV.d (Dv.s (Value.slice none 0 0))) [] b) (BIf (true && decide (List.length p * 24 ≤ 140737488355328)) (BIf (decide (0 < List.length p)) (RS (AV.gref 0 0 (List.length p) 1) [Blk.mk (flatA p) false true 0] b) (RS (AV.full 1 []) [] b)) False)) := by kernel_rfl
end
theorem pcCloneB (xs : List (List Dv)) (hl : xs.length ≤ 1000000) : PCall Tryd.prog 48 [.d (.sl 1 xs)] (.d (.sl 1 xs)) := by
  refine PCall.ofFnV (n := 100) (u := false) (fun _ => wlNo _) mixed CallsOk.nil SCallsOk.nil (fun Ev => wlNo_ok Ev) Tryd.func48 (by rfl) (by rfl) fun Ev bb => ?_
  rw [cloneB_nf]
  refine fun t ht => BIf.of (fun h => by rw [ht h]; exact .nil rfl) fun h => BIf.t (by simp <;> omega) (BIf.of (fun h => by rw [List.isEmpty_iff.1 h]; exact .full) fun h => .rfl)
def cCloneB (args : List AV) (K : AV → Prop) : Prop := ∃ (xs : List (List Dv)), args = [.d (.sl 1 xs)] ∧ xs.length ≤ 1000000 ∧ K (.d (.sl 1 xs))
theorem cCloneB_ok : ∀ args K, cCloneB args K → ∃ x, PCall Tryd.prog 48 args x ∧ K x := by
  rintro _ K ⟨xs, rfl, hl, h⟩; exact ⟨_, pcCloneB xs hl, h⟩
theorem pcClone50 (xs : List (List Dv)) (hl : xs.length ≤ 1000000) : PCall Tryd.prog 50 [.d (.sl 1 xs)] (.d (.sl 1 xs)) := by
  refine PCall.ofFnV (n := 100) (u := false) (fun _ => wlNo _) mixed CallsOk.nil SCallsOk.nil (fun Ev => wlNo_ok Ev) Tryd.func50 (by rfl) (by rfl) fun Ev bb => ?_
  rw [clone50_nf]
  refine fun t ht => BIf.of (fun h => by rw [ht h]; exact .nil rfl) fun h => BIf.t (by simp <;> omega) (BIf.of (fun h => by rw [List.isEmpty_iff.1 h]; exact .full) fun h => .rfl)
def cClone50 (args : List AV) (K : AV → Prop) : Prop := ∃ (xs : List (List Dv)), args = [.d (.sl 1 xs)] ∧ xs.length ≤ 1000000 ∧ K (.d (.sl 1 xs))
theorem cClone50_ok : ∀ args K, cClone50 args K → ∃ x, PCall Tryd.prog 50 args x ∧ K x := by
  rintro _ K ⟨xs, rfl, hl, h⟩; exact ⟨_, pcClone50 xs hl, h⟩

/-! ### the state of a load -/
structure SprT where
  no : NotT
  ps : List (List Int)
  qs : List (List Int)
  rows : List (List Dv)
  pf : List Int
  i1 : Int
  i2 : Int
  i3 : Int
  i4 : Int
  i5 : Int
def spD (s : SprT) : List Dv := [i64 s.no.v, i64 s.no.n, u64 s.no.r, i64 s.no.t, .sl 1 (partsR s.ps), .sl 1 (proofsR s.qs), .sl 2 s.rows, .sl 1 (digR s.pf), i64 s.i1, i64 s.i2, i64 s.i3, i64 s.i4, i64 s.i5]
def spV (s : SprT) : AV := .agg [.d (i64 s.no.v), .d (i64 s.no.n), .d (u64 s.no.r), .d (i64 s.no.t), .d (.sl 1 (partsR s.ps)), .d (.sl 1 (proofsR s.qs)), .d (.sl 2 s.rows), .d (.sl 1 (digR s.pf)), .d (i64 s.i1), .d (i64 s.i2), .d (i64 s.i3), .d (i64 s.i4), .d (i64 s.i5)]
def TSo : List (Nat × (List AV → (AV → Prop) → Prop)) := [(36, cCount), (71, cCheck)]
theorem TSo_ok : CallsOk Tryd.prog TSo := CallsOk.cons cCount_ok (CallsOk.cons cCheck_ok CallsOk.nil)
noncomputable def lp45 : Code := sub [1, 1, 0, 1, 2, 3] (code Tryd.f45)
def tm45 (ps : List (List Dv)) (n i : Int) : List AV := [.bad, .ptr 0 0] ++ List.replicate 40 .bad ++ [.d (.sl 1 ps), .d (i64 n), .d (i64 i)] ++ List.replicate 16 .bad
def TSs : List (Nat × (List AV → (AV → Prop) → Prop)) := [(36, cCount), (41, cAnnounced), (37, cPaged)]
theorem TSs_ok : CallsOk Tryd.prog TSs := CallsOk.cons cCount_ok (CallsOk.cons cAnnounced_ok (CallsOk.cons cPaged_ok CallsOk.nil))
theorem pcClone47 : CloneF Tryd.prog 47 1 := fun xs hl => by
  refine FCall.ofFnF (n := 100) (u := false) (fun _ => wlNo _) mixed CallsOk.nil G22_ok (fun Ev => wlNo_ok Ev) Tryd.func47 (by rfl) (by rfl) (by split <;> rfl) fun Ev bb => ?_
  rw [clone47S_nf]
  refine fun t ht => BIf.of (fun h => by rw [ht h]; exact ⟨.nilFull rfl, rfl⟩) fun h => BIf.t (by simp <;> omega) ?_
  cases xs with
  | nil => exact BIf.f rfl ⟨.rfl, rfl⟩
  | cons a xs => exact BIf.t (by simp) ⟨.rfl, rfl⟩
theorem pcClone49 : CloneF Tryd.prog 49 1 := fun xs hl => by
  refine FCall.ofFnF (n := 100) (u := false) (fun _ => wlNo _) mixed CallsOk.nil G22_ok (fun Ev => wlNo_ok Ev) Tryd.func49 (by rfl) (by rfl) (by split <;> rfl) fun Ev bb => ?_
  rw [clone49S_nf]
  refine fun t ht => BIf.of (fun h => by rw [ht h]; exact ⟨.nilFull rfl, rfl⟩) fun h => BIf.t (by simp <;> omega) ?_
  cases xs with
  | nil => exact BIf.f rfl ⟨.rfl, rfl⟩
  | cons a xs => exact BIf.t (by simp) ⟨.rfl, rfl⟩
section
variable {β : Type} (wl : WLT β) (y : YieldT β) (b : β) (R : AV → β → Prop) (K : Exit → List AV → List Blk → β → Prop)
theorem proved_nf (s : SprT) (i : Int) (p q : List (List Dv)) : wpFn Tryd.prog ⟨TSo, [], wl, y, false⟩ 100 Tryd.f46 [spV s, .d (i64 i), .d (.sl 1 p), .d (.sl 1 q)] b R = ( ∃ (n0 : Int), ∃ (z1 : Int), [AV.d (i64 (NotT.n (SprT.no s)))] = [AV.d (i64 n0)] ∧ z1 = countS n0 ∧ ∃ (r2 : Int), ∃ (n3 : Int), ∃ (i4 : Int), ∃ (p5 : List Int), ∃ (q6 : List Int), ∃ (z7 : Bool), [AV.d (u64 (NotT.r (SprT.no s))), AV.d (i64 z1), AV.d (i64 i), AV.d (Dv.sl 1 p), AV.d (Dv.sl 1 q)] = [AV.d (u64 r2), AV.d (i64 n3), AV.d (i64 i4), AV.d (Dv.sl 1 (bytesR p5)), AV.d (Dv.sl 1 (digR q6))] ∧ z7 = checkS r2 n3 i4 p5 q6 ∧ R (AV.d (bo z7)) b) := by kernel_rfl
end
def provedS (s : SprT) (i : Int) (p q : List Int) : Bool := checkS s.no.r (countS s.no.n) i p q
theorem pcProved (s : SprT) (i : Int) (p q : List Int) : PCall Tryd.prog 46 [spV s, .d (i64 i), .d (.sl 1 (bytesR p)), .d (.sl 1 (digR q))] (.d (bo (provedS s i p q))) := by
  refine PCall.ofFn (n := 100) (u := false) mixed TSo_ok SCallsOk.nil Tryd.func46 (by rfl) (by rfl) fun Ev bb => ?_
  rw [proved_nf]
  exact ⟨_, _, rfl, rfl, _, _, _, _, _, _, rfl, rfl, rfl⟩
def cProved (args : List AV) (K : AV → Prop) : Prop := ∃ (s : SprT) (i : Int) (p q : List Int) (z : Bool), args = [spV s, .d (i64 i), .d (.sl 1 (bytesR p)), .d (.sl 1 (digR q))] ∧ z = provedS s i p q ∧ K (.d (bo z))
theorem cProved_ok : ∀ args K, cProved args K → ∃ x, PCall Tryd.prog 46 args x ∧ K x := by
  rintro _ K ⟨s, i, p, q, _, rfl, rfl, h⟩; exact ⟨_, pcProved s i p q, h⟩
def TPd : List (Nat × (List AV → (AV → Prop) → Prop)) := [(46, cProved)]
theorem TPd_ok : CallsOk Tryd.prog TPd := CallsOk.cons cProved_ok CallsOk.nil
def blkS (s : SprT) : Blk := ⟨(spD s).map .d, false, false, 0⟩
section
variable {β : Type} (wl : WLT β) (y : YieldT β) (b : β) (R : AV → β → Prop) (K : Exit → List AV → List Blk → β → Prop)
theorem r45 (s : SprT) (ps : List (List Dv)) (n i : Int) : wpc Tryd.prog ⟨TPd, [], wl, y, false⟩ 100 lp45 (tm45 ps n i) [blkS s] b (maskT [1, 2, 42, 43, 44] K) = ( BIf (decide (i < n)) (BIf (true && decide ((0 : Int) ≤ i)) (∃ (xs0 : List (List Dv)), ps[Int.toNat i]? = some [Dv.sl 1 xs0] ∧ BIf (true && decide ((0 : Int) ≤ i)) (∃ (xs3 : List (List Dv)), (proofsR (SprT.qs s))[Int.toNat i]? = some [Dv.sl 1 xs3] ∧ ∃ (s6 : SprT), ∃ (i7 : Int), ∃ (p8 : List Int), ∃ (q9 : List Int), ∃ (z10 : Bool), [AV.agg [AV.d (i64 (NotT.v (SprT.no s))), AV.d (i64 (NotT.n (SprT.no s))), AV.d (u64 (NotT.r (SprT.no s))), AV.d (i64 (NotT.t (SprT.no s))), AV.d (Dv.sl 1 (partsR (SprT.ps s))), AV.d (Dv.sl 1 (proofsR (SprT.qs s))), AV.d (Dv.sl 2 (SprT.rows s)), AV.d (Dv.sl 1 (digR (SprT.pf s))), AV.d (i64 (SprT.i1 s)), AV.d (i64 (SprT.i2 s)), AV.d (i64 (SprT.i3 s)), AV.d (i64 (SprT.i4 s)), AV.d (i64 (SprT.i5 s))], AV.d (i64 i), AV.d (Dv.sl 1 xs0), AV.d (Dv.sl 1 xs3)] = [AV.agg [AV.d (i64 (NotT.v (SprT.no s6))), AV.d (i64 (NotT.n (SprT.no s6))), AV.d (u64 (NotT.r (SprT.no s6))), AV.d (i64 (NotT.t (SprT.no s6))), AV.d (Dv.sl 1 (partsR (SprT.ps s6))), AV.d (Dv.sl 1 (proofsR (SprT.qs s6))), AV.d (Dv.sl 2 (SprT.rows s6)), AV.d (Dv.sl 1 (digR (SprT.pf s6))), AV.d (i64 (SprT.i1 s6)), AV.d (i64 (SprT.i2 s6)), AV.d (i64 (SprT.i3 s6)), AV.d (i64 (SprT.i4 s6)), AV.d (i64 (SprT.i5 s6))], AV.d (i64 i7), AV.d (Dv.sl 1 (bytesR p8)), AV.d (Dv.sl 1 (digR q9))] ∧ z10 = provedS s6 i7 p8 q9 ∧ BIf (!z10) (K Exit.ret [AV.bad, AV.ptr 0 0, AV.d (bo false), AV.bad, AV.bad, AV.bad, AV.bad, AV.bad, AV.bad, AV.bad, AV.bad, AV.bad, AV.bad, AV.bad, AV.bad, AV.bad, AV.bad, AV.bad, AV.bad, AV.bad, AV.bad, AV.bad, AV.bad, AV.bad, AV.bad, AV.bad, AV.bad, AV.bad, AV.bad, AV.bad, AV.bad, AV.bad, AV.bad, AV.bad, AV.bad, AV.bad, AV.bad, AV.bad, AV.bad, AV.bad, AV.bad, AV.bad, AV.d (Dv.sl 1 ps), AV.d (i64 n), AV.d (i64 i), AV.bad, AV.bad, AV.bad, AV.bad, AV.bad, AV.bad, AV.bad, AV.bad, AV.bad, AV.bad, AV.bad, AV.bad, AV.bad, AV.bad, AV.bad, AV.bad] [Blk.mk [AV.d (i64 (NotT.v (SprT.no s))), AV.d (i64 (NotT.n (SprT.no s))), AV.d (u64 (NotT.r (SprT.no s))), AV.d (i64 (NotT.t (SprT.no s))), AV.d (Dv.sl 1 (partsR (SprT.ps s))), AV.d (Dv.sl 1 (proofsR (SprT.qs s))), AV.d (Dv.sl 2 (SprT.rows s)), AV.d (Dv.sl 1 (digR (SprT.pf s))), AV.d (i64 (SprT.i1 s)), AV.d (i64 (SprT.i2 s)), AV.d (i64 (SprT.i3 s)), AV.d (i64 (SprT.i4 s)), AV.d (i64 (SprT.i5 s))] false false 0] b) (K Exit.normal [AV.bad, AV.ptr 0 0, AV.bad, AV.bad, AV.bad, AV.bad, AV.bad, AV.bad, AV.bad, AV.bad, AV.bad, AV.bad, AV.bad, AV.bad, AV.bad, AV.bad, AV.bad, AV.bad, AV.bad, AV.bad, AV.bad, AV.bad, AV.bad, AV.bad, AV.bad, AV.bad, AV.bad, AV.bad, AV.bad, AV.bad, AV.bad, AV.bad, AV.bad, AV.bad, AV.bad, AV.bad, AV.bad, AV.bad, AV.bad, AV.bad, AV.bad, AV.bad, AV.d (Dv.sl 1 ps), AV.d (i64 n), AV.d (i64 (IntKind.wrap IntKind.i64 (i + (1 : Int)))), AV.bad, AV.bad, AV.bad, AV.bad, AV.bad, AV.bad, AV.bad, AV.bad, AV.bad, AV.bad, AV.bad, AV.bad, AV.bad, AV.bad, AV.bad, AV.bad] [Blk.mk [AV.d (i64 (NotT.v (SprT.no s))), AV.d (i64 (NotT.n (SprT.no s))), AV.d (u64 (NotT.r (SprT.no s))), AV.d (i64 (NotT.t (SprT.no s))), AV.d (Dv.sl 1 (partsR (SprT.ps s))), AV.d (Dv.sl 1 (proofsR (SprT.qs s))), AV.d (Dv.sl 2 (SprT.rows s)), AV.d (Dv.sl 1 (digR (SprT.pf s))), AV.d (i64 (SprT.i1 s)), AV.d (i64 (SprT.i2 s)), AV.d (i64 (SprT.i3 s)), AV.d (i64 (SprT.i4 s)), AV.d (i64 (SprT.i5 s))] false false 0] b)) False) False) (K (Exit.exit 0) [AV.bad, AV.ptr 0 0, AV.bad, AV.bad, AV.bad, AV.bad, AV.bad, AV.bad, AV.bad, AV.bad, AV.bad, AV.bad, AV.bad, AV.bad, AV.bad, AV.bad, AV.bad, AV.bad, AV.bad, AV.bad, AV.bad, AV.bad, AV.bad, AV.bad, AV.bad, AV.bad, AV.bad, AV.bad, AV.bad, AV.bad, AV.bad, AV.bad, AV.bad, AV.bad, AV.bad, AV.bad, AV.bad, AV.bad, AV.bad, AV.bad, AV.bad, AV.bad, AV.d (Dv.sl 1 ps), AV.d (i64 n), AV.d (i64 i), AV.bad, AV.bad, AV.bad, AV.bad, AV.bad, AV.bad, AV.bad, AV.bad, AV.bad, AV.bad, AV.bad, AV.bad, AV.bad, AV.bad, AV.bad, AV.bad] [Blk.mk [AV.d (i64 (NotT.v (SprT.no s))), AV.d (i64 (NotT.n (SprT.no s))), AV.d (u64 (NotT.r (SprT.no s))), AV.d (i64 (NotT.t (SprT.no s))), AV.d (Dv.sl 1 (partsR (SprT.ps s))), AV.d (Dv.sl 1 (proofsR (SprT.qs s))), AV.d (Dv.sl 2 (SprT.rows s)), AV.d (Dv.sl 1 (digR (SprT.pf s))), AV.d (i64 (SprT.i1 s)), AV.d (i64 (SprT.i2 s)), AV.d (i64 (SprT.i3 s)), AV.d (i64 (SprT.i4 s)), AV.d (i64 (SprT.i5 s))] false false 0] b)) := by kernel_rfl
end
end Go.Proofs.YtfeemohdpmdaoaaDoor.Am

namespace Go.Proofs.YtfeemohdpmdaoaaDoor.Am
set_option linter.unusedVariables false
open Go Go.RowKit Go.Proofs

/-! ### sound -/
/-- pages and proofs, from the k-th on -/
def allP (s : SprT) : Nat → List (List Int) → List (List Int) → Bool
  | k, p :: ps, q :: qs => provedS s k p q && allP s (k + 1) ps qs
  | _, _, _ => true
theorem proofs_len (qs : List (List Int)) : (proofsR qs).length = qs.length := by simp [proofsR]
theorem wr45 {Ev : Env Tryd.prog} {b : Ev.β} {Q : Exit → St Ev.β → Prop} (s : SprT) (hl : s.ps.length ≤ 1000000) : ∀ (ps qs : List (List Int)) (k : Nat), s.ps.drop k = ps → s.qs.drop k = qs → k ≤ s.ps.length → ps.length = qs.length →
    (allP s k ps qs = true → ∀ i : Int, Q (.exit 0) ⟨tm45 (partsR s.ps) s.ps.length i, [blkS s], b⟩) → (allP s k ps qs = false → ∀ i : Int, Q .ret ⟨(tm45 (partsR s.ps) s.ps.length i).set 2 (.d (bo false)), [blkS s], b⟩) →
    WR Ev lp45 (ps.length + 1) ⟨tm45 (partsR s.ps) s.ps.length k, [blkS s], b⟩ Q
  | [], qs, k, hd, hd2, hk, hlen, h1, h2 => by
    refine WR.ofMaskT [1, 2, 42, 43, 44] mixed (CX.Ok.of (u := false) TPd_ok SCallsOk.nil) (k := 100) ?_
    rw [r45]
    have := drop_nil hd
    exact BIf.f (by simp <;> omega) (h1 (by rw [allP]; intros; simp_all) _)
  | p :: ps, [], k, hd, hd2, hk, hlen, h1, h2 => by simp at hlen
  | p :: ps, q :: qs, k, hd, hd2, hk, hlen, h1, h2 => by
    refine WR.ofMaskT [1, 2, 42, 43, 44] mixed (CX.Ok.of (u := false) TPd_ok SCallsOk.nil) (k := 100) ?_
    rw [r45]
    obtain ⟨hk', hr, hd'⟩ := drop_cons hd
    obtain ⟨hk2, hr2, hd2'⟩ := drop_cons hd2
    refine BIf.t (by simp <;> omega) (BIf.t (by simp) ⟨bytesR p, by simp [partsR, hr], BIf.t (by simp) ⟨digR q, by simp [proofsR, hr2], s, k, p, q, _, rfl, rfl, BIf.of (fun g => ?_) fun g => ?_⟩⟩)
    · have g : provedS s k p q = false := by simpa using g
      exact h2 (by rw [allP, g]; rfl) _
    · have g : provedS s k p q = true := by simpa using g
      rw [allP, g, Bool.true_and] at h1 h2
      rw [wrap_succ hk' (by omega)]
      exact wr45 s hl ps qs (k + 1) hd' hd2' hk' (by simpa using hlen) h1 h2
def wl45 {β : Type} : WLT β := fun c tm hp b K => ∃ (s : SprT) (z : Bool), c = .loop lp45 ∧ maskTm [1, 42, 43, 44] 0 tm = tm45 (partsR s.ps) (partsR s.ps).length 0 ∧ hp = [blkS s] ∧ ((s.ps.length ≤ 1000000 ∧ s.qs.length = s.ps.length) ∧ z = allP s 0 s.ps s.qs) ∧
  BIf z (∀ i : Int, K (.exit 0) (tm45 (partsR s.ps) (partsR s.ps).length i) [blkS s] b) (∀ i : Int, K .ret ((tm45 (partsR s.ps) (partsR s.ps).length i).set 2 (.d (bo false))) [blkS s] b)
theorem wl45_ok {Ev : Env Tryd.prog} (c : Code) (tm : List AV) (hp : List Blk) (b : Ev.β) (K : Exit → List AV → List Blk → Ev.β → Prop) (h : wl45 c tm hp b K) : W Ev c ⟨tm, hp, b⟩ (fun e s => K e s.tm s.hp s.b) := by
  obtain ⟨s, z, rfl, htm, rfl, ⟨⟨hl, hlen⟩, hz⟩, hK⟩ := h
  rw [partsR_len] at htm hK
  refine W.cast (htm ▸ maskTm_le _ tm 0) (LeH.refl _) ?_
  exact W.rounds (wr45 (Q := fun e s => K e s.tm s.hp s.b) s hl s.ps s.qs 0 rfl rfl (Nat.zero_le _) hlen.symm (fun h => by rw [hz, h] at hK; exact hK) fun h => by rw [hz, h] at hK; exact hK)
section
variable {β : Type} (wl : WLT β) (y : YieldT β) (b : β) (R : AV → β → Prop) (K : Exit → List AV → List Blk → β → Prop)
theorem sound_nf (s : SprT) : wpFn Tryd.prog ⟨TSs, [], wl45, y, false⟩ 100 Tryd.f45 [spV s] b R = ( ∃ (a0 : Int), ∃ (n1 : Int), ∃ (r2 : Int), ∃ (t3 : Int), ∃ (z4 : Bool), [AV.agg [AV.d (i64 (NotT.v (SprT.no s))), AV.d (i64 (NotT.n (SprT.no s))), AV.d (u64 (NotT.r (SprT.no s))), AV.d (i64 (NotT.t (SprT.no s)))]] = [AV.agg [AV.d (i64 a0), AV.d (i64 n1), AV.d (u64 r2), AV.d (i64 t3)]] ∧ z4 = announcedS a0 n1 t3 ∧ BIf (!z4) (R (AV.d (bo false)) b) (∃ (n5 : Int), ∃ (z6 : Int), [AV.d (i64 (NotT.n (SprT.no s)))] = [AV.d (i64 n5)] ∧ z6 = countS n5 ∧ BIf (decide (((List.length (partsR (SprT.ps s)) : Nat) : Int) > z6)) (R (AV.d (bo false)) b) (BIf (((List.length (proofsR (SprT.qs s)) : Nat) : Int) != ((List.length (partsR (SprT.ps s)) : Nat) : Int)) (R (AV.d (bo false)) b) (∃ (ps7 : List (List Int)), ∃ (z8 : Bool), [AV.d (Dv.sl 1 (partsR (SprT.ps s)))] = [AV.d (Dv.sl 1 (partsR ps7))] ∧ (List.length ps7 ≤ 9223372036854775807 ∧ z8 = !anyOther ps7) ∧ BIf (!z8) (R (AV.d (bo false)) b) (∃ (s9 : SprT), ∃ (z10 : Bool), Code.loop lp45 = Code.loop lp45 ∧ [AV.bad, AV.ptr 0 0, AV.bad, AV.bad, AV.bad, AV.bad, AV.bad, AV.bad, AV.bad, AV.bad, AV.bad, AV.bad, AV.bad, AV.bad, AV.bad, AV.bad, AV.bad, AV.bad, AV.bad, AV.bad, AV.bad, AV.bad, AV.bad, AV.bad, AV.bad, AV.bad, AV.bad, AV.bad, AV.bad, AV.bad, AV.bad, AV.bad, AV.bad, AV.bad, AV.bad, AV.bad, AV.bad, AV.bad, AV.bad, AV.bad, AV.bad, AV.bad, AV.d (Dv.sl 1 (partsR (SprT.ps s))), AV.d (i64 ((List.length (partsR (SprT.ps s)) : Nat) : Int)), AV.d (i64 (0 : Int)), AV.bad, AV.bad, AV.bad, AV.bad, AV.bad, AV.bad, AV.bad, AV.bad, AV.bad, AV.bad, AV.bad, AV.bad, AV.bad, AV.bad, AV.bad, AV.bad] = [AV.bad, AV.ptr 0 0, AV.bad, AV.bad, AV.bad, AV.bad, AV.bad, AV.bad, AV.bad, AV.bad, AV.bad, AV.bad, AV.bad, AV.bad, AV.bad, AV.bad, AV.bad, AV.bad, AV.bad, AV.bad, AV.bad, AV.bad, AV.bad, AV.bad, AV.bad, AV.bad, AV.bad, AV.bad, AV.bad, AV.bad, AV.bad, AV.bad, AV.bad, AV.bad, AV.bad, AV.bad, AV.bad, AV.bad, AV.bad, AV.bad, AV.bad, AV.bad, AV.d (Dv.sl 1 (partsR (SprT.ps s9))), AV.d (i64 ((List.length (partsR (SprT.ps s9)) : Nat) : Int)), AV.d (i64 (0 : Int)), AV.bad, AV.bad, AV.bad, AV.bad, AV.bad, AV.bad, AV.bad, AV.bad, AV.bad, AV.bad, AV.bad, AV.bad, AV.bad, AV.bad, AV.bad, AV.bad] ∧ [Blk.mk [AV.d (i64 (NotT.v (SprT.no s))), AV.d (i64 (NotT.n (SprT.no s))), AV.d (u64 (NotT.r (SprT.no s))), AV.d (i64 (NotT.t (SprT.no s))), AV.d (Dv.sl 1 (partsR (SprT.ps s))), AV.d (Dv.sl 1 (proofsR (SprT.qs s))), AV.d (Dv.sl 2 (SprT.rows s)), AV.d (Dv.sl 1 (digR (SprT.pf s))), AV.d (i64 (SprT.i1 s)), AV.d (i64 (SprT.i2 s)), AV.d (i64 (SprT.i3 s)), AV.d (i64 (SprT.i4 s)), AV.d (i64 (SprT.i5 s))] false false 0] = [Blk.mk [AV.d (i64 (NotT.v (SprT.no s9))), AV.d (i64 (NotT.n (SprT.no s9))), AV.d (u64 (NotT.r (SprT.no s9))), AV.d (i64 (NotT.t (SprT.no s9))), AV.d (Dv.sl 1 (partsR (SprT.ps s9))), AV.d (Dv.sl 1 (proofsR (SprT.qs s9))), AV.d (Dv.sl 2 (SprT.rows s9)), AV.d (Dv.sl 1 (digR (SprT.pf s9))), AV.d (i64 (SprT.i1 s9)), AV.d (i64 (SprT.i2 s9)), AV.d (i64 (SprT.i3 s9)), AV.d (i64 (SprT.i4 s9)), AV.d (i64 (SprT.i5 s9))] false false 0] ∧ ((List.length (SprT.ps s9) ≤ 1000000 ∧ List.length (SprT.qs s9) = List.length (SprT.ps s9)) ∧ z10 = allP s9 0 (SprT.ps s9) (SprT.qs s9)) ∧ BIf z10 (∀ (i : Int), R (AV.d (bo true)) b) (∀ (i : Int), R (AV.d (bo false)) b)))))) := by kernel_rfl
end
def soundS (s : SprT) : Bool := announcedS s.no.v s.no.n s.no.t && (!decide ((s.ps.length : Int) > countS s.no.n) && (!((s.qs.length : Int) != s.ps.length) && (!anyOther s.ps && allP s 0 s.ps s.qs)))

/-! ### Put's loops -/
noncomputable def lp21a : Code := sub [1, 1, 1, 1, 0, 1, 2, 3] (code Tryd.f21)
noncomputable def lp21b : Code := sub [1, 1, 1, 1, 1, 0, 1, 2, 3] (code Tryd.f21)
def outB (s : SprT) (X Y : AV) : Blk := ⟨[.d (i64 s.no.v), .d (i64 s.no.n), .d (u64 s.no.r), .d (i64 s.no.t), X, Y, nilV, nilV, .d (i64 s.i1), .d (i64 s.i2), .d (i64 s.i3), .d (i64 s.i4), .d (i64 s.i5)], false, false, 0⟩
def tm21a (pf rows : List (List Dv)) (n i : Int) : List AV := [.bad, .bad, .d (.sl 1 pf), .bad, .bad, .bad, .ptr 1 0, .bad, .ptr 2 0, .ptr 3 0] ++ List.replicate 52 .bad ++ [.d (.sl 1 rows), .d (i64 n), .d (i64 i)] ++ List.replicate 32 .bad
def tm21b (rows : List (List Dv)) (n i : Int) : List AV := [.bad, .bad, .bad, .bad, .bad, .bad, .ptr 1 0, .bad, .ptr 2 0, .ptr 3 0] ++ List.replicate 72 .bad ++ [.d (.sl 1 rows), .d (i64 n), .d (i64 i)] ++ List.replicate 12 .bad
def TPa : List (Nat × (List AV → (AV → Prop) → Prop)) := [(48, cCloneB), (50, cClone50)]
theorem TPa_ok : CallsOk Tryd.prog TPa := CallsOk.cons cCloneB_ok (CallsOk.cons cClone50_ok CallsOk.nil)
section
variable {β : Type} (wl : WLT β) (y : YieldT β) (b : β) (R : AV → β → Prop) (K : Exit → List AV → List Blk → β → Prop)
theorem r21a (s : SprT) (b0 b1 b2 : Blk) (J : List Blk) (pf rows acc : List (List Dv)) (n i : Int) : wpc Tryd.prog ⟨TPa, [], wl, y, false⟩ 100 lp21a (tm21a pf rows n i) ([b0, b1, b2, outB s (.own 22 1 acc) nilV] ++ J) b (maskT [2, 6, 8, 9, 62, 63, 64] K) = ( BIf (decide (i < n)) (BIf (true && decide ((0 : Int) ≤ i)) (∃ (xs0 : List (List Dv)), rows[Int.toNat i]? = some [Dv.sl 1 xs0] ∧ ∃ (xs3 : List (List Dv)), [AV.d (Dv.sl 1 xs0)] = [AV.d (Dv.sl 1 xs3)] ∧ List.length xs3 ≤ 1000000 ∧ BIf (true && decide ((List.length acc + 1) * 24 ≤ 140737488355328)) (K Exit.normal [AV.bad, AV.bad, AV.d (Dv.sl 1 pf), AV.bad, AV.bad, AV.bad, AV.ptr 1 0, AV.bad, AV.ptr 2 0, AV.ptr 3 0, AV.bad, AV.bad, AV.bad, AV.bad, AV.bad, AV.bad, AV.bad, AV.bad, AV.bad, AV.bad, AV.bad, AV.bad, AV.bad, AV.bad, AV.bad, AV.bad, AV.bad, AV.bad, AV.bad, AV.bad, AV.bad, AV.bad, AV.bad, AV.bad, AV.bad, AV.bad, AV.bad, AV.bad, AV.bad, AV.bad, AV.bad, AV.bad, AV.bad, AV.bad, AV.bad, AV.bad, AV.bad, AV.bad, AV.bad, AV.bad, AV.bad, AV.bad, AV.bad, AV.bad, AV.bad, AV.bad, AV.bad, AV.bad, AV.bad, AV.bad, AV.bad, AV.bad, AV.d (Dv.sl 1 rows), AV.d (i64 n), AV.d (i64 (IntKind.wrap IntKind.i64 (i + (1 : Int)))), AV.bad, AV.bad, AV.bad, AV.bad, AV.bad, AV.bad, AV.bad, AV.bad, AV.bad, AV.bad, AV.bad, AV.bad, AV.bad, AV.bad, AV.bad, AV.bad, AV.bad, AV.bad, AV.bad, AV.bad, AV.bad, AV.bad, AV.bad, AV.bad, AV.bad, AV.bad, AV.bad, AV.bad, AV.bad, AV.bad, AV.bad, AV.bad] (b0 :: b1 :: b2 :: Blk.mk [AV.d (i64 (NotT.v (SprT.no s))), AV.d (i64 (NotT.n (SprT.no s))), AV.d (u64 (NotT.r (SprT.no s))), AV.d (i64 (NotT.t (SprT.no s))), AV.own 22 1 (acc ++ [[Dv.sl 1 xs3]]), AV.d (Dv.s (Value.slice none 0 0)), AV.d (Dv.s (Value.slice none 0 0)), AV.d (Dv.s (Value.slice none 0 0)), AV.d (i64 (SprT.i1 s)), AV.d (i64 (SprT.i2 s)), AV.d (i64 (SprT.i3 s)), AV.d (i64 (SprT.i4 s)), AV.d (i64 (SprT.i5 s))] false false 0 :: List.append._f [] PUnit.unit J) b) False) False) (K (Exit.exit 1) [AV.bad, AV.bad, AV.d (Dv.sl 1 pf), AV.bad, AV.bad, AV.bad, AV.ptr 1 0, AV.bad, AV.ptr 2 0, AV.ptr 3 0, AV.bad, AV.bad, AV.bad, AV.bad, AV.bad, AV.bad, AV.bad, AV.bad, AV.bad, AV.bad, AV.bad, AV.bad, AV.bad, AV.bad, AV.bad, AV.bad, AV.bad, AV.bad, AV.bad, AV.bad, AV.bad, AV.bad, AV.bad, AV.bad, AV.bad, AV.bad, AV.bad, AV.bad, AV.bad, AV.bad, AV.bad, AV.bad, AV.bad, AV.bad, AV.bad, AV.bad, AV.bad, AV.bad, AV.bad, AV.bad, AV.bad, AV.bad, AV.bad, AV.bad, AV.bad, AV.bad, AV.bad, AV.bad, AV.bad, AV.bad, AV.bad, AV.bad, AV.d (Dv.sl 1 rows), AV.d (i64 n), AV.d (i64 i), AV.bad, AV.bad, AV.bad, AV.bad, AV.bad, AV.bad, AV.bad, AV.bad, AV.bad, AV.bad, AV.bad, AV.bad, AV.bad, AV.bad, AV.bad, AV.bad, AV.bad, AV.bad, AV.bad, AV.bad, AV.bad, AV.bad, AV.bad, AV.bad, AV.bad, AV.bad, AV.bad, AV.bad, AV.bad, AV.bad, AV.bad, AV.bad] (b0 :: b1 :: b2 :: Blk.mk [AV.d (i64 (NotT.v (SprT.no s))), AV.d (i64 (NotT.n (SprT.no s))), AV.d (u64 (NotT.r (SprT.no s))), AV.d (i64 (NotT.t (SprT.no s))), AV.own 22 1 acc, AV.d (Dv.s (Value.slice none 0 0)), AV.d (Dv.s (Value.slice none 0 0)), AV.d (Dv.s (Value.slice none 0 0)), AV.d (i64 (SprT.i1 s)), AV.d (i64 (SprT.i2 s)), AV.d (i64 (SprT.i3 s)), AV.d (i64 (SprT.i4 s)), AV.d (i64 (SprT.i5 s))] false false 0 :: List.append._f [] PUnit.unit J) b)) := by kernel_rfl
theorem r21b (s : SprT) (b0 b1 b2 : Blk) (J : List Blk) (X : List (List Dv)) (rows acc : List (List Dv)) (n i : Int) : wpc Tryd.prog ⟨TPa, [], wl, y, false⟩ 100 lp21b (tm21b rows n i) ([b0, b1, b2, outB s (.own 22 1 X) (.own 29 1 acc)] ++ J) b (maskT [6, 8, 9, 82, 83, 84] K) = ( BIf (decide (i < n)) (BIf (true && decide ((0 : Int) ≤ i)) (∃ (xs0 : List (List Dv)), rows[Int.toNat i]? = some [Dv.sl 1 xs0] ∧ ∃ (xs3 : List (List Dv)), [AV.d (Dv.sl 1 xs0)] = [AV.d (Dv.sl 1 xs3)] ∧ List.length xs3 ≤ 1000000 ∧ BIf (true && decide ((List.length acc + 1) * 24 ≤ 140737488355328)) (K Exit.normal [AV.bad, AV.bad, AV.bad, AV.bad, AV.bad, AV.bad, AV.ptr 1 0, AV.bad, AV.ptr 2 0, AV.ptr 3 0, AV.bad, AV.bad, AV.bad, AV.bad, AV.bad, AV.bad, AV.bad, AV.bad, AV.bad, AV.bad, AV.bad, AV.bad, AV.bad, AV.bad, AV.bad, AV.bad, AV.bad, AV.bad, AV.bad, AV.bad, AV.bad, AV.bad, AV.bad, AV.bad, AV.bad, AV.bad, AV.bad, AV.bad, AV.bad, AV.bad, AV.bad, AV.bad, AV.bad, AV.bad, AV.bad, AV.bad, AV.bad, AV.bad, AV.bad, AV.bad, AV.bad, AV.bad, AV.bad, AV.bad, AV.bad, AV.bad, AV.bad, AV.bad, AV.bad, AV.bad, AV.bad, AV.bad, AV.bad, AV.bad, AV.bad, AV.bad, AV.bad, AV.bad, AV.bad, AV.bad, AV.bad, AV.bad, AV.bad, AV.bad, AV.bad, AV.bad, AV.bad, AV.bad, AV.bad, AV.bad, AV.bad, AV.bad, AV.d (Dv.sl 1 rows), AV.d (i64 n), AV.d (i64 (IntKind.wrap IntKind.i64 (i + (1 : Int)))), AV.bad, AV.bad, AV.bad, AV.bad, AV.bad, AV.bad, AV.bad, AV.bad, AV.bad, AV.bad, AV.bad, AV.bad] (b0 :: b1 :: b2 :: Blk.mk [AV.d (i64 (NotT.v (SprT.no s))), AV.d (i64 (NotT.n (SprT.no s))), AV.d (u64 (NotT.r (SprT.no s))), AV.d (i64 (NotT.t (SprT.no s))), AV.own 22 1 X, AV.own 29 1 (acc ++ [[Dv.sl 1 xs3]]), AV.d (Dv.s (Value.slice none 0 0)), AV.d (Dv.s (Value.slice none 0 0)), AV.d (i64 (SprT.i1 s)), AV.d (i64 (SprT.i2 s)), AV.d (i64 (SprT.i3 s)), AV.d (i64 (SprT.i4 s)), AV.d (i64 (SprT.i5 s))] false false 0 :: List.append._f [] PUnit.unit J) b) False) False) (K (Exit.exit 3) [AV.bad, AV.bad, AV.bad, AV.bad, AV.bad, AV.bad, AV.ptr 1 0, AV.bad, AV.ptr 2 0, AV.ptr 3 0, AV.bad, AV.bad, AV.bad, AV.bad, AV.bad, AV.bad, AV.bad, AV.bad, AV.bad, AV.bad, AV.bad, AV.bad, AV.bad, AV.bad, AV.bad, AV.bad, AV.bad, AV.bad, AV.bad, AV.bad, AV.bad, AV.bad, AV.bad, AV.bad, AV.bad, AV.bad, AV.bad, AV.bad, AV.bad, AV.bad, AV.bad, AV.bad, AV.bad, AV.bad, AV.bad, AV.bad, AV.bad, AV.bad, AV.bad, AV.bad, AV.bad, AV.bad, AV.bad, AV.bad, AV.bad, AV.bad, AV.bad, AV.bad, AV.bad, AV.bad, AV.bad, AV.bad, AV.bad, AV.bad, AV.bad, AV.bad, AV.bad, AV.bad, AV.bad, AV.bad, AV.bad, AV.bad, AV.bad, AV.bad, AV.bad, AV.bad, AV.bad, AV.bad, AV.bad, AV.bad, AV.bad, AV.bad, AV.d (Dv.sl 1 rows), AV.d (i64 n), AV.d (i64 i), AV.bad, AV.bad, AV.bad, AV.bad, AV.bad, AV.bad, AV.bad, AV.bad, AV.bad, AV.bad, AV.bad, AV.bad] (b0 :: b1 :: b2 :: Blk.mk [AV.d (i64 (NotT.v (SprT.no s))), AV.d (i64 (NotT.n (SprT.no s))), AV.d (u64 (NotT.r (SprT.no s))), AV.d (i64 (NotT.t (SprT.no s))), AV.own 22 1 X, AV.own 29 1 acc, AV.d (Dv.s (Value.slice none 0 0)), AV.d (Dv.s (Value.slice none 0 0)), AV.d (i64 (SprT.i1 s)), AV.d (i64 (SprT.i2 s)), AV.d (i64 (SprT.i3 s)), AV.d (i64 (SprT.i4 s)), AV.d (i64 (SprT.i5 s))] false false 0 :: List.append._f [] PUnit.unit J) b)) := by kernel_rfl
end
end Go.Proofs.YtfeemohdpmdaoaaDoor.Am

namespace Go.Proofs.YtfeemohdpmdaoaaDoor.Am
set_option linter.unusedVariables false
open Go Go.RowKit Go.Proofs

theorem pcSound (s : SprT) (hl : s.ps.length ≤ 9223372036854775807) : PCall Tryd.prog 45 [spV s] (.d (bo (soundS s))) := by
  refine PCall.ofFnW (n := 100) (u := false) (fun _ => wl45) mixed TSs_ok SCallsOk.nil (fun Ev => wl45_ok) Tryd.func45 (by rfl) (by rfl) fun Ev bb => ?_
  rw [sound_nf]
  refine ⟨_, _, _, _, _, rfl, rfl, BIf.of (fun g => ?_) fun g1 => ⟨_, _, rfl, rfl, BIf.of (fun g => ?_) fun g2 => BIf.of (fun g => ?_) fun g3 => ⟨_, _, rfl, ⟨hl, rfl⟩, BIf.of (fun g => ?_) fun g4 => ⟨s, _, rfl, rfl, rfl, ⟨⟨?_, ?_⟩, rfl⟩, BIf.of (fun g5 _ => ?_) fun g5 _ => ?_⟩⟩⟩⟩
  · have : announcedS s.no.v s.no.n s.no.t = false := by simpa using g
    rw [soundS, this]; rfl
  · rw [partsR_len] at g
    have h1 : announcedS s.no.v s.no.n s.no.t = true := by simpa using g1
    rw [soundS, h1, g]; rfl
  · rw [partsR_len, proofs_len] at g
    rw [partsR_len] at g2
    have h1 : announcedS s.no.v s.no.n s.no.t = true := by simpa using g1
    rw [soundS, h1, g2, g]; rfl
  · rw [partsR_len, proofs_len] at g3
    rw [partsR_len] at g2
    have h1 : announcedS s.no.v s.no.n s.no.t = true := by simpa using g1
    have h4 : anyOther s.ps = true := by simpa using g
    rw [soundS, h1, g2, g3, h4]; rfl
  · rw [partsR_len] at g2
    have h1 : announcedS s.no.v s.no.n s.no.t = true := by simpa using g1
    have h6 : sizedS s.no.n = true := by simp only [announcedS, Bool.and_eq_true] at h1; exact h1.2.2.1
    obtain ⟨k, hk, hk1, hk2⟩ := sized_nat h6
    rw [hk, countS_eq (by omega)] at g2
    simp at g2; omega
  · rw [partsR_len, proofs_len] at g3
    simp at g3; omega
  · rw [partsR_len] at g2
    rw [partsR_len, proofs_len] at g3
    have h1 : announcedS s.no.v s.no.n s.no.t = true := by simpa using g1
    have h4 : anyOther s.ps = false := by simpa using g4
    rw [soundS, h1, g2, g3, h4, g5]; rfl
  · rw [partsR_len] at g2
    rw [partsR_len, proofs_len] at g3
    have h1 : announcedS s.no.v s.no.n s.no.t = true := by simpa using g1
    have h4 : anyOther s.ps = false := by simpa using g4
    rw [soundS, h1, g2, g3, h4, g5]; rfl
def cSound (args : List AV) (K : AV → Prop) : Prop := ∃ (s : SprT) (z : Bool), args = [spV s] ∧ (s.ps.length ≤ 9223372036854775807 ∧ z = soundS s) ∧ K (.d (bo z))
theorem cSound_ok : ∀ args K, cSound args K → ∃ x, PCall Tryd.prog 45 args x ∧ K x := by
  rintro _ K ⟨s, _, rfl, ⟨hl, rfl⟩, h⟩; exact ⟨_, pcSound s hl, h⟩
theorem parts_app1 (ps : List (List Int)) (p : List Int) : partsR ps ++ [[.sl 1 (bytesR p)]] = partsR (ps ++ [p]) := by simp [partsR]
theorem proofs_app1 (ps : List (List Int)) (p : List Int) : proofsR ps ++ [[.sl 1 (digR p)]] = proofsR (ps ++ [p]) := by simp [proofsR]
theorem wr21a {Ev : Env Tryd.prog} {b : Ev.β} {Q : Exit → St Ev.β → Prop} (s : SprT) (b0 b1 b2 : Blk) (J : List Blk) (pf : List (List Dv)) (L : List (List Int)) (hl : L.length ≤ 1000000) (hL : ∀ p ∈ L, p.length ≤ 1000000) : ∀ (rest : List (List Int)) (k : Nat) (acc : List (List Int)), L.drop k = rest → k ≤ L.length → acc.length ≤ k →
    (∀ i : Int, Q (.exit 1) ⟨tm21a pf (partsR L) L.length i, [b0, b1, b2, outB s (.own 22 1 (partsR (acc ++ rest))) nilV] ++ J, b⟩) → WR Ev lp21a (rest.length + 1) ⟨tm21a pf (partsR L) L.length k, [b0, b1, b2, outB s (.own 22 1 (partsR acc)) nilV] ++ J, b⟩ Q
  | [], k, acc, hd, hk, ha, h => by
    refine WR.ofMaskT [2, 6, 8, 9, 62, 63, 64] mixed (CX.Ok.of (u := false) TPa_ok SCallsOk.nil) (k := 100) ?_
    rw [r21a]
    have := drop_nil hd
    rw [List.append_nil] at h
    exact BIf.f (by simp <;> omega) (h _)
  | p :: rest, k, acc, hd, hk, ha, h => by
    refine WR.ofMaskT [2, 6, 8, 9, 62, 63, 64] mixed (CX.Ok.of (u := false) TPa_ok SCallsOk.nil) (k := 100) ?_
    rw [r21a]
    obtain ⟨hk', hr, hd'⟩ := drop_cons hd
    refine BIf.t (by simp <;> omega) (BIf.t (by simp) ⟨bytesR p, by simp [partsR, hr], _, rfl, by rw [bytesR_len]; exact hL p (List.mem_of_getElem? hr), BIf.t (by simp [partsR_len] <;> omega) ?_⟩)
    rw [parts_app1, wrap_succ hk' (by omega)]
    refine wr21a s b0 b1 b2 J pf L hl hL rest (k + 1) (acc ++ [p]) hd' hk' (by simp <;> omega) ?_
    rw [List.append_assoc]; exact h
theorem wr21b {Ev : Env Tryd.prog} {b : Ev.β} {Q : Exit → St Ev.β → Prop} (s : SprT) (b0 b1 b2 : Blk) (J : List Blk) (X : List (List Dv)) (L : List (List Int)) (hl : L.length ≤ 1000000) (hL : ∀ p ∈ L, p.length ≤ 1000000) : ∀ (rest : List (List Int)) (k : Nat) (acc : List (List Int)), L.drop k = rest → k ≤ L.length → acc.length ≤ k →
    (∀ i : Int, Q (.exit 3) ⟨tm21b (proofsR L) L.length i, [b0, b1, b2, outB s (.own 22 1 X) (.own 29 1 (proofsR (acc ++ rest)))] ++ J, b⟩) → WR Ev lp21b (rest.length + 1) ⟨tm21b (proofsR L) L.length k, [b0, b1, b2, outB s (.own 22 1 X) (.own 29 1 (proofsR acc))] ++ J, b⟩ Q
  | [], k, acc, hd, hk, ha, h => by
    refine WR.ofMaskT [6, 8, 9, 82, 83, 84] mixed (CX.Ok.of (u := false) TPa_ok SCallsOk.nil) (k := 100) ?_
    rw [r21b]
    have := drop_nil hd
    rw [List.append_nil] at h
    exact BIf.f (by simp <;> omega) (h _)
  | p :: rest, k, acc, hd, hk, ha, h => by
    refine WR.ofMaskT [6, 8, 9, 82, 83, 84] mixed (CX.Ok.of (u := false) TPa_ok SCallsOk.nil) (k := 100) ?_
    rw [r21b]
    obtain ⟨hk', hr, hd'⟩ := drop_cons hd
    refine BIf.t (by simp <;> omega) (BIf.t (by simp) ⟨digR p, by simp [proofsR, hr], _, rfl, by rw [digR_len]; exact hL p (List.mem_of_getElem? hr), BIf.t (by simp [proofs_len] <;> omega) ?_⟩)
    rw [proofs_app1, wrap_succ hk' (by omega)]
    refine wr21b s b0 b1 b2 J X L hl hL rest (k + 1) (acc ++ [p]) hd' hk' (by simp <;> omega) ?_
    rw [List.append_assoc]; exact h
def wl21 {β : Type} : WLT β := fun c tm hp b K => match cidO c with
  | 11 => c = .loop lp21a ∧ sealTs hp [62] tm fun tm1 => ∃ (s : SprT) (pf : List (List Dv)) (L z : List (List Int)), maskTm [2, 6, 8, 9, 62, 63, 64] 0 tm1 = tm21a pf (partsR L) (partsR L).length 0 ∧ (frz hp (occ (tm.getD 62 .bad)))[3]? = some (outB s nilV nilV) ∧
      ((L.length ≤ 1000000 ∧ ∀ p ∈ L, p.length ≤ 1000000) ∧ z = L) ∧ ∀ i : Int, K (.exit 1) (tm21a pf (partsR z) (partsR z).length i) ((frz hp (occ (tm.getD 62 .bad))).set 3 (outB s (.own 22 1 (partsR z)) nilV)) b
  | 16 => c = .loop lp21b ∧ sealTs hp [82] tm fun tm1 => ∃ (s : SprT) (X : List (List Dv)) (L z : List (List Int)), maskTm [6, 8, 9, 82, 83, 84] 0 tm1 = tm21b (proofsR L) (proofsR L).length 0 ∧ (frz hp (occ (tm.getD 82 .bad)))[3]? = some (outB s (.own 22 1 X) nilV) ∧
      ((L.length ≤ 1000000 ∧ ∀ p ∈ L, p.length ≤ 1000000) ∧ z = L) ∧ ∀ i : Int, K (.exit 3) (tm21b (proofsR z) (proofsR z).length i) ((frz hp (occ (tm.getD 82 .bad))).set 3 (outB s (.own 22 1 X) (.own 29 1 (proofsR z)))) b
  | _ => False
theorem wl21_ok {Ev : Env Tryd.prog} (c : Code) (tm : List AV) (hp : List Blk) (b : Ev.β) (K : Exit → List AV → List Blk → Ev.β → Prop) (h : wl21 c tm hp b K) : W Ev c ⟨tm, hp, b⟩ (fun e s => K e s.tm s.hp s.b) := by
  unfold wl21 at h
  split at h
  · obtain ⟨rfl, h⟩ := h
    refine W.sealed h ?_
    rintro tm1 ⟨s, pf, L, z, htm, h3, ⟨⟨hl, hL⟩, rfl⟩, hK⟩
    obtain ⟨b0, b1, b2, J, e⟩ := four h3
    rw [e] at hK ⊢
    rw [partsR_len] at htm hK
    refine W.cast (htm ▸ maskTm_le _ tm1 0) (hp' := [b0, b1, b2, outB s (.own 22 1 (partsR [])) nilV] ++ J) (LeH.at [b0, b1, b2] J (LeL.at [_, _, _, _] _ (LeA.nilOwn rfl))) ?_
    exact W.rounds (wr21a (Q := fun e s => K e s.tm s.hp s.b) s b0 b1 b2 J pf z hl hL z 0 [] rfl (Nat.zero_le _) (Nat.zero_le _) hK)
  · obtain ⟨rfl, h⟩ := h
    refine W.sealed h ?_
    rintro tm1 ⟨s, X, L, z, htm, h3, ⟨⟨hl, hL⟩, rfl⟩, hK⟩
    obtain ⟨b0, b1, b2, J, e⟩ := four h3
    rw [e] at hK ⊢
    rw [proofs_len] at htm hK
    refine W.cast (htm ▸ maskTm_le _ tm1 0) (hp' := [b0, b1, b2, outB s (.own 22 1 X) (.own 29 1 (proofsR []))] ++ J) (LeH.at [b0, b1, b2] J (LeL.at [_, _, _, _, _] _ (LeA.nilOwn rfl))) ?_
    exact W.rounds (wr21b (Q := fun e s => K e s.tm s.hp s.b) s b0 b1 b2 J X z hl hL z 0 [] rfl (Nat.zero_le _) (Nat.zero_le _) hK)
  · exact h.elim
def TPt : List (Nat × (List AV → (AV → Prop) → Prop)) := [(36, cCount), (45, cSound), (46, cProved)]
theorem TPt_ok : CallsOk Tryd.prog TPt := CallsOk.cons cCount_ok (CallsOk.cons cSound_ok (CallsOk.cons cProved_ok CallsOk.nil))
def SPt : List (Nat × (List AV → List Blk → (AV → List Blk → Prop) → Prop)) := [(47, sClone 1), (49, sClone 1)]
theorem SPt_ok : SCallsOk Tryd.prog SPt := SCallsOk.cons pcClone47.toS (SCallsOk.cons pcClone49.toS SCallsOk.nil)
section
variable {β : Type} (wl : WLT β) (y : YieldT β) (b : β) (R : AV → β → Prop) (K : Exit → List AV → List Blk → β → Prop)
theorem put_nf (s : SprT) (p q : List (List Dv)) : wpFn Tryd.prog ⟨TPt, SPt, wl21, y, false⟩ 100 Tryd.f21 [spV s, .d (.sl 1 p), .d (.sl 1 q)] b R = ( ∃ (s0 : SprT), ∃ (z1 : Bool), [AV.agg [AV.d (i64 (NotT.v (SprT.no s))), AV.d (i64 (NotT.n (SprT.no s))), AV.d (u64 (NotT.r (SprT.no s))), AV.d (i64 (NotT.t (SprT.no s))), AV.d (Dv.sl 1 (partsR (SprT.ps s))), AV.d (Dv.sl 1 (proofsR (SprT.qs s))), AV.d (Dv.sl 2 (SprT.rows s)), AV.d (Dv.sl 1 (digR (SprT.pf s))), AV.d (i64 (SprT.i1 s)), AV.d (i64 (SprT.i2 s)), AV.d (i64 (SprT.i3 s)), AV.d (i64 (SprT.i4 s)), AV.d (i64 (SprT.i5 s))]] = [AV.agg [AV.d (i64 (NotT.v (SprT.no s0))), AV.d (i64 (NotT.n (SprT.no s0))), AV.d (u64 (NotT.r (SprT.no s0))), AV.d (i64 (NotT.t (SprT.no s0))), AV.d (Dv.sl 1 (partsR (SprT.ps s0))), AV.d (Dv.sl 1 (proofsR (SprT.qs s0))), AV.d (Dv.sl 2 (SprT.rows s0)), AV.d (Dv.sl 1 (digR (SprT.pf s0))), AV.d (i64 (SprT.i1 s0)), AV.d (i64 (SprT.i2 s0)), AV.d (i64 (SprT.i3 s0)), AV.d (i64 (SprT.i4 s0)), AV.d (i64 (SprT.i5 s0))]] ∧ (List.length (SprT.ps s0) ≤ 9223372036854775807 ∧ z1 = soundS s0) ∧ BIf (!z1) (R (AV.tup [AV.agg [AV.d (i64 (0 : Int)), AV.d (i64 (0 : Int)), AV.d (u64 (0 : Int)), AV.d (i64 (0 : Int)), AV.d (Dv.s (Value.slice none 0 0)), AV.d (Dv.s (Value.slice none 0 0)), AV.d (Dv.s (Value.slice none 0 0)), AV.d (Dv.s (Value.slice none 0 0)), AV.d (i64 (0 : Int)), AV.d (i64 (0 : Int)), AV.d (i64 (0 : Int)), AV.d (i64 (0 : Int)), AV.d (i64 (0 : Int))], AV.d (i64 (1 : Int))]) b) (BIf (((List.length p : Nat) : Int) != (256 : Int)) (R (AV.tup [AV.agg [AV.d (i64 (0 : Int)), AV.d (i64 (0 : Int)), AV.d (u64 (0 : Int)), AV.d (i64 (0 : Int)), AV.d (Dv.s (Value.slice none 0 0)), AV.d (Dv.s (Value.slice none 0 0)), AV.d (Dv.s (Value.slice none 0 0)), AV.d (Dv.s (Value.slice none 0 0)), AV.d (i64 (0 : Int)), AV.d (i64 (0 : Int)), AV.d (i64 (0 : Int)), AV.d (i64 (0 : Int)), AV.d (i64 (0 : Int))], AV.d (i64 (1 : Int))]) b) (∃ (n2 : Int), ∃ (z3 : Int), [AV.d (i64 (NotT.n (SprT.no s)))] = [AV.d (i64 n2)] ∧ z3 = countS n2 ∧ BIf (((List.length (partsR (SprT.ps s)) : Nat) : Int) == z3) (R (AV.tup [AV.agg [AV.d (i64 (0 : Int)), AV.d (i64 (0 : Int)), AV.d (u64 (0 : Int)), AV.d (i64 (0 : Int)), AV.d (Dv.s (Value.slice none 0 0)), AV.d (Dv.s (Value.slice none 0 0)), AV.d (Dv.s (Value.slice none 0 0)), AV.d (Dv.s (Value.slice none 0 0)), AV.d (i64 (0 : Int)), AV.d (i64 (0 : Int)), AV.d (i64 (0 : Int)), AV.d (i64 (0 : Int)), AV.d (i64 (0 : Int))], AV.d (i64 (10 : Int))]) b) (∃ (s4 : SprT), ∃ (i5 : Int), ∃ (p6 : List Int), ∃ (q7 : List Int), ∃ (z8 : Bool), [AV.agg [AV.d (i64 (NotT.v (SprT.no s))), AV.d (i64 (NotT.n (SprT.no s))), AV.d (u64 (NotT.r (SprT.no s))), AV.d (i64 (NotT.t (SprT.no s))), AV.d (Dv.sl 1 (partsR (SprT.ps s))), AV.d (Dv.sl 1 (proofsR (SprT.qs s))), AV.d (Dv.sl 2 (SprT.rows s)), AV.d (Dv.sl 1 (digR (SprT.pf s))), AV.d (i64 (SprT.i1 s)), AV.d (i64 (SprT.i2 s)), AV.d (i64 (SprT.i3 s)), AV.d (i64 (SprT.i4 s)), AV.d (i64 (SprT.i5 s))], AV.d (i64 ((List.length (partsR (SprT.ps s)) : Nat) : Int)), AV.d (Dv.sl 1 p), AV.d (Dv.sl 1 q)] = [AV.agg [AV.d (i64 (NotT.v (SprT.no s4))), AV.d (i64 (NotT.n (SprT.no s4))), AV.d (u64 (NotT.r (SprT.no s4))), AV.d (i64 (NotT.t (SprT.no s4))), AV.d (Dv.sl 1 (partsR (SprT.ps s4))), AV.d (Dv.sl 1 (proofsR (SprT.qs s4))), AV.d (Dv.sl 2 (SprT.rows s4)), AV.d (Dv.sl 1 (digR (SprT.pf s4))), AV.d (i64 (SprT.i1 s4)), AV.d (i64 (SprT.i2 s4)), AV.d (i64 (SprT.i3 s4)), AV.d (i64 (SprT.i4 s4)), AV.d (i64 (SprT.i5 s4))], AV.d (i64 i5), AV.d (Dv.sl 1 (bytesR p6)), AV.d (Dv.sl 1 (digR q7))] ∧ z8 = provedS s4 i5 p6 q7 ∧ BIf (!z8) (R (AV.tup [AV.agg [AV.d (i64 (0 : Int)), AV.d (i64 (0 : Int)), AV.d (u64 (0 : Int)), AV.d (i64 (0 : Int)), AV.d (Dv.s (Value.slice none 0 0)), AV.d (Dv.s (Value.slice none 0 0)), AV.d (Dv.s (Value.slice none 0 0)), AV.d (Dv.s (Value.slice none 0 0)), AV.d (i64 (0 : Int)), AV.d (i64 (0 : Int)), AV.d (i64 (0 : Int)), AV.d (i64 (0 : Int)), AV.d (i64 (0 : Int))], AV.d (i64 (12 : Int))]) b) (∃ (xs9 : List (List Dv)), [AV.d (Dv.sl 1 (partsR (SprT.ps s)))] = [AV.d (Dv.sl 1 xs9)] ∧ List.length xs9 ≤ 1000000 ∧ BIf (List.isEmpty xs9) (Code.loop lp21a = Code.loop lp21a ∧ ∃ (s10 : SprT), ∃ (pf11 : List (List Dv)), ∃ (L12 : List (List Int)), ∃ (z13 : List (List Int)), [AV.bad, AV.bad, AV.d (Dv.sl 1 q), AV.bad, AV.bad, AV.bad, AV.ptr 1 0, AV.bad, AV.ptr 2 0, AV.ptr 3 0, AV.bad, AV.bad, AV.bad, AV.bad, AV.bad, AV.bad, AV.bad, AV.bad, AV.bad, AV.bad, AV.bad, AV.bad, AV.bad, AV.bad, AV.bad, AV.bad, AV.bad, AV.bad, AV.bad, AV.bad, AV.bad, AV.bad, AV.bad, AV.bad, AV.bad, AV.bad, AV.bad, AV.bad, AV.bad, AV.bad, AV.bad, AV.bad, AV.bad, AV.bad, AV.bad, AV.bad, AV.bad, AV.bad, AV.bad, AV.bad, AV.bad, AV.bad, AV.bad, AV.bad, AV.bad, AV.bad, AV.bad, AV.bad, AV.bad, AV.bad, AV.bad, AV.bad, AV.d (Dv.sl 1 [[Dv.sl 1 p]]), AV.d (i64 (1 : Int)), AV.d (i64 (0 : Int)), AV.bad, AV.bad, AV.bad, AV.bad, AV.bad, AV.bad, AV.bad, AV.bad, AV.bad, AV.bad, AV.bad, AV.bad, AV.bad, AV.bad, AV.bad, AV.bad, AV.bad, AV.bad, AV.bad, AV.bad, AV.bad, AV.bad, AV.bad, AV.bad, AV.bad, AV.bad, AV.bad, AV.bad, AV.bad, AV.bad, AV.bad, AV.bad] = [AV.bad, AV.bad, AV.d (Dv.sl 1 pf11), AV.bad, AV.bad, AV.bad, AV.ptr 1 0, AV.bad, AV.ptr 2 0, AV.ptr 3 0, AV.bad, AV.bad, AV.bad, AV.bad, AV.bad, AV.bad, AV.bad, AV.bad, AV.bad, AV.bad, AV.bad, AV.bad, AV.bad, AV.bad, AV.bad, AV.bad, AV.bad, AV.bad, AV.bad, AV.bad, AV.bad, AV.bad, AV.bad, AV.bad, AV.bad, AV.bad, AV.bad, AV.bad, AV.bad, AV.bad, AV.bad, AV.bad, AV.bad, AV.bad, AV.bad, AV.bad, AV.bad, AV.bad, AV.bad, AV.bad, AV.bad, AV.bad, AV.bad, AV.bad, AV.bad, AV.bad, AV.bad, AV.bad, AV.bad, AV.bad, AV.bad, AV.bad, AV.d (Dv.sl 1 (partsR L12)), AV.d (i64 ((List.length (partsR L12) : Nat) : Int)), AV.d (i64 (0 : Int)), AV.bad, AV.bad, AV.bad, AV.bad, AV.bad, AV.bad, AV.bad, AV.bad, AV.bad, AV.bad, AV.bad, AV.bad, AV.bad, AV.bad, AV.bad, AV.bad, AV.bad, AV.bad, AV.bad, AV.bad, AV.bad, AV.bad, AV.bad, AV.bad, AV.bad, AV.bad, AV.bad, AV.bad, AV.bad, AV.bad, AV.bad, AV.bad] ∧ some (Blk.mk [AV.d (i64 (NotT.v (SprT.no s))), AV.d (i64 (NotT.n (SprT.no s))), AV.d (u64 (NotT.r (SprT.no s))), AV.d (i64 (NotT.t (SprT.no s))), AV.d (Dv.s (Value.slice none 0 0)), AV.d (Dv.s (Value.slice none 0 0)), AV.d (Dv.s (Value.slice none 0 0)), AV.d (Dv.s (Value.slice none 0 0)), AV.d (i64 (SprT.i1 s)), AV.d (i64 (SprT.i2 s)), AV.d (i64 (SprT.i3 s)), AV.d (i64 (SprT.i4 s)), AV.d (i64 (SprT.i5 s))] false false 0) = some (Blk.mk [AV.d (i64 (NotT.v (SprT.no s10))), AV.d (i64 (NotT.n (SprT.no s10))), AV.d (u64 (NotT.r (SprT.no s10))), AV.d (i64 (NotT.t (SprT.no s10))), AV.d (Dv.s (Value.slice none 0 0)), AV.d (Dv.s (Value.slice none 0 0)), AV.d (Dv.s (Value.slice none 0 0)), AV.d (Dv.s (Value.slice none 0 0)), AV.d (i64 (SprT.i1 s10)), AV.d (i64 (SprT.i2 s10)), AV.d (i64 (SprT.i3 s10)), AV.d (i64 (SprT.i4 s10)), AV.d (i64 (SprT.i5 s10))] false false 0) ∧ ((List.length L12 ≤ 1000000 ∧ ∀ (p : List Int), p ∈ L12 → List.length p ≤ 1000000) ∧ z13 = L12) ∧ ∀ (i : Int), ∃ (xs14 : List (List Dv)), [AV.d (Dv.sl 1 (proofsR (SprT.qs s)))] = [AV.d (Dv.sl 1 xs14)] ∧ List.length xs14 ≤ 1000000 ∧ BIf (List.isEmpty xs14) (Code.loop lp21b = Code.loop lp21b ∧ ∃ (s15 : SprT), ∃ (X16 : List (List Dv)), ∃ (L17 : List (List Int)), ∃ (z18 : List (List Int)), [AV.bad, AV.bad, AV.bad, AV.bad, AV.bad, AV.bad, AV.ptr 1 0, AV.bad, AV.ptr 2 0, AV.ptr 3 0, AV.bad, AV.bad, AV.bad, AV.bad, AV.bad, AV.bad, AV.bad, AV.bad, AV.bad, AV.bad, AV.bad, AV.bad, AV.bad, AV.bad, AV.bad, AV.bad, AV.bad, AV.bad, AV.bad, AV.bad, AV.bad, AV.bad, AV.bad, AV.bad, AV.bad, AV.bad, AV.bad, AV.bad, AV.bad, AV.bad, AV.bad, AV.bad, AV.bad, AV.bad, AV.bad, AV.bad, AV.bad, AV.bad, AV.bad, AV.bad, AV.bad, AV.bad, AV.bad, AV.bad, AV.bad, AV.bad, AV.bad, AV.bad, AV.bad, AV.bad, AV.bad, AV.bad, AV.bad, AV.bad, AV.bad, AV.bad, AV.bad, AV.bad, AV.bad, AV.bad, AV.bad, AV.bad, AV.bad, AV.bad, AV.bad, AV.bad, AV.bad, AV.bad, AV.bad, AV.bad, AV.bad, AV.bad, AV.d (Dv.sl 1 [[Dv.sl 1 pf11]]), AV.d (i64 (1 : Int)), AV.d (i64 (0 : Int)), AV.bad, AV.bad, AV.bad, AV.bad, AV.bad, AV.bad, AV.bad, AV.bad, AV.bad, AV.bad, AV.bad, AV.bad] = [AV.bad, AV.bad, AV.bad, AV.bad, AV.bad, AV.bad, AV.ptr 1 0, AV.bad, AV.ptr 2 0, AV.ptr 3 0, AV.bad, AV.bad, AV.bad, AV.bad, AV.bad, AV.bad, AV.bad, AV.bad, AV.bad, AV.bad, AV.bad, AV.bad, AV.bad, AV.bad, AV.bad, AV.bad, AV.bad, AV.bad, AV.bad, AV.bad, AV.bad, AV.bad, AV.bad, AV.bad, AV.bad, AV.bad, AV.bad, AV.bad, AV.bad, AV.bad, AV.bad, AV.bad, AV.bad, AV.bad, AV.bad, AV.bad, AV.bad, AV.bad, AV.bad, AV.bad, AV.bad, AV.bad, AV.bad, AV.bad, AV.bad, AV.bad, AV.bad, AV.bad, AV.bad, AV.bad, AV.bad, AV.bad, AV.bad, AV.bad, AV.bad, AV.bad, AV.bad, AV.bad, AV.bad, AV.bad, AV.bad, AV.bad, AV.bad, AV.bad, AV.bad, AV.bad, AV.bad, AV.bad, AV.bad, AV.bad, AV.bad, AV.bad, AV.d (Dv.sl 1 (proofsR L17)), AV.d (i64 ((List.length (proofsR L17) : Nat) : Int)), AV.d (i64 (0 : Int)), AV.bad, AV.bad, AV.bad, AV.bad, AV.bad, AV.bad, AV.bad, AV.bad, AV.bad, AV.bad, AV.bad, AV.bad] ∧ some (Blk.mk [AV.d (i64 (NotT.v (SprT.no s10))), AV.d (i64 (NotT.n (SprT.no s10))), AV.d (u64 (NotT.r (SprT.no s10))), AV.d (i64 (NotT.t (SprT.no s10))), AV.own 22 1 (partsR z13), AV.d (Dv.s (Value.slice none 0 0)), AV.d (Dv.s (Value.slice none 0 0)), AV.d (Dv.s (Value.slice none 0 0)), AV.d (i64 (SprT.i1 s10)), AV.d (i64 (SprT.i2 s10)), AV.d (i64 (SprT.i3 s10)), AV.d (i64 (SprT.i4 s10)), AV.d (i64 (SprT.i5 s10))] false false 0) = some (Blk.mk [AV.d (i64 (NotT.v (SprT.no s15))), AV.d (i64 (NotT.n (SprT.no s15))), AV.d (u64 (NotT.r (SprT.no s15))), AV.d (i64 (NotT.t (SprT.no s15))), AV.own 22 1 X16, AV.d (Dv.s (Value.slice none 0 0)), AV.d (Dv.s (Value.slice none 0 0)), AV.d (Dv.s (Value.slice none 0 0)), AV.d (i64 (SprT.i1 s15)), AV.d (i64 (SprT.i2 s15)), AV.d (i64 (SprT.i3 s15)), AV.d (i64 (SprT.i4 s15)), AV.d (i64 (SprT.i5 s15))] false false 0) ∧ ((List.length L17 ≤ 1000000 ∧ ∀ (p : List Int), p ∈ L17 → List.length p ≤ 1000000) ∧ z18 = L17) ∧ ∀ (i : Int), R (AV.tup [AV.agg [AV.d (i64 (NotT.v (SprT.no s15))), AV.d (i64 (NotT.n (SprT.no s15))), AV.d (u64 (NotT.r (SprT.no s15))), AV.d (i64 (NotT.t (SprT.no s15))), AV.d (Dv.sl 1 X16), AV.d (Dv.sl 1 (proofsR z18)), AV.d (Dv.s (Value.slice none 0 0)), AV.d (Dv.s (Value.slice none 0 0)), AV.d (i64 (SprT.i1 s15)), AV.d (i64 (SprT.i2 s15)), AV.d (i64 (SprT.i3 s15)), AV.d (i64 (SprT.i4 s15)), AV.d (i64 (SprT.i5 s15))], AV.d (i64 (0 : Int))]) b) (0 = 0 ∧ BIf (decide ((List.length xs14 + 1) * 24 ≤ 140737488355328)) (1 = 1 ∧ Code.loop lp21b = Code.loop lp21b ∧ 1 = 1 ∧ ∃ (xs19 : List (List Dv)), flatA xs14 ++ [AV.d (Dv.sl 1 pf11)] = flatA xs19 ∧ List.length xs19 = List.length xs14 + 1 ∧ (∀ (r : List Dv), r ∈ xs19 → List.length r = 1) ∧ ∃ (s20 : SprT), ∃ (X21 : List (List Dv)), ∃ (L22 : List (List Int)), ∃ (z23 : List (List Int)), [AV.bad, AV.bad, AV.bad, AV.bad, AV.bad, AV.bad, AV.ptr 1 0, AV.bad, AV.ptr 2 0, AV.ptr 3 0, AV.bad, AV.bad, AV.bad, AV.bad, AV.bad, AV.bad, AV.bad, AV.bad, AV.bad, AV.bad, AV.bad, AV.bad, AV.bad, AV.bad, AV.bad, AV.bad, AV.bad, AV.bad, AV.bad, AV.bad, AV.bad, AV.bad, AV.bad, AV.bad, AV.bad, AV.bad, AV.bad, AV.bad, AV.bad, AV.bad, AV.bad, AV.bad, AV.bad, AV.bad, AV.bad, AV.bad, AV.bad, AV.bad, AV.bad, AV.bad, AV.bad, AV.bad, AV.bad, AV.bad, AV.bad, AV.bad, AV.bad, AV.bad, AV.bad, AV.bad, AV.bad, AV.bad, AV.bad, AV.bad, AV.bad, AV.bad, AV.bad, AV.bad, AV.bad, AV.bad, AV.bad, AV.bad, AV.bad, AV.bad, AV.bad, AV.bad, AV.bad, AV.bad, AV.bad, AV.bad, AV.bad, AV.bad, AV.d (Dv.sl 1 xs19), AV.d (i64 ((List.length xs14 + 1 : Nat) : Int)), AV.d (i64 (0 : Int)), AV.bad, AV.bad, AV.bad, AV.bad, AV.bad, AV.bad, AV.bad, AV.bad, AV.bad, AV.bad, AV.bad, AV.bad] = [AV.bad, AV.bad, AV.bad, AV.bad, AV.bad, AV.bad, AV.ptr 1 0, AV.bad, AV.ptr 2 0, AV.ptr 3 0, AV.bad, AV.bad, AV.bad, AV.bad, AV.bad, AV.bad, AV.bad, AV.bad, AV.bad, AV.bad, AV.bad, AV.bad, AV.bad, AV.bad, AV.bad, AV.bad, AV.bad, AV.bad, AV.bad, AV.bad, AV.bad, AV.bad, AV.bad, AV.bad, AV.bad, AV.bad, AV.bad, AV.bad, AV.bad, AV.bad, AV.bad, AV.bad, AV.bad, AV.bad, AV.bad, AV.bad, AV.bad, AV.bad, AV.bad, AV.bad, AV.bad, AV.bad, AV.bad, AV.bad, AV.bad, AV.bad, AV.bad, AV.bad, AV.bad, AV.bad, AV.bad, AV.bad, AV.bad, AV.bad, AV.bad, AV.bad, AV.bad, AV.bad, AV.bad, AV.bad, AV.bad, AV.bad, AV.bad, AV.bad, AV.bad, AV.bad, AV.bad, AV.bad, AV.bad, AV.bad, AV.bad, AV.bad, AV.d (Dv.sl 1 (proofsR L22)), AV.d (i64 ((List.length (proofsR L22) : Nat) : Int)), AV.d (i64 (0 : Int)), AV.bad, AV.bad, AV.bad, AV.bad, AV.bad, AV.bad, AV.bad, AV.bad, AV.bad, AV.bad, AV.bad, AV.bad] ∧ some (Blk.mk [AV.d (i64 (NotT.v (SprT.no s10))), AV.d (i64 (NotT.n (SprT.no s10))), AV.d (u64 (NotT.r (SprT.no s10))), AV.d (i64 (NotT.t (SprT.no s10))), AV.own 22 1 (partsR z13), AV.d (Dv.s (Value.slice none 0 0)), AV.d (Dv.s (Value.slice none 0 0)), AV.d (Dv.s (Value.slice none 0 0)), AV.d (i64 (SprT.i1 s10)), AV.d (i64 (SprT.i2 s10)), AV.d (i64 (SprT.i3 s10)), AV.d (i64 (SprT.i4 s10)), AV.d (i64 (SprT.i5 s10))] false false 0) = some (Blk.mk [AV.d (i64 (NotT.v (SprT.no s20))), AV.d (i64 (NotT.n (SprT.no s20))), AV.d (u64 (NotT.r (SprT.no s20))), AV.d (i64 (NotT.t (SprT.no s20))), AV.own 22 1 X21, AV.d (Dv.s (Value.slice none 0 0)), AV.d (Dv.s (Value.slice none 0 0)), AV.d (Dv.s (Value.slice none 0 0)), AV.d (i64 (SprT.i1 s20)), AV.d (i64 (SprT.i2 s20)), AV.d (i64 (SprT.i3 s20)), AV.d (i64 (SprT.i4 s20)), AV.d (i64 (SprT.i5 s20))] false false 0) ∧ ((List.length L22 ≤ 1000000 ∧ ∀ (p : List Int), p ∈ L22 → List.length p ≤ 1000000) ∧ z23 = L22) ∧ ∀ (i : Int), R (AV.tup [AV.agg [AV.d (i64 (NotT.v (SprT.no s20))), AV.d (i64 (NotT.n (SprT.no s20))), AV.d (u64 (NotT.r (SprT.no s20))), AV.d (i64 (NotT.t (SprT.no s20))), AV.d (Dv.sl 1 X21), AV.d (Dv.sl 1 (proofsR z23)), AV.d (Dv.s (Value.slice none 0 0)), AV.d (Dv.s (Value.slice none 0 0)), AV.d (i64 (SprT.i1 s20)), AV.d (i64 (SprT.i2 s20)), AV.d (i64 (SprT.i3 s20)), AV.d (i64 (SprT.i4 s20)), AV.d (i64 (SprT.i5 s20))], AV.d (i64 (0 : Int))]) b) False)) (0 = 0 ∧ BIf (decide ((List.length xs9 + 1) * 24 ≤ 140737488355328)) (1 = 1 ∧ Code.loop lp21a = Code.loop lp21a ∧ 1 = 1 ∧ ∃ (xs24 : List (List Dv)), flatA xs9 ++ [AV.d (Dv.sl 1 p)] = flatA xs24 ∧ List.length xs24 = List.length xs9 + 1 ∧ (∀ (r : List Dv), r ∈ xs24 → List.length r = 1) ∧ ∃ (s25 : SprT), ∃ (pf26 : List (List Dv)), ∃ (L27 : List (List Int)), ∃ (z28 : List (List Int)), [AV.bad, AV.bad, AV.d (Dv.sl 1 q), AV.bad, AV.bad, AV.bad, AV.ptr 1 0, AV.bad, AV.ptr 2 0, AV.ptr 3 0, AV.bad, AV.bad, AV.bad, AV.bad, AV.bad, AV.bad, AV.bad, AV.bad, AV.bad, AV.bad, AV.bad, AV.bad, AV.bad, AV.bad, AV.bad, AV.bad, AV.bad, AV.bad, AV.bad, AV.bad, AV.bad, AV.bad, AV.bad, AV.bad, AV.bad, AV.bad, AV.bad, AV.bad, AV.bad, AV.bad, AV.bad, AV.bad, AV.bad, AV.bad, AV.bad, AV.bad, AV.bad, AV.bad, AV.bad, AV.bad, AV.bad, AV.bad, AV.bad, AV.bad, AV.bad, AV.bad, AV.bad, AV.bad, AV.bad, AV.bad, AV.bad, AV.bad, AV.d (Dv.sl 1 xs24), AV.d (i64 ((List.length xs9 + 1 : Nat) : Int)), AV.d (i64 (0 : Int)), AV.bad, AV.bad, AV.bad, AV.bad, AV.bad, AV.bad, AV.bad, AV.bad, AV.bad, AV.bad, AV.bad, AV.bad, AV.bad, AV.bad, AV.bad, AV.bad, AV.bad, AV.bad, AV.bad, AV.bad, AV.bad, AV.bad, AV.bad, AV.bad, AV.bad, AV.bad, AV.bad, AV.bad, AV.bad, AV.bad, AV.bad, AV.bad] = [AV.bad, AV.bad, AV.d (Dv.sl 1 pf26), AV.bad, AV.bad, AV.bad, AV.ptr 1 0, AV.bad, AV.ptr 2 0, AV.ptr 3 0, AV.bad, AV.bad, AV.bad, AV.bad, AV.bad, AV.bad, AV.bad, AV.bad, AV.bad, AV.bad, AV.bad, AV.bad, AV.bad, AV.bad, AV.bad, AV.bad, AV.bad, AV.bad, AV.bad, AV.bad, AV.bad, AV.bad, AV.bad, AV.bad, AV.bad, AV.bad, AV.bad, AV.bad, AV.bad, AV.bad, AV.bad, AV.bad, AV.bad, AV.bad, AV.bad, AV.bad, AV.bad, AV.bad, AV.bad, AV.bad, AV.bad, AV.bad, AV.bad, AV.bad, AV.bad, AV.bad, AV.bad, AV.bad, AV.bad, AV.bad, AV.bad, AV.bad, AV.d (Dv.sl 1 (partsR L27)), AV.d (i64 ((List.length (partsR L27) : Nat) : Int)), AV.d (i64 (0 : Int)), AV.bad, AV.bad, AV.bad, AV.bad, AV.bad, AV.bad, AV.bad, AV.bad, AV.bad, AV.bad, AV.bad, AV.bad, AV.bad, AV.bad, AV.bad, AV.bad, AV.bad, AV.bad, AV.bad, AV.bad, AV.bad, AV.bad, AV.bad, AV.bad, AV.bad, AV.bad, AV.bad, AV.bad, AV.bad, AV.bad, AV.bad, AV.bad] ∧ some (Blk.mk [AV.d (i64 (NotT.v (SprT.no s))), AV.d (i64 (NotT.n (SprT.no s))), AV.d (u64 (NotT.r (SprT.no s))), AV.d (i64 (NotT.t (SprT.no s))), AV.d (Dv.s (Value.slice none 0 0)), AV.d (Dv.s (Value.slice none 0 0)), AV.d (Dv.s (Value.slice none 0 0)), AV.d (Dv.s (Value.slice none 0 0)), AV.d (i64 (SprT.i1 s)), AV.d (i64 (SprT.i2 s)), AV.d (i64 (SprT.i3 s)), AV.d (i64 (SprT.i4 s)), AV.d (i64 (SprT.i5 s))] false false 0) = some (Blk.mk [AV.d (i64 (NotT.v (SprT.no s25))), AV.d (i64 (NotT.n (SprT.no s25))), AV.d (u64 (NotT.r (SprT.no s25))), AV.d (i64 (NotT.t (SprT.no s25))), AV.d (Dv.s (Value.slice none 0 0)), AV.d (Dv.s (Value.slice none 0 0)), AV.d (Dv.s (Value.slice none 0 0)), AV.d (Dv.s (Value.slice none 0 0)), AV.d (i64 (SprT.i1 s25)), AV.d (i64 (SprT.i2 s25)), AV.d (i64 (SprT.i3 s25)), AV.d (i64 (SprT.i4 s25)), AV.d (i64 (SprT.i5 s25))] false false 0) ∧ ((List.length L27 ≤ 1000000 ∧ ∀ (p : List Int), p ∈ L27 → List.length p ≤ 1000000) ∧ z28 = L27) ∧ ∀ (i : Int), ∃ (xs29 : List (List Dv)), [AV.d (Dv.sl 1 (proofsR (SprT.qs s)))] = [AV.d (Dv.sl 1 xs29)] ∧ List.length xs29 ≤ 1000000 ∧ BIf (List.isEmpty xs29) (Code.loop lp21b = Code.loop lp21b ∧ ∃ (s30 : SprT), ∃ (X31 : List (List Dv)), ∃ (L32 : List (List Int)), ∃ (z33 : List (List Int)), [AV.bad, AV.bad, AV.bad, AV.bad, AV.bad, AV.bad, AV.ptr 1 0, AV.bad, AV.ptr 2 0, AV.ptr 3 0, AV.bad, AV.bad, AV.bad, AV.bad, AV.bad, AV.bad, AV.bad, AV.bad, AV.bad, AV.bad, AV.bad, AV.bad, AV.bad, AV.bad, AV.bad, AV.bad, AV.bad, AV.bad, AV.bad, AV.bad, AV.bad, AV.bad, AV.bad, AV.bad, AV.bad, AV.bad, AV.bad, AV.bad, AV.bad, AV.bad, AV.bad, AV.bad, AV.bad, AV.bad, AV.bad, AV.bad, AV.bad, AV.bad, AV.bad, AV.bad, AV.bad, AV.bad, AV.bad, AV.bad, AV.bad, AV.bad, AV.bad, AV.bad, AV.bad, AV.bad, AV.bad, AV.bad, AV.bad, AV.bad, AV.bad, AV.bad, AV.bad, AV.bad, AV.bad, AV.bad, AV.bad, AV.bad, AV.bad, AV.bad, AV.bad, AV.bad, AV.bad, AV.bad, AV.bad, AV.bad, AV.bad, AV.bad, AV.d (Dv.sl 1 [[Dv.sl 1 pf26]]), AV.d (i64 (1 : Int)), AV.d (i64 (0 : Int)), AV.bad, AV.bad, AV.bad, AV.bad, AV.bad, AV.bad, AV.bad, AV.bad, AV.bad, AV.bad, AV.bad, AV.bad] = [AV.bad, AV.bad, AV.bad, AV.bad, AV.bad, AV.bad, AV.ptr 1 0, AV.bad, AV.ptr 2 0, AV.ptr 3 0, AV.bad, AV.bad, AV.bad, AV.bad, AV.bad, AV.bad, AV.bad, AV.bad, AV.bad, AV.bad, AV.bad, AV.bad, AV.bad, AV.bad, AV.bad, AV.bad, AV.bad, AV.bad, AV.bad, AV.bad, AV.bad, AV.bad, AV.bad, AV.bad, AV.bad, AV.bad, AV.bad, AV.bad, AV.bad, AV.bad, AV.bad, AV.bad, AV.bad, AV.bad, AV.bad, AV.bad, AV.bad, AV.bad, AV.bad, AV.bad, AV.bad, AV.bad, AV.bad, AV.bad, AV.bad, AV.bad, AV.bad, AV.bad, AV.bad, AV.bad, AV.bad, AV.bad, AV.bad, AV.bad, AV.bad, AV.bad, AV.bad, AV.bad, AV.bad, AV.bad, AV.bad, AV.bad, AV.bad, AV.bad, AV.bad, AV.bad, AV.bad, AV.bad, AV.bad, AV.bad, AV.bad, AV.bad, AV.d (Dv.sl 1 (proofsR L32)), AV.d (i64 ((List.length (proofsR L32) : Nat) : Int)), AV.d (i64 (0 : Int)), AV.bad, AV.bad, AV.bad, AV.bad, AV.bad, AV.bad, AV.bad, AV.bad, AV.bad, AV.bad, AV.bad, AV.bad] ∧ some (Blk.mk [AV.d (i64 (NotT.v (SprT.no s25))), AV.d (i64 (NotT.n (SprT.no s25))), AV.d (u64 (NotT.r (SprT.no s25))), AV.d (i64 (NotT.t (SprT.no s25))), AV.own 22 1 (partsR z28), AV.d (Dv.s (Value.slice none 0 0)), AV.d (Dv.s (Value.slice none 0 0)), AV.d (Dv.s (Value.slice none 0 0)), AV.d (i64 (SprT.i1 s25)), AV.d (i64 (SprT.i2 s25)), AV.d (i64 (SprT.i3 s25)), AV.d (i64 (SprT.i4 s25)), AV.d (i64 (SprT.i5 s25))] false false 0) = some (Blk.mk [AV.d (i64 (NotT.v (SprT.no s30))), AV.d (i64 (NotT.n (SprT.no s30))), AV.d (u64 (NotT.r (SprT.no s30))), AV.d (i64 (NotT.t (SprT.no s30))), AV.own 22 1 X31, AV.d (Dv.s (Value.slice none 0 0)), AV.d (Dv.s (Value.slice none 0 0)), AV.d (Dv.s (Value.slice none 0 0)), AV.d (i64 (SprT.i1 s30)), AV.d (i64 (SprT.i2 s30)), AV.d (i64 (SprT.i3 s30)), AV.d (i64 (SprT.i4 s30)), AV.d (i64 (SprT.i5 s30))] false false 0) ∧ ((List.length L32 ≤ 1000000 ∧ ∀ (p : List Int), p ∈ L32 → List.length p ≤ 1000000) ∧ z33 = L32) ∧ ∀ (i : Int), R (AV.tup [AV.agg [AV.d (i64 (NotT.v (SprT.no s30))), AV.d (i64 (NotT.n (SprT.no s30))), AV.d (u64 (NotT.r (SprT.no s30))), AV.d (i64 (NotT.t (SprT.no s30))), AV.d (Dv.sl 1 X31), AV.d (Dv.sl 1 (proofsR z33)), AV.d (Dv.s (Value.slice none 0 0)), AV.d (Dv.s (Value.slice none 0 0)), AV.d (i64 (SprT.i1 s30)), AV.d (i64 (SprT.i2 s30)), AV.d (i64 (SprT.i3 s30)), AV.d (i64 (SprT.i4 s30)), AV.d (i64 (SprT.i5 s30))], AV.d (i64 (0 : Int))]) b) (0 = 0 ∧ BIf (decide ((List.length xs29 + 1) * 24 ≤ 140737488355328)) (1 = 1 ∧ Code.loop lp21b = Code.loop lp21b ∧ 1 = 1 ∧ ∃ (xs34 : List (List Dv)), flatA xs29 ++ [AV.d (Dv.sl 1 pf26)] = flatA xs34 ∧ List.length xs34 = List.length xs29 + 1 ∧ (∀ (r : List Dv), r ∈ xs34 → List.length r = 1) ∧ ∃ (s35 : SprT), ∃ (X36 : List (List Dv)), ∃ (L37 : List (List Int)), ∃ (z38 : List (List Int)), [AV.bad, AV.bad, AV.bad, AV.bad, AV.bad, AV.bad, AV.ptr 1 0, AV.bad, AV.ptr 2 0, AV.ptr 3 0, AV.bad, AV.bad, AV.bad, AV.bad, AV.bad, AV.bad, AV.bad, AV.bad, AV.bad, AV.bad, AV.bad, AV.bad, AV.bad, AV.bad, AV.bad, AV.bad, AV.bad, AV.bad, AV.bad, AV.bad, AV.bad, AV.bad, AV.bad, AV.bad, AV.bad, AV.bad, AV.bad, AV.bad, AV.bad, AV.bad, AV.bad, AV.bad, AV.bad, AV.bad, AV.bad, AV.bad, AV.bad, AV.bad, AV.bad, AV.bad, AV.bad, AV.bad, AV.bad, AV.bad, AV.bad, AV.bad, AV.bad, AV.bad, AV.bad, AV.bad, AV.bad, AV.bad, AV.bad, AV.bad, AV.bad, AV.bad, AV.bad, AV.bad, AV.bad, AV.bad, AV.bad, AV.bad, AV.bad, AV.bad, AV.bad, AV.bad, AV.bad, AV.bad, AV.bad, AV.bad, AV.bad, AV.bad, AV.d (Dv.sl 1 xs34), AV.d (i64 ((List.length xs29 + 1 : Nat) : Int)), AV.d (i64 (0 : Int)), AV.bad, AV.bad, AV.bad, AV.bad, AV.bad, AV.bad, AV.bad, AV.bad, AV.bad, AV.bad, AV.bad, AV.bad] = [AV.bad, AV.bad, AV.bad, AV.bad, AV.bad, AV.bad, AV.ptr 1 0, AV.bad, AV.ptr 2 0, AV.ptr 3 0, AV.bad, AV.bad, AV.bad, AV.bad, AV.bad, AV.bad, AV.bad, AV.bad, AV.bad, AV.bad, AV.bad, AV.bad, AV.bad, AV.bad, AV.bad, AV.bad, AV.bad, AV.bad, AV.bad, AV.bad, AV.bad, AV.bad, AV.bad, AV.bad, AV.bad, AV.bad, AV.bad, AV.bad, AV.bad, AV.bad, AV.bad, AV.bad, AV.bad, AV.bad, AV.bad, AV.bad, AV.bad, AV.bad, AV.bad, AV.bad, AV.bad, AV.bad, AV.bad, AV.bad, AV.bad, AV.bad, AV.bad, AV.bad, AV.bad, AV.bad, AV.bad, AV.bad, AV.bad, AV.bad, AV.bad, AV.bad, AV.bad, AV.bad, AV.bad, AV.bad, AV.bad, AV.bad, AV.bad, AV.bad, AV.bad, AV.bad, AV.bad, AV.bad, AV.bad, AV.bad, AV.bad, AV.bad, AV.d (Dv.sl 1 (proofsR L37)), AV.d (i64 ((List.length (proofsR L37) : Nat) : Int)), AV.d (i64 (0 : Int)), AV.bad, AV.bad, AV.bad, AV.bad, AV.bad, AV.bad, AV.bad, AV.bad, AV.bad, AV.bad, AV.bad, AV.bad] ∧ some (Blk.mk [AV.d (i64 (NotT.v (SprT.no s25))), AV.d (i64 (NotT.n (SprT.no s25))), AV.d (u64 (NotT.r (SprT.no s25))), AV.d (i64 (NotT.t (SprT.no s25))), AV.own 22 1 (partsR z28), AV.d (Dv.s (Value.slice none 0 0)), AV.d (Dv.s (Value.slice none 0 0)), AV.d (Dv.s (Value.slice none 0 0)), AV.d (i64 (SprT.i1 s25)), AV.d (i64 (SprT.i2 s25)), AV.d (i64 (SprT.i3 s25)), AV.d (i64 (SprT.i4 s25)), AV.d (i64 (SprT.i5 s25))] false false 0) = some (Blk.mk [AV.d (i64 (NotT.v (SprT.no s35))), AV.d (i64 (NotT.n (SprT.no s35))), AV.d (u64 (NotT.r (SprT.no s35))), AV.d (i64 (NotT.t (SprT.no s35))), AV.own 22 1 X36, AV.d (Dv.s (Value.slice none 0 0)), AV.d (Dv.s (Value.slice none 0 0)), AV.d (Dv.s (Value.slice none 0 0)), AV.d (i64 (SprT.i1 s35)), AV.d (i64 (SprT.i2 s35)), AV.d (i64 (SprT.i3 s35)), AV.d (i64 (SprT.i4 s35)), AV.d (i64 (SprT.i5 s35))] false false 0) ∧ ((List.length L37 ≤ 1000000 ∧ ∀ (p : List Int), p ∈ L37 → List.length p ≤ 1000000) ∧ z38 = L37) ∧ ∀ (i : Int), R (AV.tup [AV.agg [AV.d (i64 (NotT.v (SprT.no s35))), AV.d (i64 (NotT.n (SprT.no s35))), AV.d (u64 (NotT.r (SprT.no s35))), AV.d (i64 (NotT.t (SprT.no s35))), AV.d (Dv.sl 1 X36), AV.d (Dv.sl 1 (proofsR z38)), AV.d (Dv.s (Value.slice none 0 0)), AV.d (Dv.s (Value.slice none 0 0)), AV.d (i64 (SprT.i1 s35)), AV.d (i64 (SprT.i2 s35)), AV.d (i64 (SprT.i3 s35)), AV.d (i64 (SprT.i4 s35)), AV.d (i64 (SprT.i5 s35))], AV.d (i64 (0 : Int))]) b) False)) False)))))) := by kernel_rfl
end
end Go.Proofs.YtfeemohdpmdaoaaDoor.Am

namespace Go.Proofs.YtfeemohdpmdaoaaDoor.Am
set_option linter.unusedVariables false
open Go Go.RowKit Go.Proofs

/-! ### Put, Whole -/
def zeroSp : SprT := ⟨⟨0, 0, 0, 0⟩, [], [], [], [], 0, 0, 0, 0, 0⟩
def putS (s : SprT) (p q : List Int) : SprT × Int :=
  if soundS s = false ∨ p.length ≠ 256 then (zeroSp, 1) else if (s.ps.length : Int) = countS s.no.n then (zeroSp, 10) else if provedS s s.ps.length p q = false then (zeroSp, 12)
  else (⟨s.no, s.ps ++ [p], s.qs ++ [q], [], [], s.i1, s.i2, s.i3, s.i4, s.i5⟩, 0)
theorem flatA_parts1 (ps : List (List Int)) (p : List Int) : flatA (partsR ps) ++ [AV.d (.sl 1 (bytesR p))] = flatA (partsR (ps ++ [p])) := by
  rw [← parts_app1, flatA_app]; rfl
theorem flatA_proofs1 (ps : List (List Int)) (p : List Int) : flatA (proofsR ps) ++ [AV.d (.sl 1 (digR p))] = flatA (proofsR (ps ++ [p])) := by
  rw [← proofs_app1, flatA_app]; rfl
theorem parts_row {ps : List (List Int)} : ∀ r ∈ partsR ps, r.length = 1 := by
  intro r hr; simp only [partsR, List.mem_map] at hr; obtain ⟨_, _, rfl⟩ := hr; rfl
theorem proofs_row {ps : List (List Int)} : ∀ r ∈ proofsR ps, r.length = 1 := by
  intro r hr; simp only [proofsR, List.mem_map] at hr; obtain ⟨_, _, rfl⟩ := hr; rfl
theorem sound_facts {s : SprT} (h : soundS s = true) : s.ps.length ≤ 4096 ∧ s.qs.length = s.ps.length ∧ (∀ p ∈ s.ps, p.length = 256) ∧ sizedS s.no.n = true ∧ announcedS s.no.v s.no.n s.no.t = true := by
  simp only [soundS, Bool.and_eq_true] at h
  obtain ⟨h1, h2, h3, h4, h5⟩ := h
  have h6 : sizedS s.no.n = true := by simp only [announcedS, Bool.and_eq_true] at h1; exact h1.2.2.1
  obtain ⟨k, hk, hk1, hk2⟩ := sized_nat h6
  rw [hk, countS_eq (by omega)] at h2
  refine ⟨by simp at h2; omega, by simp at h3; omega, fun p hp => ?_, h6, h1⟩
  have h4 : anyOther s.ps = false := by simpa using h4
  rw [anyOther, List.any_eq_false] at h4
  have := h4 p hp
  simp at this; omega
theorem pcPut (s : SprT) (p q : List Int) (hl : s.ps.length ≤ 9223372036854775807) (hq : q.length ≤ 1000000) (hqs : ∀ x ∈ s.qs, x.length ≤ 1000000) :
    PCall Tryd.prog 21 [spV s, .d (.sl 1 (bytesR p)), .d (.sl 1 (digR q))] (.tup [spV (putS s p q).1, .d (i64 (putS s p q).2)]) := by
  refine PCall.ofFnV (n := 100) (u := false) (fun _ => wl21) mixed TPt_ok SPt_ok (fun Ev => wl21_ok) Tryd.func21 (by rfl) (by rfl) fun Ev bb => ?_
  rw [put_nf]
  have bad : ∀ e : Int, putS s p q = (zeroSp, e) → LeV (AV.tup [AV.agg [AV.d (i64 (0 : Int)), AV.d (i64 (0 : Int)), AV.d (u64 (0 : Int)), AV.d (i64 (0 : Int)), AV.d (Dv.s (Value.slice none 0 0)), AV.d (Dv.s (Value.slice none 0 0)), AV.d (Dv.s (Value.slice none 0 0)), AV.d (Dv.s (Value.slice none 0 0)), AV.d (i64 (0 : Int)), AV.d (i64 (0 : Int)), AV.d (i64 (0 : Int)), AV.d (i64 (0 : Int)), AV.d (i64 (0 : Int))], AV.d (i64 e)])
      (.tup [spV (putS s p q).1, .d (i64 (putS s p q).2)]) := by
    intro e he
    rw [he]
    exact LeV.tups (.cons (LeV.aggs (.cons .rfl (.cons .rfl (.cons .rfl (.cons .rfl (.cons (.nil rfl) (.cons (.nil rfl) (.cons (.nil rfl) (.cons (.nil rfl) (LeVs.refl _)))))))))) (.cons .rfl .nil))
  have good : ∀ ps' qs', putS s p q = (⟨s.no, ps', qs', [], [], s.i1, s.i2, s.i3, s.i4, s.i5⟩, 0) → LeV (AV.tup [AV.agg [.d (i64 s.no.v), .d (i64 s.no.n), .d (u64 s.no.r), .d (i64 s.no.t), .d (.sl 1 (partsR ps')), .d (.sl 1 (proofsR qs')), AV.d (Dv.s (Value.slice none 0 0)), AV.d (Dv.s (Value.slice none 0 0)), .d (i64 s.i1), .d (i64 s.i2), .d (i64 s.i3), .d (i64 s.i4), .d (i64 s.i5)], AV.d (i64 0)])
      (.tup [spV (putS s p q).1, .d (i64 (putS s p q).2)]) := by
    intro ps' qs' he
    rw [he]
    exact LeV.tups (.cons (LeV.aggs (.cons .rfl (.cons .rfl (.cons .rfl (.cons .rfl (.cons .rfl (.cons .rfl (.cons (.nil rfl) (.cons (.nil rfl) (LeVs.refl _)))))))))) (.cons .rfl .nil))
  refine ⟨s, _, rfl, ⟨hl, rfl⟩, BIf.of (fun g => bad 1 (by rw [putS, if_pos (.inl (by simpa using g))])) fun g1 => BIf.of (fun g => bad 1 (by rw [putS, if_pos (.inr (by rw [bytesR_len] at g; simp at g; omega))])) fun g2 => ⟨_, _, rfl, rfl, BIf.of (fun g => bad 10 ?_) fun g3 => ⟨s, _, p, q, _, rfl, rfl, BIf.of (fun g => bad 12 ?_) fun g4 => ?_⟩⟩⟩
  all_goals
    have h1 : soundS s = true := by simpa using g1
    have h2 : p.length = 256 := by rw [bytesR_len] at g2; simp at g2; omega
    have hn : ¬ (soundS s = false ∨ p.length ≠ 256) := by rw [h1, h2]; simp
  · rw [partsR_len] at g
    rw [putS, if_neg hn, if_pos (by simpa using g)]
  · rw [partsR_len] at g3 g
    rw [putS, if_neg hn, if_neg (by simpa using g3), if_pos (by simpa using g)]
  rw [partsR_len] at g3
  obtain ⟨f1, f2, f3, f4, f5⟩ := sound_facts h1
  have h4 : provedS s s.ps.length p q = true := by rw [partsR_len] at g4; simpa using g4
  have hput : putS s p q = (⟨s.no, s.ps ++ [p], s.qs ++ [q], [], [], s.i1, s.i2, s.i3, s.i4, s.i5⟩, 0) := by
    rw [putS, if_neg hn, if_neg (by simpa using g3), if_neg (by rw [h4]; simp)]
  have eP : (partsR (s.ps ++ [p])).length = (partsR s.ps).length + 1 := by simp [partsR_len]
  have eQ : (proofsR (s.qs ++ [q])).length = (proofsR s.qs).length + 1 := by simp [proofs_len]
  have bP : (s.ps ++ [p]).length ≤ 1000000 ∧ ∀ x ∈ s.ps ++ [p], x.length ≤ 1000000 := by
    refine ⟨by simp; omega, fun x hx => ?_⟩
    rcases List.mem_append.1 hx with hx | hx
    · rw [f3 x hx]; decide
    · simp at hx; subst hx; omega
  have bQ : (s.qs ++ [q]).length ≤ 1000000 ∧ ∀ x ∈ s.qs ++ [q], x.length ≤ 1000000 := by
    refine ⟨by simp; omega, fun x hx => ?_⟩
    rcases List.mem_append.1 hx with hx | hx
    · exact hqs x hx
    · simp at hx; subst hx; exact hq
  refine ⟨partsR s.ps, rfl, by rw [partsR_len]; omega, BIf.of (fun h => ?_) fun h => ?_⟩
  · have e1 : s.ps = [] := by
      have : (partsR s.ps).length = 0 := by rw [List.isEmpty_iff] at h; rw [h]; rfl
      rw [partsR_len] at this; exact List.length_eq_zero_iff.1 this
    have e2 : s.qs = [] := List.length_eq_zero_iff.1 (by rw [f2, e1]; rfl)
    rw [e1] at hput bP
    rw [e2] at hput bQ
    refine ⟨rfl, s, digR q, [p], _, rfl, rfl, ⟨bP, rfl⟩, fun _ => ⟨proofsR s.qs, rfl, by rw [proofs_len, f2]; omega, BIf.t (by rw [e2]; rfl) ⟨rfl, s, partsR [p], [q], _, rfl, rfl, ⟨bQ, rfl⟩, fun _ => good [p] [q] hput⟩⟩⟩
  · have e1 : (proofsR s.qs).isEmpty = false := by
      cases hq2 : s.qs with
      | nil =>
        have : s.ps = [] := List.length_eq_zero_iff.1 (by rw [← f2, hq2]; rfl)
        rw [this] at h; cases h
      | cons a l => rfl
    refine ⟨rfl, BIf.t (by rw [decide_eq_true_eq, partsR_len]; omega) ⟨rfl, rfl, rfl, partsR (s.ps ++ [p]), flatA_parts1 _ _, eP, parts_row, s, digR q, s.ps ++ [p], _, by rw [eP], rfl, ⟨bP, rfl⟩, fun _ => ⟨proofsR s.qs, rfl, by rw [proofs_len, f2]; omega, BIf.f e1 ⟨rfl, BIf.t (by rw [decide_eq_true_eq, proofs_len]; omega) ⟨rfl, rfl, rfl, proofsR (s.qs ++ [q]), flatA_proofs1 _ _, eQ, proofs_row, s, partsR (s.ps ++ [p]), s.qs ++ [q], _, by rw [eQ], rfl, ⟨bQ, rfl⟩, fun _ => good _ _ hput⟩⟩⟩⟩⟩
def cPut (args : List AV) (K : AV → Prop) : Prop := ∃ (s : SprT) (p q : List Int) (z : SprT) (e : Int), args = [spV s, .d (.sl 1 (bytesR p)), .d (.sl 1 (digR q))] ∧ ((s.ps.length ≤ 9223372036854775807 ∧ q.length ≤ 1000000 ∧ ∀ x ∈ s.qs, x.length ≤ 1000000) ∧ (z, e) = putS s p q) ∧ K (.tup [spV z, .d (i64 e)])
theorem cPut_ok : ∀ args K, cPut args K → ∃ x, PCall Tryd.prog 21 args x ∧ K x := by
  rintro _ K ⟨s, p, q, z, e, rfl, ⟨⟨h1, h2, h3⟩, he⟩, h⟩
  have := pcPut s p q h1 h2 h3
  rw [← he] at this
  exact ⟨_, this, h⟩
def TWh : List (Nat × (List AV → (AV → Prop) → Prop)) := [(45, cSound), (15, cJoin)]
theorem TWh_ok : CallsOk Tryd.prog TWh := CallsOk.cons cSound_ok (CallsOk.cons cJoin_ok CallsOk.nil)
section
variable {β : Type} (wl : WLT β) (y : YieldT β) (b : β) (R : AV → β → Prop) (K : Exit → List AV → List Blk → β → Prop)
theorem whole_nf (s : SprT) : wpFn Tryd.prog ⟨TWh, [], wl, y, false⟩ 100 Tryd.f23 [spV s] b R = ( ∃ (s0 : SprT), ∃ (z1 : Bool), [AV.agg [AV.d (i64 (NotT.v (SprT.no s))), AV.d (i64 (NotT.n (SprT.no s))), AV.d (u64 (NotT.r (SprT.no s))), AV.d (i64 (NotT.t (SprT.no s))), AV.d (Dv.sl 1 (partsR (SprT.ps s))), AV.d (Dv.sl 1 (proofsR (SprT.qs s))), AV.d (Dv.sl 2 (SprT.rows s)), AV.d (Dv.sl 1 (digR (SprT.pf s))), AV.d (i64 (SprT.i1 s)), AV.d (i64 (SprT.i2 s)), AV.d (i64 (SprT.i3 s)), AV.d (i64 (SprT.i4 s)), AV.d (i64 (SprT.i5 s))]] = [AV.agg [AV.d (i64 (NotT.v (SprT.no s0))), AV.d (i64 (NotT.n (SprT.no s0))), AV.d (u64 (NotT.r (SprT.no s0))), AV.d (i64 (NotT.t (SprT.no s0))), AV.d (Dv.sl 1 (partsR (SprT.ps s0))), AV.d (Dv.sl 1 (proofsR (SprT.qs s0))), AV.d (Dv.sl 2 (SprT.rows s0)), AV.d (Dv.sl 1 (digR (SprT.pf s0))), AV.d (i64 (SprT.i1 s0)), AV.d (i64 (SprT.i2 s0)), AV.d (i64 (SprT.i3 s0)), AV.d (i64 (SprT.i4 s0)), AV.d (i64 (SprT.i5 s0))]] ∧ (List.length (SprT.ps s0) ≤ 9223372036854775807 ∧ z1 = soundS s0) ∧ BIf (!z1) (R (AV.tup [AV.d (Dv.s (Value.slice none 0 0)), AV.d (bo false)]) b) (∃ (ps2 : List (List Int)), ∃ (n3 : Int), ∃ (z4 : List Int), ∃ (e5 : Int), [AV.d (Dv.sl 1 (partsR (SprT.ps s))), AV.d (i64 (NotT.n (SprT.no s)))] = [AV.d (Dv.sl 1 (partsR ps2)), AV.d (i64 n3)] ∧ (List.length ps2 ≤ 9223372036854775807 ∧ (z4, e5) = joinS ps2 n3) ∧ R (AV.tup [AV.d (Dv.sl 1 (bytesR z4)), AV.d (bo (e5 == (0 : Int)))]) b)) := by kernel_rfl
end
end Go.Proofs.YtfeemohdpmdaoaaDoor.Am

namespace Go.Proofs.YtfeemohdpmdaoaaDoor.Am
set_option linter.unusedVariables false
open Go Go.RowKit Go.Proofs

def wholeS (s : SprT) : List Int × Bool := if soundS s then ((joinS s.ps s.no.n).1, (joinS s.ps s.no.n).2 == 0) else ([], false)
theorem pcWhole (s : SprT) (hl : s.ps.length ≤ 9223372036854775807) : PCall Tryd.prog 23 [spV s] (.tup [.d (.sl 1 (bytesR (wholeS s).1)), .d (bo (wholeS s).2)]) := by
  refine PCall.ofFnV (n := 100) (u := false) (fun _ => wlNo _) mixed TWh_ok SCallsOk.nil (fun Ev => wlNo_ok Ev) Tryd.func23 (by rfl) (by rfl) fun Ev bb => ?_
  rw [whole_nf]
  refine ⟨s, _, rfl, ⟨hl, rfl⟩, BIf.of (fun g => ?_) fun g => ⟨s.ps, s.no.n, _, _, rfl, ⟨hl, rfl⟩, ?_⟩⟩
  · rw [wholeS, if_neg (by rw [show soundS s = false by simpa using g]; simp)]
    exact LeV.tups (.cons (.nil rfl) (.cons .rfl .nil))
  · rw [wholeS, if_pos (show soundS s = true by simpa using g)]
    exact .rfl
def cWhole (args : List AV) (K : AV → Prop) : Prop := ∃ (s : SprT) (z : List Int) (e : Bool), args = [spV s] ∧ (s.ps.length ≤ 9223372036854775807 ∧ (z, e) = wholeS s) ∧ K (.tup [.d (.sl 1 (bytesR z)), .d (bo e)])
theorem cWhole_ok : ∀ args K, cWhole args K → ∃ x, PCall Tryd.prog 23 args x ∧ K x := by
  rintro _ K ⟨s, z, e, rfl, ⟨hl, he⟩, h⟩
  have := pcWhole s hl
  rw [← he] at this
  exact ⟨_, this, h⟩

/-! ### comparisons -/
noncomputable def lp20 : Code := sub [1, 1, 0, 1, 2, 3] (code Tryd.f20)
noncomputable def lp28 : Code := sub [1, 1, 0, 1, 2, 3] (code Tryd.f28)
noncomputable def lp19 : Code := sub [1, 1, 0, 1, 2, 3] (code Tryd.f19)
noncomputable def lp52 : Code := sub [1, 1, 0, 1, 2, 3] (code Tryd.f52)
def tmCmp (n : Nat) (z a c : List (List Dv)) (i : Int) : List AV := [.d (.sl 1 a), .d (.sl 1 c), .bad, .bad, .bad, .d (i64 i)] ++ List.replicate n .bad
section
variable {β : Type} (wl : WLT β) (y : YieldT β) (b : β) (R : AV → β → Prop) (K : Exit → List AV → List Blk → β → Prop)
theorem r20 (a c : List (List Dv)) (i : Int) : wpc Tryd.prog ⟨[], [], wl, y, false⟩ 100 lp20 (tmCmp 20 [] a c i) [] b (maskT [0, 1, 4, 5] K) = ( BIf (decide (i < ((List.length a : Nat) : Int))) (BIf (true && decide ((0 : Int) ≤ i)) (∃ (x0 : Int), a[Int.toNat i]? = some [u8 x0] ∧ BIf (true && decide ((0 : Int) ≤ i)) (∃ (x3 : Int), c[Int.toNat i]? = some [u8 x3] ∧ BIf (x0 != x3) (K Exit.ret [AV.d (Dv.sl 1 a), AV.d (Dv.sl 1 c), AV.bad, AV.bad, AV.d (bo false), AV.d (i64 i), AV.bad, AV.bad, AV.bad, AV.bad, AV.bad, AV.bad, AV.bad, AV.bad, AV.bad, AV.bad, AV.bad, AV.bad, AV.bad, AV.bad, AV.bad, AV.bad, AV.bad, AV.bad, AV.bad, AV.bad] [] b) (K Exit.normal [AV.d (Dv.sl 1 a), AV.d (Dv.sl 1 c), AV.bad, AV.bad, AV.bad, AV.d (i64 (IntKind.wrap IntKind.i64 (i + (1 : Int)))), AV.bad, AV.bad, AV.bad, AV.bad, AV.bad, AV.bad, AV.bad, AV.bad, AV.bad, AV.bad, AV.bad, AV.bad, AV.bad, AV.bad, AV.bad, AV.bad, AV.bad, AV.bad, AV.bad, AV.bad] [] b)) False) False) (K (Exit.exit 0) [AV.d (Dv.sl 1 a), AV.d (Dv.sl 1 c), AV.bad, AV.bad, AV.bad, AV.d (i64 i), AV.bad, AV.bad, AV.bad, AV.bad, AV.bad, AV.bad, AV.bad, AV.bad, AV.bad, AV.bad, AV.bad, AV.bad, AV.bad, AV.bad, AV.bad, AV.bad, AV.bad, AV.bad, AV.bad, AV.bad] [] b)) := by kernel_rfl
theorem r28 (a c : List (List Dv)) (i : Int) : wpc Tryd.prog ⟨[], [], wl, y, false⟩ 100 lp28 (tmCmp 20 [] a c i) [] b (maskT [0, 1, 4, 5] K) = ( BIf (decide (i < ((List.length a : Nat) : Int))) (BIf (true && decide ((0 : Int) ≤ i)) (∃ (x0 : Int), a[Int.toNat i]? = some [u64 x0] ∧ BIf (true && decide ((0 : Int) ≤ i)) (∃ (x3 : Int), c[Int.toNat i]? = some [u64 x3] ∧ BIf (x0 != x3) (K Exit.ret [AV.d (Dv.sl 1 a), AV.d (Dv.sl 1 c), AV.bad, AV.bad, AV.d (bo false), AV.d (i64 i), AV.bad, AV.bad, AV.bad, AV.bad, AV.bad, AV.bad, AV.bad, AV.bad, AV.bad, AV.bad, AV.bad, AV.bad, AV.bad, AV.bad, AV.bad, AV.bad, AV.bad, AV.bad, AV.bad, AV.bad] [] b) (K Exit.normal [AV.d (Dv.sl 1 a), AV.d (Dv.sl 1 c), AV.bad, AV.bad, AV.bad, AV.d (i64 (IntKind.wrap IntKind.i64 (i + (1 : Int)))), AV.bad, AV.bad, AV.bad, AV.bad, AV.bad, AV.bad, AV.bad, AV.bad, AV.bad, AV.bad, AV.bad, AV.bad, AV.bad, AV.bad, AV.bad, AV.bad, AV.bad, AV.bad, AV.bad, AV.bad] [] b)) False) False) (K (Exit.exit 0) [AV.d (Dv.sl 1 a), AV.d (Dv.sl 1 c), AV.bad, AV.bad, AV.bad, AV.d (i64 i), AV.bad, AV.bad, AV.bad, AV.bad, AV.bad, AV.bad, AV.bad, AV.bad, AV.bad, AV.bad, AV.bad, AV.bad, AV.bad, AV.bad, AV.bad, AV.bad, AV.bad, AV.bad, AV.bad, AV.bad] [] b)) := by kernel_rfl
end
end Go.Proofs.YtfeemohdpmdaoaaDoor.Am

namespace Go.Proofs.YtfeemohdpmdaoaaDoor.Am
set_option linter.unusedVariables false
open Go Go.RowKit Go.Proofs

theorem parts_at {p : List (List Int)} {k : Nat} (h : k < p.length) : (partsR p)[k]? = some [.sl 1 (bytesR (nthL p k))] := by simp [partsR, nthL, h]
theorem proofs_at {p : List (List Int)} {k : Nat} (h : k < p.length) : (proofsR p)[k]? = some [.sl 1 (digR (nthL p k))] := by simp [proofsR, nthL, h]
theorem nthL_mem {α : Type} {p : List (List α)} {k : Nat} (h : k < p.length) : nthL p k ∈ p := by
  rw [nthL, List.getD_eq_getElem?_getD, List.getElem?_eq_getElem h]; exact List.getElem_mem h
theorem wr20 {Ev : Env Tryd.prog} {b : Ev.β} {Q : Exit → St Ev.β → Prop} (a c : List Int) (hl : a.length = c.length) (hb : a.length ≤ 9223372036854775807) (h1 : a = c → ∀ i : Int, Q (.exit 0) ⟨tmCmp 20 [] (bytesR a) (bytesR c) i, [], b⟩) (h2 : a ≠ c → ∀ i : Int, Q .ret ⟨(tmCmp 20 [] (bytesR a) (bytesR c) i).set 4 (.d (bo false)), [], b⟩) :
    WR Ev lp20 (a.length + 1) ⟨tmCmp 20 [] (bytesR a) (bytesR c) (0 : Nat), [], b⟩ Q := by
  refine WR.scan (X := ⟨[], [], wlW Ev, Ev.Y, false⟩) (k := 100) [0, 1, 4, 5] mixed (CX.Ok.of CallsOk.nil SCallsOk.nil) a.length (fun i => nth a i != nth c i) (fun i => tmCmp 20 [] (bytesR a) (bytesR c) (i : Nat)) (fun i => (tmCmp 20 [] (bytesR a) (bytesR c) (i : Nat)).set 4 (.d (bo false))) [] 0 (fun i hi K k1 k2 => ?_) (fun K k1 => ?_) (fun h => h1 ?_ _) fun h i => h2 ?_ _
  · rw [r20, bytesR_len]
    refine BIf.t (by simp <;> omega) (BIf.t (by simp) ⟨nth a i, by rw [Int.toNat_natCast]; exact bytes_at hi, BIf.t (by simp) ⟨nth c i, by rw [Int.toNat_natCast]; exact bytes_at (by omega), BIf.of (fun g => k1 g) fun g => ?_⟩⟩)
    rw [wrap_succ hi hb]; exact k2 g
  · rw [r20, bytesR_len]
    exact BIf.f (by simp) k1
  · rw [any_ne hl] at h; simpa using h
  · rw [any_ne hl] at h; simpa using h
def wl20 {β : Type} : WLT β := fun t tm hp b K => ∃ (a c : List Int) (z : Bool), t = .loop lp20 ∧ maskTm [0, 1, 5] 0 tm = tmCmp 20 [] (bytesR a) (bytesR c) 0 ∧ hp = [] ∧ ((a.length = c.length ∧ a.length ≤ 9223372036854775807) ∧ z = decide (a = c)) ∧
  BIf z (∀ i : Int, K (.exit 0) (tmCmp 20 [] (bytesR a) (bytesR c) i) [] b) (∀ i : Int, K .ret ((tmCmp 20 [] (bytesR a) (bytesR c) i).set 4 (.d (bo false))) [] b)
theorem wl20_ok {Ev : Env Tryd.prog} (c : Code) (tm : List AV) (hp : List Blk) (b : Ev.β) (K : Exit → List AV → List Blk → Ev.β → Prop) (h : wl20 c tm hp b K) : W Ev c ⟨tm, hp, b⟩ (fun e s => K e s.tm s.hp s.b) := by
  obtain ⟨a, d, z, rfl, htm, rfl, ⟨⟨hl, hb⟩, hz⟩, hK⟩ := h
  refine W.cast (htm ▸ maskTm_le _ tm 0) (LeH.refl _) ?_
  exact W.rounds (wr20 (Q := fun e s => K e s.tm s.hp s.b) a d hl hb (fun h => by rw [hz, decide_eq_true h] at hK; exact hK) fun h => by rw [hz, decide_eq_false h] at hK; exact hK)
section
variable {β : Type} (wl : WLT β) (y : YieldT β) (b : β) (R : AV → β → Prop)
theorem f20_nf (a c : List (List Dv)) : wpFn Tryd.prog ⟨[], [], wl20, y, false⟩ 100 Tryd.f20 [.d (.sl 1 a), .d (.sl 1 c)] b R = ( BIf (((List.length a : Nat) : Int) != ((List.length c : Nat) : Int)) (R (AV.d (bo false)) b) (∃ (a0 : List Int), ∃ (c1 : List Int), ∃ (z2 : Bool), Code.loop lp20 = Code.loop lp20 ∧ [AV.d (Dv.sl 1 a), AV.d (Dv.sl 1 c), AV.bad, AV.bad, AV.bad, AV.d (i64 (0 : Int)), AV.bad, AV.bad, AV.bad, AV.bad, AV.bad, AV.bad, AV.bad, AV.bad, AV.bad, AV.bad, AV.bad, AV.bad, AV.bad, AV.bad, AV.bad, AV.bad, AV.bad, AV.bad, AV.bad, AV.bad] = [AV.d (Dv.sl 1 (bytesR a0)), AV.d (Dv.sl 1 (bytesR c1)), AV.bad, AV.bad, AV.bad, AV.d (i64 (0 : Int)), AV.bad, AV.bad, AV.bad, AV.bad, AV.bad, AV.bad, AV.bad, AV.bad, AV.bad, AV.bad, AV.bad, AV.bad, AV.bad, AV.bad, AV.bad, AV.bad, AV.bad, AV.bad, AV.bad, AV.bad] ∧ ([] : List Blk) = [] ∧ ((List.length a0 = List.length c1 ∧ List.length a0 ≤ 9223372036854775807) ∧ z2 = decide (a0 = c1)) ∧ BIf z2 (∀ (i : Int), R (AV.d (bo true)) b) (∀ (i : Int), R (AV.d (bo false)) b))) := by kernel_rfl
end
theorem pcBytes (a c : List Int) (ha : a.length ≤ 9223372036854775807) : PCall Tryd.prog 20 [.d (.sl 1 (bytesR a)), .d (.sl 1 (bytesR c))] (.d (bo (decide (a = c)))) := by
  refine PCall.ofFnW (n := 100) (u := false) (fun _ => wl20) mixed CallsOk.nil SCallsOk.nil (fun Ev => wl20_ok) Tryd.func20 (by rfl) (by rfl) fun Ev bb => ?_
  rw [f20_nf, bytesR_len, bytesR_len]
  refine BIf.of (fun g => ?_) fun g => ⟨a, c, _, rfl, rfl, rfl, ⟨⟨by simp at g; omega, ha⟩, rfl⟩, BIf.of (fun h i => by rw [h]) fun h i => by rw [h]⟩
  rw [decide_eq_false fun h => by rw [h] at g; simp at g]
def cBytes (args : List AV) (K : AV → Prop) : Prop := ∃ (a c : List Int) (z : Bool), args = [.d (.sl 1 (bytesR a)), .d (.sl 1 (bytesR c))] ∧ (a.length ≤ 9223372036854775807 ∧ z = decide (a = c)) ∧ K (.d (bo z))
theorem cBytes_ok : ∀ args K, cBytes args K → ∃ x, PCall Tryd.prog 20 args x ∧ K x := by
  rintro _ K ⟨a, c, _, rfl, ⟨hl, rfl⟩, h⟩; exact ⟨_, pcBytes a c hl, h⟩
theorem wr28 {Ev : Env Tryd.prog} {b : Ev.β} {Q : Exit → St Ev.β → Prop} (a c : List Int) (hl : a.length = c.length) (hb : a.length ≤ 9223372036854775807) (h1 : a = c → ∀ i : Int, Q (.exit 0) ⟨tmCmp 20 [] (digR a) (digR c) i, [], b⟩) (h2 : a ≠ c → ∀ i : Int, Q .ret ⟨(tmCmp 20 [] (digR a) (digR c) i).set 4 (.d (bo false)), [], b⟩) :
    WR Ev lp28 (a.length + 1) ⟨tmCmp 20 [] (digR a) (digR c) (0 : Nat), [], b⟩ Q := by
  refine WR.scan (X := ⟨[], [], wlW Ev, Ev.Y, false⟩) (k := 100) [0, 1, 4, 5] mixed (CX.Ok.of CallsOk.nil SCallsOk.nil) a.length (fun i => nth a i != nth c i) (fun i => tmCmp 20 [] (digR a) (digR c) (i : Nat)) (fun i => (tmCmp 20 [] (digR a) (digR c) (i : Nat)).set 4 (.d (bo false))) [] 0 (fun i hi K k1 k2 => ?_) (fun K k1 => ?_) (fun h => h1 ?_ _) fun h i => h2 ?_ _
  · rw [r28, digR_len]
    refine BIf.t (by simp <;> omega) (BIf.t (by simp) ⟨nth a i, by rw [Int.toNat_natCast]; exact digs_at hi, BIf.t (by simp) ⟨nth c i, by rw [Int.toNat_natCast]; exact digs_at (by omega), BIf.of (fun g => k1 g) fun g => ?_⟩⟩)
    rw [wrap_succ hi hb]; exact k2 g
  · rw [r28, digR_len]
    exact BIf.f (by simp) k1
  · rw [any_ne hl] at h; simpa using h
  · rw [any_ne hl] at h; simpa using h
def wl28 {β : Type} : WLT β := fun t tm hp b K => ∃ (a c : List Int) (z : Bool), t = .loop lp28 ∧ maskTm [0, 1, 5] 0 tm = tmCmp 20 [] (digR a) (digR c) 0 ∧ hp = [] ∧ ((a.length = c.length ∧ a.length ≤ 9223372036854775807) ∧ z = decide (a = c)) ∧
  BIf z (∀ i : Int, K (.exit 0) (tmCmp 20 [] (digR a) (digR c) i) [] b) (∀ i : Int, K .ret ((tmCmp 20 [] (digR a) (digR c) i).set 4 (.d (bo false))) [] b)
theorem wl28_ok {Ev : Env Tryd.prog} (c : Code) (tm : List AV) (hp : List Blk) (b : Ev.β) (K : Exit → List AV → List Blk → Ev.β → Prop) (h : wl28 c tm hp b K) : W Ev c ⟨tm, hp, b⟩ (fun e s => K e s.tm s.hp s.b) := by
  obtain ⟨a, d, z, rfl, htm, rfl, ⟨⟨hl, hb⟩, hz⟩, hK⟩ := h
  refine W.cast (htm ▸ maskTm_le _ tm 0) (LeH.refl _) ?_
  exact W.rounds (wr28 (Q := fun e s => K e s.tm s.hp s.b) a d hl hb (fun h => by rw [hz, decide_eq_true h] at hK; exact hK) fun h => by rw [hz, decide_eq_false h] at hK; exact hK)
section
variable {β : Type} (wl : WLT β) (y : YieldT β) (b : β) (R : AV → β → Prop)
theorem f28_nf (a c : List (List Dv)) : wpFn Tryd.prog ⟨[], [], wl28, y, false⟩ 100 Tryd.f28 [.d (.sl 1 a), .d (.sl 1 c)] b R = ( BIf (((List.length a : Nat) : Int) != ((List.length c : Nat) : Int)) (R (AV.d (bo false)) b) (∃ (a0 : List Int), ∃ (c1 : List Int), ∃ (z2 : Bool), Code.loop lp28 = Code.loop lp28 ∧ [AV.d (Dv.sl 1 a), AV.d (Dv.sl 1 c), AV.bad, AV.bad, AV.bad, AV.d (i64 (0 : Int)), AV.bad, AV.bad, AV.bad, AV.bad, AV.bad, AV.bad, AV.bad, AV.bad, AV.bad, AV.bad, AV.bad, AV.bad, AV.bad, AV.bad, AV.bad, AV.bad, AV.bad, AV.bad, AV.bad, AV.bad] = [AV.d (Dv.sl 1 (digR a0)), AV.d (Dv.sl 1 (digR c1)), AV.bad, AV.bad, AV.bad, AV.d (i64 (0 : Int)), AV.bad, AV.bad, AV.bad, AV.bad, AV.bad, AV.bad, AV.bad, AV.bad, AV.bad, AV.bad, AV.bad, AV.bad, AV.bad, AV.bad, AV.bad, AV.bad, AV.bad, AV.bad, AV.bad, AV.bad] ∧ ([] : List Blk) = [] ∧ ((List.length a0 = List.length c1 ∧ List.length a0 ≤ 9223372036854775807) ∧ z2 = decide (a0 = c1)) ∧ BIf z2 (∀ (i : Int), R (AV.d (bo true)) b) (∀ (i : Int), R (AV.d (bo false)) b))) := by kernel_rfl
end
theorem pcTSame (a c : List Int) (ha : a.length ≤ 9223372036854775807) : PCall Tryd.prog 28 [.d (.sl 1 (digR a)), .d (.sl 1 (digR c))] (.d (bo (decide (a = c)))) := by
  refine PCall.ofFnW (n := 100) (u := false) (fun _ => wl28) mixed CallsOk.nil SCallsOk.nil (fun Ev => wl28_ok) Tryd.func28 (by rfl) (by rfl) fun Ev bb => ?_
  rw [f28_nf, digR_len, digR_len]
  refine BIf.of (fun g => ?_) fun g => ⟨a, c, _, rfl, rfl, rfl, ⟨⟨by simp at g; omega, ha⟩, rfl⟩, BIf.of (fun h i => by rw [h]) fun h i => by rw [h]⟩
  rw [decide_eq_false fun h => by rw [h] at g; simp at g]
def cTSame (args : List AV) (K : AV → Prop) : Prop := ∃ (a c : List Int) (z : Bool), args = [.d (.sl 1 (digR a)), .d (.sl 1 (digR c))] ∧ (a.length ≤ 9223372036854775807 ∧ z = decide (a = c)) ∧ K (.d (bo z))
theorem cTSame_ok : ∀ args K, cTSame args K → ∃ x, PCall Tryd.prog 28 args x ∧ K x := by
  rintro _ K ⟨a, c, _, rfl, ⟨hl, rfl⟩, h⟩; exact ⟨_, pcTSame a c hl, h⟩
def T19 : List (Nat × (List AV → (AV → Prop) → Prop)) := [(20, cBytes)]
theorem T19_ok : CallsOk Tryd.prog T19 := CallsOk.cons cBytes_ok CallsOk.nil
section
variable {β : Type} (wl : WLT β) (y : YieldT β) (b : β) (K : Exit → List AV → List Blk → β → Prop)
theorem r19 (a c : List (List Dv)) (i : Int) : wpc Tryd.prog ⟨T19, [], wl, y, false⟩ 100 lp19 (tmCmp 21 [] a c i) [] b (maskT [0, 1, 4, 5] K) = ( BIf (decide (i < ((List.length a : Nat) : Int))) (BIf (true && decide ((0 : Int) ≤ i)) (∃ (xs0 : List (List Dv)), a[Int.toNat i]? = some [Dv.sl 1 xs0] ∧ BIf (true && decide ((0 : Int) ≤ i)) (∃ (xs3 : List (List Dv)), c[Int.toNat i]? = some [Dv.sl 1 xs3] ∧ ∃ (a6 : List Int), ∃ (c7 : List Int), ∃ (z8 : Bool), [AV.d (Dv.sl 1 xs0), AV.d (Dv.sl 1 xs3)] = [AV.d (Dv.sl 1 (bytesR a6)), AV.d (Dv.sl 1 (bytesR c7))] ∧ (List.length a6 ≤ 9223372036854775807 ∧ z8 = decide (a6 = c7)) ∧ BIf (!z8) (K Exit.ret [AV.d (Dv.sl 1 a), AV.d (Dv.sl 1 c), AV.bad, AV.bad, AV.d (bo false), AV.d (i64 i), AV.bad, AV.bad, AV.bad, AV.bad, AV.bad, AV.bad, AV.bad, AV.bad, AV.bad, AV.bad, AV.bad, AV.bad, AV.bad, AV.bad, AV.bad, AV.bad, AV.bad, AV.bad, AV.bad, AV.bad, AV.bad] [] b) (K Exit.normal [AV.d (Dv.sl 1 a), AV.d (Dv.sl 1 c), AV.bad, AV.bad, AV.bad, AV.d (i64 (IntKind.wrap IntKind.i64 (i + (1 : Int)))), AV.bad, AV.bad, AV.bad, AV.bad, AV.bad, AV.bad, AV.bad, AV.bad, AV.bad, AV.bad, AV.bad, AV.bad, AV.bad, AV.bad, AV.bad, AV.bad, AV.bad, AV.bad, AV.bad, AV.bad, AV.bad] [] b)) False) False) (K (Exit.exit 0) [AV.d (Dv.sl 1 a), AV.d (Dv.sl 1 c), AV.bad, AV.bad, AV.bad, AV.d (i64 i), AV.bad, AV.bad, AV.bad, AV.bad, AV.bad, AV.bad, AV.bad, AV.bad, AV.bad, AV.bad, AV.bad, AV.bad, AV.bad, AV.bad, AV.bad, AV.bad, AV.bad, AV.bad, AV.bad, AV.bad, AV.bad] [] b)) := by kernel_rfl
end
theorem wr19 {Ev : Env Tryd.prog} {b : Ev.β} {Q : Exit → St Ev.β → Prop} (a c : List (List Int)) (hl : a.length = c.length) (hb : a.length ≤ 9223372036854775807) (he : ∀ p ∈ a, p.length ≤ 9223372036854775807) (h1 : a = c → ∀ i : Int, Q (.exit 0) ⟨tmCmp 21 [] (partsR a) (partsR c) i, [], b⟩) (h2 : a ≠ c → ∀ i : Int, Q .ret ⟨(tmCmp 21 [] (partsR a) (partsR c) i).set 4 (.d (bo false)), [], b⟩) :
    WR Ev lp19 (a.length + 1) ⟨tmCmp 21 [] (partsR a) (partsR c) (0 : Nat), [], b⟩ Q := by
  refine WR.scan (X := ⟨T19, [], wlW Ev, Ev.Y, false⟩) (k := 100) [0, 1, 4, 5] mixed (CX.Ok.of T19_ok SCallsOk.nil) a.length (fun i => !decide (nthL a i = nthL c i)) (fun i => tmCmp 21 [] (partsR a) (partsR c) (i : Nat)) (fun i => (tmCmp 21 [] (partsR a) (partsR c) (i : Nat)).set 4 (.d (bo false))) [] 0 (fun i hi K k1 k2 => ?_) (fun K k1 => ?_) (fun h => h1 ?_ _) fun h i => h2 ?_ _
  · rw [r19, partsR_len]
    refine BIf.t (by simp <;> omega) (BIf.t (by simp) ⟨_, by rw [Int.toNat_natCast]; exact parts_at hi, BIf.t (by simp) ⟨_, by rw [Int.toNat_natCast]; exact parts_at (show i < c.length by omega), nthL a i, nthL c i, _, rfl, ⟨he _ (nthL_mem hi), rfl⟩, BIf.of (fun g => k1 g) fun g => ?_⟩⟩)
    rw [wrap_succ hi hb]; exact k2 g
  · rw [r19, partsR_len]
    exact BIf.f (by simp) k1
  · rw [any_neL hl] at h; simpa using h
  · rw [any_neL hl] at h; simpa using h
def wl19 {β : Type} : WLT β := fun t tm hp b K => ∃ (a c : List (List Int)) (z : Bool), t = .loop lp19 ∧ maskTm [0, 1, 5] 0 tm = tmCmp 21 [] (partsR a) (partsR c) 0 ∧ hp = [] ∧ ((a.length = c.length ∧ a.length ≤ 9223372036854775807 ∧ ∀ p ∈ a, p.length ≤ 9223372036854775807) ∧ z = decide (a = c)) ∧
  BIf z (∀ i : Int, K (.exit 0) (tmCmp 21 [] (partsR a) (partsR c) i) [] b) (∀ i : Int, K .ret ((tmCmp 21 [] (partsR a) (partsR c) i).set 4 (.d (bo false))) [] b)
theorem wl19_ok {Ev : Env Tryd.prog} (c : Code) (tm : List AV) (hp : List Blk) (b : Ev.β) (K : Exit → List AV → List Blk → Ev.β → Prop) (h : wl19 c tm hp b K) : W Ev c ⟨tm, hp, b⟩ (fun e s => K e s.tm s.hp s.b) := by
  obtain ⟨a, d, z, rfl, htm, rfl, ⟨⟨hl, hb, he⟩, hz⟩, hK⟩ := h
  refine W.cast (htm ▸ maskTm_le _ tm 0) (LeH.refl _) ?_
  exact W.rounds (wr19 (Q := fun e s => K e s.tm s.hp s.b) a d hl hb he (fun h => by rw [hz, decide_eq_true h] at hK; exact hK) fun h => by rw [hz, decide_eq_false h] at hK; exact hK)
section
variable {β : Type} (wl : WLT β) (y : YieldT β) (b : β) (R : AV → β → Prop)
theorem f19_nf (a c : List (List Dv)) : wpFn Tryd.prog ⟨T19, [], wl19, y, false⟩ 100 Tryd.f19 [.d (.sl 1 a), .d (.sl 1 c)] b R = ( BIf (((List.length a : Nat) : Int) != ((List.length c : Nat) : Int)) (R (AV.d (bo false)) b) (∃ (a0 : List (List Int)), ∃ (c1 : List (List Int)), ∃ (z2 : Bool), Code.loop lp19 = Code.loop lp19 ∧ [AV.d (Dv.sl 1 a), AV.d (Dv.sl 1 c), AV.bad, AV.bad, AV.bad, AV.d (i64 (0 : Int)), AV.bad, AV.bad, AV.bad, AV.bad, AV.bad, AV.bad, AV.bad, AV.bad, AV.bad, AV.bad, AV.bad, AV.bad, AV.bad, AV.bad, AV.bad, AV.bad, AV.bad, AV.bad, AV.bad, AV.bad, AV.bad] = [AV.d (Dv.sl 1 (partsR a0)), AV.d (Dv.sl 1 (partsR c1)), AV.bad, AV.bad, AV.bad, AV.d (i64 (0 : Int)), AV.bad, AV.bad, AV.bad, AV.bad, AV.bad, AV.bad, AV.bad, AV.bad, AV.bad, AV.bad, AV.bad, AV.bad, AV.bad, AV.bad, AV.bad, AV.bad, AV.bad, AV.bad, AV.bad, AV.bad, AV.bad] ∧ ([] : List Blk) = [] ∧ ((List.length a0 = List.length c1 ∧ List.length a0 ≤ 9223372036854775807 ∧ ∀ (p : List Int), p ∈ a0 → List.length p ≤ 9223372036854775807) ∧ z2 = decide (a0 = c1)) ∧ BIf z2 (∀ (i : Int), R (AV.d (bo true)) b) (∀ (i : Int), R (AV.d (bo false)) b))) := by kernel_rfl
end
theorem pcLists (a c : List (List Int)) (ha : a.length ≤ 9223372036854775807) (he : ∀ p ∈ a, p.length ≤ 9223372036854775807) : PCall Tryd.prog 19 [.d (.sl 1 (partsR a)), .d (.sl 1 (partsR c))] (.d (bo (decide (a = c)))) := by
  refine PCall.ofFnW (n := 100) (u := false) (fun _ => wl19) mixed T19_ok SCallsOk.nil (fun Ev => wl19_ok) Tryd.func19 (by rfl) (by rfl) fun Ev bb => ?_
  rw [f19_nf, partsR_len, partsR_len]
  refine BIf.of (fun g => ?_) fun g => ⟨a, c, _, rfl, rfl, rfl, ⟨⟨by simp at g; omega, ha, he⟩, rfl⟩, BIf.of (fun h i => by rw [h]) fun h i => by rw [h]⟩
  rw [decide_eq_false fun h => by rw [h] at g; simp at g]
def cLists (args : List AV) (K : AV → Prop) : Prop := ∃ (a c : List (List Int)) (z : Bool), args = [.d (.sl 1 (partsR a)), .d (.sl 1 (partsR c))] ∧ ((a.length ≤ 9223372036854775807 ∧ ∀ p ∈ a, p.length ≤ 9223372036854775807) ∧ z = decide (a = c)) ∧ K (.d (bo z))
theorem cLists_ok : ∀ args K, cLists args K → ∃ x, PCall Tryd.prog 19 args x ∧ K x := by
  rintro _ K ⟨a, c, _, rfl, ⟨⟨hl, he⟩, rfl⟩, h⟩; exact ⟨_, pcLists a c hl he, h⟩
def T52 : List (Nat × (List AV → (AV → Prop) → Prop)) := [(28, cTSame)]
theorem T52_ok : CallsOk Tryd.prog T52 := CallsOk.cons cTSame_ok CallsOk.nil
section
variable {β : Type} (wl : WLT β) (y : YieldT β) (b : β) (K : Exit → List AV → List Blk → β → Prop)
theorem r52 (a c : List (List Dv)) (i : Int) : wpc Tryd.prog ⟨T52, [], wl, y, false⟩ 100 lp52 (tmCmp 21 [] a c i) [] b (maskT [0, 1, 4, 5] K) = ( BIf (decide (i < ((List.length a : Nat) : Int))) (BIf (true && decide ((0 : Int) ≤ i)) (∃ (xs0 : List (List Dv)), a[Int.toNat i]? = some [Dv.sl 1 xs0] ∧ BIf (true && decide ((0 : Int) ≤ i)) (∃ (xs3 : List (List Dv)), c[Int.toNat i]? = some [Dv.sl 1 xs3] ∧ ∃ (a6 : List Int), ∃ (c7 : List Int), ∃ (z8 : Bool), [AV.d (Dv.sl 1 xs0), AV.d (Dv.sl 1 xs3)] = [AV.d (Dv.sl 1 (digR a6)), AV.d (Dv.sl 1 (digR c7))] ∧ (List.length a6 ≤ 9223372036854775807 ∧ z8 = decide (a6 = c7)) ∧ BIf (!z8) (K Exit.ret [AV.d (Dv.sl 1 a), AV.d (Dv.sl 1 c), AV.bad, AV.bad, AV.d (bo false), AV.d (i64 i), AV.bad, AV.bad, AV.bad, AV.bad, AV.bad, AV.bad, AV.bad, AV.bad, AV.bad, AV.bad, AV.bad, AV.bad, AV.bad, AV.bad, AV.bad, AV.bad, AV.bad, AV.bad, AV.bad, AV.bad, AV.bad] [] b) (K Exit.normal [AV.d (Dv.sl 1 a), AV.d (Dv.sl 1 c), AV.bad, AV.bad, AV.bad, AV.d (i64 (IntKind.wrap IntKind.i64 (i + (1 : Int)))), AV.bad, AV.bad, AV.bad, AV.bad, AV.bad, AV.bad, AV.bad, AV.bad, AV.bad, AV.bad, AV.bad, AV.bad, AV.bad, AV.bad, AV.bad, AV.bad, AV.bad, AV.bad, AV.bad, AV.bad, AV.bad] [] b)) False) False) (K (Exit.exit 0) [AV.d (Dv.sl 1 a), AV.d (Dv.sl 1 c), AV.bad, AV.bad, AV.bad, AV.d (i64 i), AV.bad, AV.bad, AV.bad, AV.bad, AV.bad, AV.bad, AV.bad, AV.bad, AV.bad, AV.bad, AV.bad, AV.bad, AV.bad, AV.bad, AV.bad, AV.bad, AV.bad, AV.bad, AV.bad, AV.bad, AV.bad] [] b)) := by kernel_rfl
end
theorem wr52 {Ev : Env Tryd.prog} {b : Ev.β} {Q : Exit → St Ev.β → Prop} (a c : List (List Int)) (hl : a.length = c.length) (hb : a.length ≤ 9223372036854775807) (he : ∀ p ∈ a, p.length ≤ 9223372036854775807) (h1 : a = c → ∀ i : Int, Q (.exit 0) ⟨tmCmp 21 [] (proofsR a) (proofsR c) i, [], b⟩) (h2 : a ≠ c → ∀ i : Int, Q .ret ⟨(tmCmp 21 [] (proofsR a) (proofsR c) i).set 4 (.d (bo false)), [], b⟩) :
    WR Ev lp52 (a.length + 1) ⟨tmCmp 21 [] (proofsR a) (proofsR c) (0 : Nat), [], b⟩ Q := by
  refine WR.scan (X := ⟨T52, [], wlW Ev, Ev.Y, false⟩) (k := 100) [0, 1, 4, 5] mixed (CX.Ok.of T52_ok SCallsOk.nil) a.length (fun i => !decide (nthL a i = nthL c i)) (fun i => tmCmp 21 [] (proofsR a) (proofsR c) (i : Nat)) (fun i => (tmCmp 21 [] (proofsR a) (proofsR c) (i : Nat)).set 4 (.d (bo false))) [] 0 (fun i hi K k1 k2 => ?_) (fun K k1 => ?_) (fun h => h1 ?_ _) fun h i => h2 ?_ _
  · rw [r52, proofs_len]
    refine BIf.t (by simp <;> omega) (BIf.t (by simp) ⟨_, by rw [Int.toNat_natCast]; exact proofs_at hi, BIf.t (by simp) ⟨_, by rw [Int.toNat_natCast]; exact proofs_at (show i < c.length by omega), nthL a i, nthL c i, _, rfl, ⟨he _ (nthL_mem hi), rfl⟩, BIf.of (fun g => k1 g) fun g => ?_⟩⟩)
    rw [wrap_succ hi hb]; exact k2 g
  · rw [r52, proofs_len]
    exact BIf.f (by simp) k1
  · rw [any_neL hl] at h; simpa using h
  · rw [any_neL hl] at h; simpa using h
def wl52 {β : Type} : WLT β := fun t tm hp b K => ∃ (a c : List (List Int)) (z : Bool), t = .loop lp52 ∧ maskTm [0, 1, 5] 0 tm = tmCmp 21 [] (proofsR a) (proofsR c) 0 ∧ hp = [] ∧ ((a.length = c.length ∧ a.length ≤ 9223372036854775807 ∧ ∀ p ∈ a, p.length ≤ 9223372036854775807) ∧ z = decide (a = c)) ∧
  BIf z (∀ i : Int, K (.exit 0) (tmCmp 21 [] (proofsR a) (proofsR c) i) [] b) (∀ i : Int, K .ret ((tmCmp 21 [] (proofsR a) (proofsR c) i).set 4 (.d (bo false))) [] b)
theorem wl52_ok {Ev : Env Tryd.prog} (c : Code) (tm : List AV) (hp : List Blk) (b : Ev.β) (K : Exit → List AV → List Blk → Ev.β → Prop) (h : wl52 c tm hp b K) : W Ev c ⟨tm, hp, b⟩ (fun e s => K e s.tm s.hp s.b) := by
  obtain ⟨a, d, z, rfl, htm, rfl, ⟨⟨hl, hb, he⟩, hz⟩, hK⟩ := h
  refine W.cast (htm ▸ maskTm_le _ tm 0) (LeH.refl _) ?_
  exact W.rounds (wr52 (Q := fun e s => K e s.tm s.hp s.b) a d hl hb he (fun h => by rw [hz, decide_eq_true h] at hK; exact hK) fun h => by rw [hz, decide_eq_false h] at hK; exact hK)
section
variable {β : Type} (wl : WLT β) (y : YieldT β) (b : β) (R : AV → β → Prop)
theorem f52_nf (a c : List (List Dv)) : wpFn Tryd.prog ⟨T52, [], wl52, y, false⟩ 100 Tryd.f52 [.d (.sl 1 a), .d (.sl 1 c)] b R = ( BIf (((List.length a : Nat) : Int) != ((List.length c : Nat) : Int)) (R (AV.d (bo false)) b) (∃ (a0 : List (List Int)), ∃ (c1 : List (List Int)), ∃ (z2 : Bool), Code.loop lp52 = Code.loop lp52 ∧ [AV.d (Dv.sl 1 a), AV.d (Dv.sl 1 c), AV.bad, AV.bad, AV.bad, AV.d (i64 (0 : Int)), AV.bad, AV.bad, AV.bad, AV.bad, AV.bad, AV.bad, AV.bad, AV.bad, AV.bad, AV.bad, AV.bad, AV.bad, AV.bad, AV.bad, AV.bad, AV.bad, AV.bad, AV.bad, AV.bad, AV.bad, AV.bad] = [AV.d (Dv.sl 1 (proofsR a0)), AV.d (Dv.sl 1 (proofsR c1)), AV.bad, AV.bad, AV.bad, AV.d (i64 (0 : Int)), AV.bad, AV.bad, AV.bad, AV.bad, AV.bad, AV.bad, AV.bad, AV.bad, AV.bad, AV.bad, AV.bad, AV.bad, AV.bad, AV.bad, AV.bad, AV.bad, AV.bad, AV.bad, AV.bad, AV.bad, AV.bad] ∧ ([] : List Blk) = [] ∧ ((List.length a0 = List.length c1 ∧ List.length a0 ≤ 9223372036854775807 ∧ ∀ (p : List Int), p ∈ a0 → List.length p ≤ 9223372036854775807) ∧ z2 = decide (a0 = c1)) ∧ BIf z2 (∀ (i : Int), R (AV.d (bo true)) b) (∀ (i : Int), R (AV.d (bo false)) b))) := by kernel_rfl
end
theorem pcRProofs (a c : List (List Int)) (ha : a.length ≤ 9223372036854775807) (he : ∀ p ∈ a, p.length ≤ 9223372036854775807) : PCall Tryd.prog 52 [.d (.sl 1 (proofsR a)), .d (.sl 1 (proofsR c))] (.d (bo (decide (a = c)))) := by
  refine PCall.ofFnW (n := 100) (u := false) (fun _ => wl52) mixed T52_ok SCallsOk.nil (fun Ev => wl52_ok) Tryd.func52 (by rfl) (by rfl) fun Ev bb => ?_
  rw [f52_nf, proofs_len, proofs_len]
  refine BIf.of (fun g => ?_) fun g => ⟨a, c, _, rfl, rfl, rfl, ⟨⟨by simp at g; omega, ha, he⟩, rfl⟩, BIf.of (fun h i => by rw [h]) fun h i => by rw [h]⟩
  rw [decide_eq_false fun h => by rw [h] at g; simp at g]
def cRProofs (args : List AV) (K : AV → Prop) : Prop := ∃ (a c : List (List Int)) (z : Bool), args = [.d (.sl 1 (proofsR a)), .d (.sl 1 (proofsR c))] ∧ ((a.length ≤ 9223372036854775807 ∧ ∀ p ∈ a, p.length ≤ 9223372036854775807) ∧ z = decide (a = c)) ∧ K (.d (bo z))
theorem cRProofs_ok : ∀ args K, cRProofs args K → ∃ x, PCall Tryd.prog 52 args x ∧ K x := by
  rintro _ K ⟨a, c, _, rfl, ⟨⟨hl, he⟩, rfl⟩, h⟩; exact ⟨_, pcRProofs a c hl he, h⟩
end Go.Proofs.YtfeemohdpmdaoaaDoor.Am

namespace Go.Proofs.YtfeemohdpmdaoaaDoor.Am
set_option linter.unusedVariables false
open Go Go.RowKit Go.Proofs

/-! ### the reference's Length, Check -/
def wlTm {β : Type} : WLT β := fun c tm hp b K => ∃ (w k : Nat) (z : Nat), c = .loop lpTm ∧ maskTm [0, 1, 5] 0 tm = tmTm w k 0 ∧ hp = [] ∧ ((w < 1000000 ∧ k < 1000000) ∧ z = lenW w w k) ∧ ∀ w' k' : Int, K (.exit 0) (tmTm w' k' z) [] b
theorem wlTm_ok {Ev : Env Tryd.prog} (c : Code) (tm : List AV) (hp : List Blk) (b : Ev.β) (K : Exit → List AV → List Blk → Ev.β → Prop) (h : wlTm c tm hp b K) : W Ev c ⟨tm, hp, b⟩ (fun e s => K e s.tm s.hp s.b) := by
  obtain ⟨w, k, z, rfl, htm, rfl, ⟨⟨hw, hk⟩, rfl⟩, hK⟩ := h
  refine W.cast (htm ▸ maskTm_le _ tm 0) (LeH.refl _) ?_
  exact W.rounds (wrTm (Q := fun e s => K e s.tm s.hp s.b) w w k 0 (by omega) hw hk (by omega) (by simpa using hK))
noncomputable def lp51 : Code := sub [1, 1, 1, 1, 0, 2, 3] (code Tryd.f51)
def tm51 (r w k : Int) (q : List (List Dv)) (acc u : Int) : List AV := [.d (u64 r), .d (i64 w), .d (i64 k), .bad, .d (.sl 1 q), .bad, .bad, .bad, .bad, .bad, .bad, .d (u64 acc), .d (i64 u)] ++ List.replicate 70 .bad
def T51 : List (Nat × (List AV → (AV → Prop) → Prop)) := [(73, cTOther), (74, cRPair)]
theorem T51_ok : CallsOk Tryd.prog T51 := CallsOk.cons cTOther_ok (CallsOk.cons cRPair_ok CallsOk.nil)
section
variable {β : Type} (wl : WLT β) (y : YieldT β) (b : β) (R : AV → β → Prop) (K : Exit → List AV → List Blk → β → Prop)
theorem length_nf (w k : Nat) : wpFn Tryd.prog ⟨TTm, [], wlTm, y, false⟩ 100 Tryd.f72 [.d (i64 w), .d (i64 k)] b R = ( ∃ (w0 : Nat), ∃ (k1 : Nat), ∃ (z2 : Nat), Code.loop lpTm = Code.loop lpTm ∧ [AV.d (i64 (w : Int)), AV.d (i64 (k : Int)), AV.bad, AV.bad, AV.bad, AV.d (i64 (0 : Int)), AV.bad, AV.bad, AV.bad, AV.bad, AV.bad, AV.bad, AV.bad, AV.bad, AV.bad, AV.bad, AV.bad, AV.bad, AV.bad, AV.bad] = [AV.d (i64 (w0 : Int)), AV.d (i64 (k1 : Int)), AV.bad, AV.bad, AV.bad, AV.d (i64 (0 : Int)), AV.bad, AV.bad, AV.bad, AV.bad, AV.bad, AV.bad, AV.bad, AV.bad, AV.bad, AV.bad, AV.bad, AV.bad, AV.bad, AV.bad] ∧ ([] : List Blk) = [] ∧ ((w0 < 1000000 ∧ k1 < 1000000) ∧ z2 = lenW w0 w0 k1) ∧ ∀ (w' k' : Int), R (AV.d (i64 (z2 : Int))) b) := by kernel_rfl
theorem r51 (r w k : Int) (q : List (List Dv)) (acc u : Int) : wpc Tryd.prog ⟨T51, [], wl, y, false⟩ 100 lp51 (tm51 r w k q acc u) [] b (maskT [0, 1, 2, 4, 11, 12] K) = ( BIf (decide (w > (1 : Int))) (∃ (k0 : Nat), ∃ (w1 : Nat), ∃ (z2 : Int), [AV.d (i64 k), AV.d (i64 w)] = [AV.d (i64 (k0 : Int)), AV.d (i64 (w1 : Int))] ∧ (k0 < 1000000 ∧ z2 = otherS k0 w1) ∧ BIf (decide (z2 > k)) (BIf (true && decide ((0 : Int) ≤ u)) (∃ (x3 : Int), q[Int.toNat u]? = some [u64 x3] ∧ ∃ (a6 : Int), ∃ (c7 : Int), ∃ (z8 : Int), [AV.d (u64 acc), AV.d (u64 x3)] = [AV.d (u64 a6), AV.d (u64 c7)] ∧ z8 = pairS a6 c7 ∧ BIf (decide (z2 ≥ (0 : Int))) (BIf (decide (z2 < k)) (BIf (true && decide ((0 : Int) ≤ u)) (∃ (x9 : Int), q[Int.toNat u]? = some [u64 x9] ∧ ∃ (a12 : Int), ∃ (c13 : Int), ∃ (z14 : Int), [AV.d (u64 x9), AV.d (u64 z8)] = [AV.d (u64 a12), AV.d (u64 c13)] ∧ z14 = pairS a12 c13 ∧ BIf (decide (z2 ≥ (0 : Int))) (K Exit.normal [AV.d (u64 r), AV.d (i64 (IntKind.wrap IntKind.i64 (Int.tdiv (IntKind.wrap IntKind.i64 (w + (1 : Int))) (2 : Int)))), AV.d (i64 (IntKind.wrap IntKind.i64 (Int.tdiv k (2 : Int)))), AV.bad, AV.d (Dv.sl 1 q), AV.bad, AV.bad, AV.bad, AV.bad, AV.bad, AV.bad, AV.d (u64 z14), AV.d (i64 (IntKind.wrap IntKind.i64 (u + (1 : Int)))), AV.bad, AV.bad, AV.bad, AV.bad, AV.bad, AV.bad, AV.bad, AV.bad, AV.bad, AV.bad, AV.bad, AV.bad, AV.bad, AV.bad, AV.bad, AV.bad, AV.bad, AV.bad, AV.bad, AV.bad, AV.bad, AV.bad, AV.bad, AV.bad, AV.bad, AV.bad, AV.bad, AV.bad, AV.bad, AV.bad, AV.bad, AV.bad, AV.bad, AV.bad, AV.bad, AV.bad, AV.bad, AV.bad, AV.bad, AV.bad, AV.bad, AV.bad, AV.bad, AV.bad, AV.bad, AV.bad, AV.bad, AV.bad, AV.bad, AV.bad, AV.bad, AV.bad, AV.bad, AV.bad, AV.bad, AV.bad, AV.bad, AV.bad, AV.bad, AV.bad, AV.bad, AV.bad, AV.bad, AV.bad, AV.bad, AV.bad, AV.bad, AV.bad, AV.bad, AV.bad] [] b) (K Exit.normal [AV.d (u64 r), AV.d (i64 (IntKind.wrap IntKind.i64 (Int.tdiv (IntKind.wrap IntKind.i64 (w + (1 : Int))) (2 : Int)))), AV.d (i64 (IntKind.wrap IntKind.i64 (Int.tdiv k (2 : Int)))), AV.bad, AV.d (Dv.sl 1 q), AV.bad, AV.bad, AV.bad, AV.bad, AV.bad, AV.bad, AV.d (u64 z14), AV.d (i64 u), AV.bad, AV.bad, AV.bad, AV.bad, AV.bad, AV.bad, AV.bad, AV.bad, AV.bad, AV.bad, AV.bad, AV.bad, AV.bad, AV.bad, AV.bad, AV.bad, AV.bad, AV.bad, AV.bad, AV.bad, AV.bad, AV.bad, AV.bad, AV.bad, AV.bad, AV.bad, AV.bad, AV.bad, AV.bad, AV.bad, AV.bad, AV.bad, AV.bad, AV.bad, AV.bad, AV.bad, AV.bad, AV.bad, AV.bad, AV.bad, AV.bad, AV.bad, AV.bad, AV.bad, AV.bad, AV.bad, AV.bad, AV.bad, AV.bad, AV.bad, AV.bad, AV.bad, AV.bad, AV.bad, AV.bad, AV.bad, AV.bad, AV.bad, AV.bad, AV.bad, AV.bad, AV.bad, AV.bad, AV.bad, AV.bad, AV.bad, AV.bad, AV.bad, AV.bad, AV.bad] [] b)) False) (BIf (decide (z2 ≥ (0 : Int))) (K Exit.normal [AV.d (u64 r), AV.d (i64 (IntKind.wrap IntKind.i64 (Int.tdiv (IntKind.wrap IntKind.i64 (w + (1 : Int))) (2 : Int)))), AV.d (i64 (IntKind.wrap IntKind.i64 (Int.tdiv k (2 : Int)))), AV.bad, AV.d (Dv.sl 1 q), AV.bad, AV.bad, AV.bad, AV.bad, AV.bad, AV.bad, AV.d (u64 z8), AV.d (i64 (IntKind.wrap IntKind.i64 (u + (1 : Int)))), AV.bad, AV.bad, AV.bad, AV.bad, AV.bad, AV.bad, AV.bad, AV.bad, AV.bad, AV.bad, AV.bad, AV.bad, AV.bad, AV.bad, AV.bad, AV.bad, AV.bad, AV.bad, AV.bad, AV.bad, AV.bad, AV.bad, AV.bad, AV.bad, AV.bad, AV.bad, AV.bad, AV.bad, AV.bad, AV.bad, AV.bad, AV.bad, AV.bad, AV.bad, AV.bad, AV.bad, AV.bad, AV.bad, AV.bad, AV.bad, AV.bad, AV.bad, AV.bad, AV.bad, AV.bad, AV.bad, AV.bad, AV.bad, AV.bad, AV.bad, AV.bad, AV.bad, AV.bad, AV.bad, AV.bad, AV.bad, AV.bad, AV.bad, AV.bad, AV.bad, AV.bad, AV.bad, AV.bad, AV.bad, AV.bad, AV.bad, AV.bad, AV.bad, AV.bad, AV.bad] [] b) (K Exit.normal [AV.d (u64 r), AV.d (i64 (IntKind.wrap IntKind.i64 (Int.tdiv (IntKind.wrap IntKind.i64 (w + (1 : Int))) (2 : Int)))), AV.d (i64 (IntKind.wrap IntKind.i64 (Int.tdiv k (2 : Int)))), AV.bad, AV.d (Dv.sl 1 q), AV.bad, AV.bad, AV.bad, AV.bad, AV.bad, AV.bad, AV.d (u64 z8), AV.d (i64 u), AV.bad, AV.bad, AV.bad, AV.bad, AV.bad, AV.bad, AV.bad, AV.bad, AV.bad, AV.bad, AV.bad, AV.bad, AV.bad, AV.bad, AV.bad, AV.bad, AV.bad, AV.bad, AV.bad, AV.bad, AV.bad, AV.bad, AV.bad, AV.bad, AV.bad, AV.bad, AV.bad, AV.bad, AV.bad, AV.bad, AV.bad, AV.bad, AV.bad, AV.bad, AV.bad, AV.bad, AV.bad, AV.bad, AV.bad, AV.bad, AV.bad, AV.bad, AV.bad, AV.bad, AV.bad, AV.bad, AV.bad, AV.bad, AV.bad, AV.bad, AV.bad, AV.bad, AV.bad, AV.bad, AV.bad, AV.bad, AV.bad, AV.bad, AV.bad, AV.bad, AV.bad, AV.bad, AV.bad, AV.bad, AV.bad, AV.bad, AV.bad, AV.bad, AV.bad, AV.bad] [] b))) (BIf (decide (z2 ≥ (0 : Int))) (K Exit.normal [AV.d (u64 r), AV.d (i64 (IntKind.wrap IntKind.i64 (Int.tdiv (IntKind.wrap IntKind.i64 (w + (1 : Int))) (2 : Int)))), AV.d (i64 (IntKind.wrap IntKind.i64 (Int.tdiv k (2 : Int)))), AV.bad, AV.d (Dv.sl 1 q), AV.bad, AV.bad, AV.bad, AV.bad, AV.bad, AV.bad, AV.d (u64 z8), AV.d (i64 (IntKind.wrap IntKind.i64 (u + (1 : Int)))), AV.bad, AV.bad, AV.bad, AV.bad, AV.bad, AV.bad, AV.bad, AV.bad, AV.bad, AV.bad, AV.bad, AV.bad, AV.bad, AV.bad, AV.bad, AV.bad, AV.bad, AV.bad, AV.bad, AV.bad, AV.bad, AV.bad, AV.bad, AV.bad, AV.bad, AV.bad, AV.bad, AV.bad, AV.bad, AV.bad, AV.bad, AV.bad, AV.bad, AV.bad, AV.bad, AV.bad, AV.bad, AV.bad, AV.bad, AV.bad, AV.bad, AV.bad, AV.bad, AV.bad, AV.bad, AV.bad, AV.bad, AV.bad, AV.bad, AV.bad, AV.bad, AV.bad, AV.bad, AV.bad, AV.bad, AV.bad, AV.bad, AV.bad, AV.bad, AV.bad, AV.bad, AV.bad, AV.bad, AV.bad, AV.bad, AV.bad, AV.bad, AV.bad, AV.bad, AV.bad] [] b) (K Exit.normal [AV.d (u64 r), AV.d (i64 (IntKind.wrap IntKind.i64 (Int.tdiv (IntKind.wrap IntKind.i64 (w + (1 : Int))) (2 : Int)))), AV.d (i64 (IntKind.wrap IntKind.i64 (Int.tdiv k (2 : Int)))), AV.bad, AV.d (Dv.sl 1 q), AV.bad, AV.bad, AV.bad, AV.bad, AV.bad, AV.bad, AV.d (u64 z8), AV.d (i64 u), AV.bad, AV.bad, AV.bad, AV.bad, AV.bad, AV.bad, AV.bad, AV.bad, AV.bad, AV.bad, AV.bad, AV.bad, AV.bad, AV.bad, AV.bad, AV.bad, AV.bad, AV.bad, AV.bad, AV.bad, AV.bad, AV.bad, AV.bad, AV.bad, AV.bad, AV.bad, AV.bad, AV.bad, AV.bad, AV.bad, AV.bad, AV.bad, AV.bad, AV.bad, AV.bad, AV.bad, AV.bad, AV.bad, AV.bad, AV.bad, AV.bad, AV.bad, AV.bad, AV.bad, AV.bad, AV.bad, AV.bad, AV.bad, AV.bad, AV.bad, AV.bad, AV.bad, AV.bad, AV.bad, AV.bad, AV.bad, AV.bad, AV.bad, AV.bad, AV.bad, AV.bad, AV.bad, AV.bad, AV.bad, AV.bad, AV.bad, AV.bad, AV.bad, AV.bad, AV.bad] [] b))) False) (BIf (decide (z2 ≥ (0 : Int))) (BIf (decide (z2 < k)) (BIf (true && decide ((0 : Int) ≤ u)) (∃ (x15 : Int), q[Int.toNat u]? = some [u64 x15] ∧ ∃ (a18 : Int), ∃ (c19 : Int), ∃ (z20 : Int), [AV.d (u64 x15), AV.d (u64 acc)] = [AV.d (u64 a18), AV.d (u64 c19)] ∧ z20 = pairS a18 c19 ∧ BIf (decide (z2 ≥ (0 : Int))) (K Exit.normal [AV.d (u64 r), AV.d (i64 (IntKind.wrap IntKind.i64 (Int.tdiv (IntKind.wrap IntKind.i64 (w + (1 : Int))) (2 : Int)))), AV.d (i64 (IntKind.wrap IntKind.i64 (Int.tdiv k (2 : Int)))), AV.bad, AV.d (Dv.sl 1 q), AV.bad, AV.bad, AV.bad, AV.bad, AV.bad, AV.bad, AV.d (u64 z20), AV.d (i64 (IntKind.wrap IntKind.i64 (u + (1 : Int)))), AV.bad, AV.bad, AV.bad, AV.bad, AV.bad, AV.bad, AV.bad, AV.bad, AV.bad, AV.bad, AV.bad, AV.bad, AV.bad, AV.bad, AV.bad, AV.bad, AV.bad, AV.bad, AV.bad, AV.bad, AV.bad, AV.bad, AV.bad, AV.bad, AV.bad, AV.bad, AV.bad, AV.bad, AV.bad, AV.bad, AV.bad, AV.bad, AV.bad, AV.bad, AV.bad, AV.bad, AV.bad, AV.bad, AV.bad, AV.bad, AV.bad, AV.bad, AV.bad, AV.bad, AV.bad, AV.bad, AV.bad, AV.bad, AV.bad, AV.bad, AV.bad, AV.bad, AV.bad, AV.bad, AV.bad, AV.bad, AV.bad, AV.bad, AV.bad, AV.bad, AV.bad, AV.bad, AV.bad, AV.bad, AV.bad, AV.bad, AV.bad, AV.bad, AV.bad, AV.bad] [] b) (K Exit.normal [AV.d (u64 r), AV.d (i64 (IntKind.wrap IntKind.i64 (Int.tdiv (IntKind.wrap IntKind.i64 (w + (1 : Int))) (2 : Int)))), AV.d (i64 (IntKind.wrap IntKind.i64 (Int.tdiv k (2 : Int)))), AV.bad, AV.d (Dv.sl 1 q), AV.bad, AV.bad, AV.bad, AV.bad, AV.bad, AV.bad, AV.d (u64 z20), AV.d (i64 u), AV.bad, AV.bad, AV.bad, AV.bad, AV.bad, AV.bad, AV.bad, AV.bad, AV.bad, AV.bad, AV.bad, AV.bad, AV.bad, AV.bad, AV.bad, AV.bad, AV.bad, AV.bad, AV.bad, AV.bad, AV.bad, AV.bad, AV.bad, AV.bad, AV.bad, AV.bad, AV.bad, AV.bad, AV.bad, AV.bad, AV.bad, AV.bad, AV.bad, AV.bad, AV.bad, AV.bad, AV.bad, AV.bad, AV.bad, AV.bad, AV.bad, AV.bad, AV.bad, AV.bad, AV.bad, AV.bad, AV.bad, AV.bad, AV.bad, AV.bad, AV.bad, AV.bad, AV.bad, AV.bad, AV.bad, AV.bad, AV.bad, AV.bad, AV.bad, AV.bad, AV.bad, AV.bad, AV.bad, AV.bad, AV.bad, AV.bad, AV.bad, AV.bad, AV.bad, AV.bad] [] b)) False) (BIf (decide (z2 ≥ (0 : Int))) (K Exit.normal [AV.d (u64 r), AV.d (i64 (IntKind.wrap IntKind.i64 (Int.tdiv (IntKind.wrap IntKind.i64 (w + (1 : Int))) (2 : Int)))), AV.d (i64 (IntKind.wrap IntKind.i64 (Int.tdiv k (2 : Int)))), AV.bad, AV.d (Dv.sl 1 q), AV.bad, AV.bad, AV.bad, AV.bad, AV.bad, AV.bad, AV.d (u64 acc), AV.d (i64 (IntKind.wrap IntKind.i64 (u + (1 : Int)))), AV.bad, AV.bad, AV.bad, AV.bad, AV.bad, AV.bad, AV.bad, AV.bad, AV.bad, AV.bad, AV.bad, AV.bad, AV.bad, AV.bad, AV.bad, AV.bad, AV.bad, AV.bad, AV.bad, AV.bad, AV.bad, AV.bad, AV.bad, AV.bad, AV.bad, AV.bad, AV.bad, AV.bad, AV.bad, AV.bad, AV.bad, AV.bad, AV.bad, AV.bad, AV.bad, AV.bad, AV.bad, AV.bad, AV.bad, AV.bad, AV.bad, AV.bad, AV.bad, AV.bad, AV.bad, AV.bad, AV.bad, AV.bad, AV.bad, AV.bad, AV.bad, AV.bad, AV.bad, AV.bad, AV.bad, AV.bad, AV.bad, AV.bad, AV.bad, AV.bad, AV.bad, AV.bad, AV.bad, AV.bad, AV.bad, AV.bad, AV.bad, AV.bad, AV.bad, AV.bad] [] b) (K Exit.normal [AV.d (u64 r), AV.d (i64 (IntKind.wrap IntKind.i64 (Int.tdiv (IntKind.wrap IntKind.i64 (w + (1 : Int))) (2 : Int)))), AV.d (i64 (IntKind.wrap IntKind.i64 (Int.tdiv k (2 : Int)))), AV.bad, AV.d (Dv.sl 1 q), AV.bad, AV.bad, AV.bad, AV.bad, AV.bad, AV.bad, AV.d (u64 acc), AV.d (i64 u), AV.bad, AV.bad, AV.bad, AV.bad, AV.bad, AV.bad, AV.bad, AV.bad, AV.bad, AV.bad, AV.bad, AV.bad, AV.bad, AV.bad, AV.bad, AV.bad, AV.bad, AV.bad, AV.bad, AV.bad, AV.bad, AV.bad, AV.bad, AV.bad, AV.bad, AV.bad, AV.bad, AV.bad, AV.bad, AV.bad, AV.bad, AV.bad, AV.bad, AV.bad, AV.bad, AV.bad, AV.bad, AV.bad, AV.bad, AV.bad, AV.bad, AV.bad, AV.bad, AV.bad, AV.bad, AV.bad, AV.bad, AV.bad, AV.bad, AV.bad, AV.bad, AV.bad, AV.bad, AV.bad, AV.bad, AV.bad, AV.bad, AV.bad, AV.bad, AV.bad, AV.bad, AV.bad, AV.bad, AV.bad, AV.bad, AV.bad, AV.bad, AV.bad, AV.bad, AV.bad] [] b))) (BIf (decide (z2 ≥ (0 : Int))) (K Exit.normal [AV.d (u64 r), AV.d (i64 (IntKind.wrap IntKind.i64 (Int.tdiv (IntKind.wrap IntKind.i64 (w + (1 : Int))) (2 : Int)))), AV.d (i64 (IntKind.wrap IntKind.i64 (Int.tdiv k (2 : Int)))), AV.bad, AV.d (Dv.sl 1 q), AV.bad, AV.bad, AV.bad, AV.bad, AV.bad, AV.bad, AV.d (u64 acc), AV.d (i64 (IntKind.wrap IntKind.i64 (u + (1 : Int)))), AV.bad, AV.bad, AV.bad, AV.bad, AV.bad, AV.bad, AV.bad, AV.bad, AV.bad, AV.bad, AV.bad, AV.bad, AV.bad, AV.bad, AV.bad, AV.bad, AV.bad, AV.bad, AV.bad, AV.bad, AV.bad, AV.bad, AV.bad, AV.bad, AV.bad, AV.bad, AV.bad, AV.bad, AV.bad, AV.bad, AV.bad, AV.bad, AV.bad, AV.bad, AV.bad, AV.bad, AV.bad, AV.bad, AV.bad, AV.bad, AV.bad, AV.bad, AV.bad, AV.bad, AV.bad, AV.bad, AV.bad, AV.bad, AV.bad, AV.bad, AV.bad, AV.bad, AV.bad, AV.bad, AV.bad, AV.bad, AV.bad, AV.bad, AV.bad, AV.bad, AV.bad, AV.bad, AV.bad, AV.bad, AV.bad, AV.bad, AV.bad, AV.bad, AV.bad, AV.bad] [] b) (K Exit.normal [AV.d (u64 r), AV.d (i64 (IntKind.wrap IntKind.i64 (Int.tdiv (IntKind.wrap IntKind.i64 (w + (1 : Int))) (2 : Int)))), AV.d (i64 (IntKind.wrap IntKind.i64 (Int.tdiv k (2 : Int)))), AV.bad, AV.d (Dv.sl 1 q), AV.bad, AV.bad, AV.bad, AV.bad, AV.bad, AV.bad, AV.d (u64 acc), AV.d (i64 u), AV.bad, AV.bad, AV.bad, AV.bad, AV.bad, AV.bad, AV.bad, AV.bad, AV.bad, AV.bad, AV.bad, AV.bad, AV.bad, AV.bad, AV.bad, AV.bad, AV.bad, AV.bad, AV.bad, AV.bad, AV.bad, AV.bad, AV.bad, AV.bad, AV.bad, AV.bad, AV.bad, AV.bad, AV.bad, AV.bad, AV.bad, AV.bad, AV.bad, AV.bad, AV.bad, AV.bad, AV.bad, AV.bad, AV.bad, AV.bad, AV.bad, AV.bad, AV.bad, AV.bad, AV.bad, AV.bad, AV.bad, AV.bad, AV.bad, AV.bad, AV.bad, AV.bad, AV.bad, AV.bad, AV.bad, AV.bad, AV.bad, AV.bad, AV.bad, AV.bad, AV.bad, AV.bad, AV.bad, AV.bad, AV.bad, AV.bad, AV.bad, AV.bad, AV.bad, AV.bad] [] b)))) (K (Exit.exit 0) [AV.d (u64 r), AV.d (i64 w), AV.d (i64 k), AV.bad, AV.d (Dv.sl 1 q), AV.bad, AV.bad, AV.bad, AV.bad, AV.bad, AV.bad, AV.d (u64 acc), AV.d (i64 u), AV.bad, AV.bad, AV.bad, AV.bad, AV.bad, AV.bad, AV.bad, AV.bad, AV.bad, AV.bad, AV.bad, AV.bad, AV.bad, AV.bad, AV.bad, AV.bad, AV.bad, AV.bad, AV.bad, AV.bad, AV.bad, AV.bad, AV.bad, AV.bad, AV.bad, AV.bad, AV.bad, AV.bad, AV.bad, AV.bad, AV.bad, AV.bad, AV.bad, AV.bad, AV.bad, AV.bad, AV.bad, AV.bad, AV.bad, AV.bad, AV.bad, AV.bad, AV.bad, AV.bad, AV.bad, AV.bad, AV.bad, AV.bad, AV.bad, AV.bad, AV.bad, AV.bad, AV.bad, AV.bad, AV.bad, AV.bad, AV.bad, AV.bad, AV.bad, AV.bad, AV.bad, AV.bad, AV.bad, AV.bad, AV.bad, AV.bad, AV.bad, AV.bad, AV.bad, AV.bad] [] b)) := by kernel_rfl
end
end Go.Proofs.YtfeemohdpmdaoaaDoor.Am

namespace Go.Proofs.YtfeemohdpmdaoaaDoor.Am
set_option linter.unusedVariables false
open Go Go.RowKit Go.Proofs

theorem pcLength (w k : Nat) (hw : w < 1000000) (hk : k < 1000000) : PCall Tryd.prog 72 [.d (i64 w), .d (i64 k)] (.d (i64 (lenW w w k))) := by
  refine PCall.ofFnW (n := 100) (u := false) (fun _ => wlTm) mixed TTm_ok SCallsOk.nil (fun Ev => wlTm_ok) Tryd.func72 (by rfl) (by rfl) fun Ev bb => ?_
  rw [length_nf]
  exact ⟨w, k, _, rfl, rfl, rfl, ⟨⟨hw, hk⟩, rfl⟩, fun _ _ => rfl⟩
def cLength (args : List AV) (K : AV → Prop) : Prop := ∃ (w k z : Nat), args = [.d (i64 w), .d (i64 k)] ∧ ((w < 1000000 ∧ k < 1000000) ∧ z = lenW w w k) ∧ K (.d (i64 z))
theorem cLength_ok : ∀ args K, cLength args K → ∃ x, PCall Tryd.prog 72 args x ∧ K x := by
  rintro _ K ⟨w, k, _, rfl, ⟨⟨h1, h2⟩, rfl⟩, h⟩; exact ⟨_, pcLength w k h1 h2, h⟩
theorem half_w {w : Nat} (h : w < 1000000) : IntKind.wrap IntKind.i64 (Int.tdiv (IntKind.wrap IntKind.i64 ((w : Int) + 1)) 2) = (((w + 1) / 2 : Nat) : Int) := by
  rw [wrap_i64 (x := (w : Int) + 1) (by omega) (by omega), show Int.tdiv ((w : Int) + 1) 2 = (((w + 1) / 2 : Nat) : Int) from rfl, wrap_i64 (by omega) (by omega)]
theorem half_k {k : Nat} (h : k < 1000000) : IntKind.wrap IntKind.i64 (Int.tdiv (k : Int) 2) = ((k / 2 : Nat) : Int) := by
  rw [show Int.tdiv (k : Int) 2 = ((k / 2 : Nat) : Int) from rfl, wrap_i64 (by omega) (by omega)]
theorem wr51 {Ev : Env Tryd.prog} {b : Ev.β} {Q : Exit → St Ev.β → Prop} (r : Int) (q : List Int) (hq : q.length ≤ 1000000) : ∀ (n w k u : Nat) (acc : Int) (rest : List Int), q.drop u = rest → rest.length = lenW n w k → w ≤ n + 1 → w < 1000000 → k < 1000000 →
    (∀ (w' k' u' : Int) (z : Int), checkF (walkP n w k) rest acc = some ([], z) → Q (.exit 0) ⟨tm51 r w' k' (digR q) z u', [], b⟩) → WR Ev lp51 (n + 1) ⟨tm51 r w k (digR q) acc u, [], b⟩ Q
  | 0, w, k, u, acc, rest, hd, hlen, hn, hw, hk, h => by
    refine WR.ofMaskT [0, 1, 2, 4, 11, 12] mixed (CX.Ok.of (u := false) T51_ok SCallsOk.nil) (k := 100) ?_
    rw [r51]
    have hr : rest = [] := List.length_eq_zero_iff.1 (by rw [hlen]; rfl)
    exact BIf.f (by simp <;> omega) (h _ _ _ _ (by rw [hr]; rfl))
  | n + 1, w, k, u, acc, rest, hd, hlen, hn, hw, hk, h => by
    refine WR.ofMaskT [0, 1, 2, 4, 11, 12] mixed (CX.Ok.of (u := false) T51_ok SCallsOk.nil) (k := 100) ?_
    rw [r51]
    by_cases h1 : 1 < w
    · rw [lenW, if_pos h1] at hlen
      rw [walkP, if_pos h1] at h
      refine BIf.t (by simp <;> omega) ⟨k, w, _, rfl, ⟨hk, rfl⟩, ?_⟩
      rw [half_w hw, half_k hk]
      by_cases h2 : sibN k < w
      · rw [if_pos h2] at hlen
        rw [decide_eq_true h2] at h
        have ho : otherS k w = (sibN k : Int) := by rw [otherS, if_neg (by omega)]
        obtain ⟨x, rest', rfl⟩ : ∃ x rest', rest = x :: rest' := by
          cases rest with
          | nil => simp at hlen; omega
          | cons x l => exact ⟨x, l, rfl⟩
        obtain ⟨hu, hx, hd'⟩ := drop_cons hd
        have hx' : (digR q)[Int.toNat (u : Int)]? = some [u64 x] := by rw [Int.toNat_natCast]; simp [digR, hx]
        have hlen' : rest'.length = lenW n ((w + 1) / 2) (k / 2) := by simp at hlen; omega
        have hw2 : ∀ z, IntKind.wrap IntKind.i64 ((u : Int) + 1) = z ↔ ((u + 1 : Nat) : Int) = z := fun z => by rw [wrap_i64 (by omega) (by omega)]; simp
        have hwu : IntKind.wrap IntKind.i64 ((u : Int) + 1) = ((u + 1 : Nat) : Int) := by rw [wrap_i64 (by omega) (by omega)]; simp
        rw [ho, hwu]
        by_cases hodd : k % 2 = 1
        · have hs : sibN k = k - 1 := by rw [sibN, if_neg (by omega)]
          have hb : (k % 2 == 1) = true := by simp [hodd]
          rw [hb] at h
          refine BIf.f (by simp <;> omega) (BIf.t (by simp) (BIf.t (by simp <;> omega) (BIf.t (by simp) ⟨x, hx', x, acc, _, rfl, rfl, BIf.t (by simp) ?_⟩)))
          refine wr51 r q hq n ((w + 1) / 2) (k / 2) (u + 1) (pairS x acc) rest' hd' hlen' (by omega) (by omega) (by omega) fun w' k' u' z hz => h w' k' u' z ?_
          rw [checkF_t]; exact hz
        · have hs : sibN k = k + 1 := by rw [sibN, if_pos (by omega)]
          have hb : (k % 2 == 1) = false := by simp; omega
          rw [hb] at h
          refine BIf.t (by simp <;> omega) (BIf.t (by simp) ⟨x, hx', acc, x, _, rfl, rfl, BIf.t (by simp) (BIf.f (by simp <;> omega) (BIf.t (by simp) ?_))⟩)
          refine wr51 r q hq n ((w + 1) / 2) (k / 2) (u + 1) (pairS acc x) rest' hd' hlen' (by omega) (by omega) (by omega) fun w' k' u' z hz => h w' k' u' z ?_
          rw [checkF_g]; exact hz
      · rw [if_neg h2, Nat.zero_add] at hlen
        rw [decide_eq_false h2] at h
        have ho : otherS k w = -1 := by rw [otherS, if_pos (by omega)]
        rw [ho]
        refine BIf.f (by simp <;> omega) (BIf.f (by simp) (BIf.f (by simp) ?_))
        refine wr51 r q hq n ((w + 1) / 2) (k / 2) u acc rest hd hlen (by omega) (by omega) (by omega) fun w' k' u' z hz => h w' k' u' z ?_
        rw [checkF_f]; exact hz
    · rw [lenW, if_neg h1] at hlen
      rw [walkP, if_neg h1] at h
      have hr : rest = [] := List.length_eq_zero_iff.1 hlen
      exact BIf.f (by simp <;> omega) (h _ _ _ _ (by rw [hr]; rfl))
/-- a path of the right length is used up; of another one, not -/
theorem checkF_len : ∀ (n w k : Nat) (q : List Int) (s : Int), (q.length < lenW n w k → checkF (walkP n w k) q s = none) ∧ (lenW n w k ≤ q.length → ∃ z, checkF (walkP n w k) q s = some (q.drop (lenW n w k), z))
  | 0, w, k, q, s => ⟨fun h => by simp [lenW] at h, fun _ => ⟨s, rfl⟩⟩
  | n + 1, w, k, q, s => by
    by_cases h1 : 1 < w
    · rw [lenW, if_pos h1, walkP, if_pos h1]
      by_cases h2 : sibN k < w
      · rw [if_pos h2, decide_eq_true h2]
        cases q with
        | nil => exact ⟨fun _ => checkF_nil _ _ _, fun h => by simp at h⟩
        | cons x q =>
          cases hb : k % 2 == 1 with
          | true =>
            rw [checkF_t]
            have := checkF_len n ((w + 1) / 2) (k / 2) q (pairS x s)
            refine ⟨fun h => this.1 (by simp at h; omega), fun h => ?_⟩
            obtain ⟨z, hz⟩ := this.2 (by simp at h; omega)
            exact ⟨z, by rw [hz, Nat.add_comm 1, List.drop_succ_cons]⟩
          | false =>
            rw [checkF_g]
            have := checkF_len n ((w + 1) / 2) (k / 2) q (pairS s x)
            refine ⟨fun h => this.1 (by simp at h; omega), fun h => ?_⟩
            obtain ⟨z, hz⟩ := this.2 (by simp at h; omega)
            exact ⟨z, by rw [hz, Nat.add_comm 1, List.drop_succ_cons]⟩
      · rw [if_neg h2, decide_eq_false h2, checkF_f, Nat.zero_add]
        exact checkF_len n ((w + 1) / 2) (k / 2) q s
    · rw [lenW, if_neg h1, walkP, if_neg h1]
      exact ⟨fun h => by simp at h, fun _ => ⟨s, rfl⟩⟩
def wl51 {β : Type} : WLT β := fun c tm hp b K => ∃ (r acc : Int) (w k : Nat) (q : List Int) (z : Int), c = .loop lp51 ∧ maskTm [0, 1, 2, 4, 11, 12] 0 tm = tm51 r w k (digR q) acc 0 ∧ hp = [] ∧ ((w < 1000000 ∧ k < 1000000 ∧ q.length ≤ 1000000) ∧ checkF (walkS w k) q acc = some ([], z)) ∧ ∀ w' k' u' : Int, K (.exit 0) (tm51 r w' k' (digR q) z u') [] b
theorem wl51_ok {Ev : Env Tryd.prog} (c : Code) (tm : List AV) (hp : List Blk) (b : Ev.β) (K : Exit → List AV → List Blk → Ev.β → Prop) (h : wl51 c tm hp b K) : W Ev c ⟨tm, hp, b⟩ (fun e s => K e s.tm s.hp s.b) := by
  obtain ⟨r, acc, w, k, q, z, rfl, htm, rfl, ⟨⟨hw, hk, hq⟩, hz⟩, hK⟩ := h
  refine W.cast (htm ▸ maskTm_le _ tm 0) (LeH.refl _) ?_
  refine W.rounds (wr51 (Q := fun e s => K e s.tm s.hp s.b) r q hq w w k 0 acc q rfl ?_ (by omega) hw hk fun w' k' u' z' hz' => ?_)
  · have h2 := checkF_len w w k q acc
    rcases Nat.lt_or_ge q.length (lenW w w k) with h | h
    · rw [walkS, h2.1 h] at hz; cases hz
    · obtain ⟨z', hz'⟩ := h2.2 h
      rw [walkS, hz'] at hz
      simp only [Option.some.injEq, Prod.mk.injEq, List.drop_eq_nil_iff] at hz
      omega
  · rw [walkS, hz'] at hz
    simp only [Option.some.injEq, Prod.mk.injEq, true_and] at hz
    rw [hz]; exact hK _ _ _
def TCk : List (Nat × (List AV → (AV → Prop) → Prop)) := [(72, cLength), (32, cTLeaf)]
theorem TCk_ok : CallsOk Tryd.prog TCk := CallsOk.cons cLength_ok (CallsOk.cons cTLeaf_ok CallsOk.nil)
section
variable {β : Type} (wl : WLT β) (y : YieldT β) (b : β) (R : AV → β → Prop) (K : Exit → List AV → List Blk → β → Prop)
theorem tCheck_nf (r n i : Int) (p q : List (List Dv)) : wpFn Tryd.prog ⟨TCk, [], wl51, y, false⟩ 100 Tryd.f51 [.d (u64 r), .d (i64 n), .d (i64 i), .d (.sl 1 p), .d (.sl 1 q)] b R = ( BIf (decide (n < (1 : Int))) (R (AV.d (bo false)) b) (BIf (decide (n > (16 : Int))) (R (AV.d (bo false)) b) (BIf (decide (i < (0 : Int))) (R (AV.d (bo false)) b) (BIf (decide (i ≥ n)) (R (AV.d (bo false)) b) (BIf (decide (((List.length p : Nat) : Int) > (256 : Int))) (R (AV.d (bo false)) b) (∃ (w0 : Nat), ∃ (k1 : Nat), ∃ (z2 : Nat), [AV.d (i64 n), AV.d (i64 i)] = [AV.d (i64 (w0 : Int)), AV.d (i64 (k1 : Int))] ∧ ((w0 < 1000000 ∧ k1 < 1000000) ∧ z2 = lenW w0 w0 k1) ∧ BIf (((List.length q : Nat) : Int) != (z2 : Int)) (R (AV.d (bo false)) b) (∃ (p3 : List Int), ∃ (z4 : Int), [AV.d (Dv.sl 1 p)] = [AV.d (Dv.sl 1 (bytesR p3))] ∧ (List.length p3 ≤ 9223372036854775807 ∧ z4 = leafS p3) ∧ ∃ (r5 : Int), ∃ (acc6 : Int), ∃ (w7 : Nat), ∃ (k8 : Nat), ∃ (q9 : List Int), ∃ (z10 : Int), Code.loop lp51 = Code.loop lp51 ∧ [AV.d (u64 r), AV.d (i64 n), AV.d (i64 i), AV.bad, AV.d (Dv.sl 1 q), AV.bad, AV.bad, AV.bad, AV.bad, AV.bad, AV.bad, AV.d (u64 z4), AV.d (i64 (0 : Int)), AV.bad, AV.bad, AV.bad, AV.bad, AV.bad, AV.bad, AV.bad, AV.bad, AV.bad, AV.bad, AV.bad, AV.bad, AV.bad, AV.bad, AV.bad, AV.bad, AV.bad, AV.bad, AV.bad, AV.bad, AV.bad, AV.bad, AV.bad, AV.bad, AV.bad, AV.bad, AV.bad, AV.bad, AV.bad, AV.bad, AV.bad, AV.bad, AV.bad, AV.bad, AV.bad, AV.bad, AV.bad, AV.bad, AV.bad, AV.bad, AV.bad, AV.bad, AV.bad, AV.bad, AV.bad, AV.bad, AV.bad, AV.bad, AV.bad, AV.bad, AV.bad, AV.bad, AV.bad, AV.bad, AV.bad, AV.bad, AV.bad, AV.bad, AV.bad, AV.bad, AV.bad, AV.bad, AV.bad, AV.bad, AV.bad, AV.bad, AV.bad, AV.bad, AV.bad, AV.bad] = [AV.d (u64 r5), AV.d (i64 (w7 : Int)), AV.d (i64 (k8 : Int)), AV.bad, AV.d (Dv.sl 1 (digR q9)), AV.bad, AV.bad, AV.bad, AV.bad, AV.bad, AV.bad, AV.d (u64 acc6), AV.d (i64 (0 : Int)), AV.bad, AV.bad, AV.bad, AV.bad, AV.bad, AV.bad, AV.bad, AV.bad, AV.bad, AV.bad, AV.bad, AV.bad, AV.bad, AV.bad, AV.bad, AV.bad, AV.bad, AV.bad, AV.bad, AV.bad, AV.bad, AV.bad, AV.bad, AV.bad, AV.bad, AV.bad, AV.bad, AV.bad, AV.bad, AV.bad, AV.bad, AV.bad, AV.bad, AV.bad, AV.bad, AV.bad, AV.bad, AV.bad, AV.bad, AV.bad, AV.bad, AV.bad, AV.bad, AV.bad, AV.bad, AV.bad, AV.bad, AV.bad, AV.bad, AV.bad, AV.bad, AV.bad, AV.bad, AV.bad, AV.bad, AV.bad, AV.bad, AV.bad, AV.bad, AV.bad, AV.bad, AV.bad, AV.bad, AV.bad, AV.bad, AV.bad, AV.bad, AV.bad, AV.bad, AV.bad] ∧ ([] : List Blk) = [] ∧ ((w7 < 1000000 ∧ k8 < 1000000 ∧ List.length q9 ≤ 1000000) ∧ checkF (walkS w7 k8) q9 acc6 = some ([], z10)) ∧ ∀ (w' k' u' : Int), R (AV.d (bo (z10 == r5))) b))))))) := by kernel_rfl
theorem rCount_nf (n : Int) : wpFn Tryd.prog ⟨[], [], wl, y, false⟩ 100 Tryd.f27 [.d (i64 n)] b R = ( R (AV.d (i64 (IntKind.wrap IntKind.i64 (Int.tdiv (IntKind.wrap IntKind.i64 (IntKind.wrap IntKind.i64 (n + (256 : Int)) - (1 : Int))) (256 : Int))))) b) := by kernel_rfl
end
end Go.Proofs.YtfeemohdpmdaoaaDoor.Am

namespace Go.Proofs.YtfeemohdpmdaoaaDoor.Am
set_option linter.unusedVariables false
open Go Go.RowKit Go.Proofs

theorem lenW_le : ∀ (n w k : Nat), lenW n w k ≤ n
  | 0, w, k => by simp [lenW]
  | n + 1, w, k => by
    have := lenW_le n ((w + 1) / 2) (k / 2)
    rw [lenW]; split
    · split <;> omega
    · omega
theorem pcTCheck (r n i : Int) (p q : List Int) : PCall Tryd.prog 51 [.d (u64 r), .d (i64 n), .d (i64 i), .d (.sl 1 (bytesR p)), .d (.sl 1 (digR q))] (.d (bo (checkS r n i p q))) := by
  refine PCall.ofFnW (n := 100) (u := false) (fun _ => wl51) mixed TCk_ok SCallsOk.nil (fun Ev => wl51_ok) Tryd.func51 (by rfl) (by rfl) fun Ev bb => ?_
  rw [tCheck_nf, bytesR_len, digR_len]
  refine BIf.of (fun g => by rw [checkS, g]; rfl) fun g1 => BIf.of (fun g => by rw [checkS, g1, g]; rfl) fun g2 => BIf.of (fun g => by rw [checkS, g1, g2, g]; rfl) fun g3 => BIf.of (fun g => by rw [checkS, g1, g2, g3, g]; rfl) fun g4 => BIf.of (fun g => by rw [checkS, g1, g2, g3, g4, g]; rfl) fun g5 => ?_
  have n1 := of_decide_eq_false g1
  have n2 := of_decide_eq_false g2
  have n3 := of_decide_eq_false g3
  have n4 := of_decide_eq_false g4
  have n5 := of_decide_eq_false g5
  obtain ⟨w, rfl⟩ := Int.eq_ofNat_of_zero_le (show 0 ≤ n by omega)
  obtain ⟨k, rfl⟩ := Int.eq_ofNat_of_zero_le (show 0 ≤ i by omega)
  have hk : checkS r w k p q = topS r (checkF (walkS w k) q (leafS p)) := by rw [checkS, g1, g2, g3, g4, g5, Int.toNat_natCast, Int.toNat_natCast]; rfl
  have hlen := lenW_le w w k
  have hF := checkF_len w w k q (leafS p)
  refine ⟨w, k, _, rfl, ⟨⟨by omega, by omega⟩, rfl⟩, BIf.of (fun g => ?_) fun g => ?_⟩
  · rw [hk]
    have hne : q.length ≠ lenW w w k := by simp at g; omega
    rcases Nat.lt_or_ge q.length (lenW w w k) with h | h
    · rw [walkS, hF.1 h]; rfl
    · obtain ⟨z, hz⟩ := hF.2 h
      rw [walkS, hz]
      have : (q.drop (lenW w w k)).isEmpty = false := by
        cases hd : q.drop (lenW w w k) with
        | nil => have := drop_nil hd; omega
        | cons => rfl
      rw [topS, this]; rfl
  · have he : q.length = lenW w w k := by simp at g; omega
    obtain ⟨z, hz⟩ := hF.2 (by omega)
    rw [List.drop_eq_nil_of_le (by omega)] at hz
    refine ⟨p, _, rfl, ⟨by omega, rfl⟩, r, leafS p, w, k, q, z, rfl, rfl, rfl, ⟨⟨by omega, by omega, by omega⟩, hz⟩, fun _ _ _ => ?_⟩
    rw [hk, walkS, hz]; rfl
def cTCheck (args : List AV) (K : AV → Prop) : Prop := ∃ (r n i : Int) (p q : List Int) (z : Bool), args = [.d (u64 r), .d (i64 n), .d (i64 i), .d (.sl 1 (bytesR p)), .d (.sl 1 (digR q))] ∧ z = checkS r n i p q ∧ K (.d (bo z))
theorem cTCheck_ok : ∀ args K, cTCheck args K → ∃ x, PCall Tryd.prog 51 args x ∧ K x := by
  rintro _ K ⟨r, n, i, p, q, _, rfl, rfl, h⟩; exact ⟨_, pcTCheck r n i p q, h⟩
theorem pcRCount (n : Int) : PCall Tryd.prog 27 [.d (i64 n)] (.d (i64 (countS n))) := by
  refine PCall.ofFn (n := 100) (u := false) mixed CallsOk.nil SCallsOk.nil Tryd.func27 (by rfl) (by rfl) fun Ev bb => ?_
  rw [rCount_nf]; rfl
def cRCount (args : List AV) (K : AV → Prop) : Prop := ∃ (n z : Int), args = [.d (i64 n)] ∧ z = countS n ∧ K (.d (i64 z))
theorem cRCount_ok : ∀ args K, cRCount args K → ∃ x, PCall Tryd.prog 27 args x ∧ K x := by
  rintro _ K ⟨n, _, rfl, rfl, h⟩; exact ⟨_, pcRCount n, h⟩
/-! ### the reference's Sound -/
noncomputable def lp26 : Code := sub [1, 1, 0, 1, 2, 3] (code Tryd.f26)
def tm26 (i : Int) : List AV := [.bad, .ptr 0 0, .bad, .d (i64 i)] ++ List.replicate 56 .bad
def T26 : List (Nat × (List AV → (AV → Prop) → Prop)) := [(27, cRCount), (51, cTCheck), (43, cRNotice), (40, cRPages)]
theorem T26_ok : CallsOk Tryd.prog T26 := CallsOk.cons cRCount_ok (CallsOk.cons cTCheck_ok (CallsOk.cons cRNotice_ok (CallsOk.cons cRPages_ok CallsOk.nil)))
section
variable {β : Type} (wl : WLT β) (y : YieldT β) (b : β) (R : AV → β → Prop) (K : Exit → List AV → List Blk → β → Prop)
theorem r26 (s : SprT) (i : Int) : wpc Tryd.prog ⟨T26, [], wl, y, false⟩ 100 lp26 (tm26 i) [blkS s] b (maskT [1, 2, 3] K) = ( BIf (decide (i < ((List.length (partsR (SprT.ps s)) : Nat) : Int))) (∃ (n0 : Int), ∃ (z1 : Int), [AV.d (i64 (NotT.n (SprT.no s)))] = [AV.d (i64 n0)] ∧ z1 = countS n0 ∧ BIf (true && decide ((0 : Int) ≤ i)) (∃ (xs2 : List (List Dv)), (partsR (SprT.ps s))[Int.toNat i]? = some [Dv.sl 1 xs2] ∧ BIf (true && decide ((0 : Int) ≤ i)) (∃ (xs5 : List (List Dv)), (proofsR (SprT.qs s))[Int.toNat i]? = some [Dv.sl 1 xs5] ∧ ∃ (r8 : Int), ∃ (n9 : Int), ∃ (i10 : Int), ∃ (p11 : List Int), ∃ (q12 : List Int), ∃ (z13 : Bool), [AV.d (u64 (NotT.r (SprT.no s))), AV.d (i64 z1), AV.d (i64 i), AV.d (Dv.sl 1 xs2), AV.d (Dv.sl 1 xs5)] = [AV.d (u64 r8), AV.d (i64 n9), AV.d (i64 i10), AV.d (Dv.sl 1 (bytesR p11)), AV.d (Dv.sl 1 (digR q12))] ∧ z13 = checkS r8 n9 i10 p11 q12 ∧ BIf (!z13) (K Exit.ret [AV.bad, AV.ptr 0 0, AV.d (bo false), AV.d (i64 i), AV.bad, AV.bad, AV.bad, AV.bad, AV.bad, AV.bad, AV.bad, AV.bad, AV.bad, AV.bad, AV.bad, AV.bad, AV.bad, AV.bad, AV.bad, AV.bad, AV.bad, AV.bad, AV.bad, AV.bad, AV.bad, AV.bad, AV.bad, AV.bad, AV.bad, AV.bad, AV.bad, AV.bad, AV.bad, AV.bad, AV.bad, AV.bad, AV.bad, AV.bad, AV.bad, AV.bad, AV.bad, AV.bad, AV.bad, AV.bad, AV.bad, AV.bad, AV.bad, AV.bad, AV.bad, AV.bad, AV.bad, AV.bad, AV.bad, AV.bad, AV.bad, AV.bad, AV.bad, AV.bad, AV.bad, AV.bad] [Blk.mk [AV.d (i64 (NotT.v (SprT.no s))), AV.d (i64 (NotT.n (SprT.no s))), AV.d (u64 (NotT.r (SprT.no s))), AV.d (i64 (NotT.t (SprT.no s))), AV.d (Dv.sl 1 (partsR (SprT.ps s))), AV.d (Dv.sl 1 (proofsR (SprT.qs s))), AV.d (Dv.sl 2 (SprT.rows s)), AV.d (Dv.sl 1 (digR (SprT.pf s))), AV.d (i64 (SprT.i1 s)), AV.d (i64 (SprT.i2 s)), AV.d (i64 (SprT.i3 s)), AV.d (i64 (SprT.i4 s)), AV.d (i64 (SprT.i5 s))] false false 0] b) (K Exit.normal [AV.bad, AV.ptr 0 0, AV.bad, AV.d (i64 (IntKind.wrap IntKind.i64 (i + (1 : Int)))), AV.bad, AV.bad, AV.bad, AV.bad, AV.bad, AV.bad, AV.bad, AV.bad, AV.bad, AV.bad, AV.bad, AV.bad, AV.bad, AV.bad, AV.bad, AV.bad, AV.bad, AV.bad, AV.bad, AV.bad, AV.bad, AV.bad, AV.bad, AV.bad, AV.bad, AV.bad, AV.bad, AV.bad, AV.bad, AV.bad, AV.bad, AV.bad, AV.bad, AV.bad, AV.bad, AV.bad, AV.bad, AV.bad, AV.bad, AV.bad, AV.bad, AV.bad, AV.bad, AV.bad, AV.bad, AV.bad, AV.bad, AV.bad, AV.bad, AV.bad, AV.bad, AV.bad, AV.bad, AV.bad, AV.bad, AV.bad] [Blk.mk [AV.d (i64 (NotT.v (SprT.no s))), AV.d (i64 (NotT.n (SprT.no s))), AV.d (u64 (NotT.r (SprT.no s))), AV.d (i64 (NotT.t (SprT.no s))), AV.d (Dv.sl 1 (partsR (SprT.ps s))), AV.d (Dv.sl 1 (proofsR (SprT.qs s))), AV.d (Dv.sl 2 (SprT.rows s)), AV.d (Dv.sl 1 (digR (SprT.pf s))), AV.d (i64 (SprT.i1 s)), AV.d (i64 (SprT.i2 s)), AV.d (i64 (SprT.i3 s)), AV.d (i64 (SprT.i4 s)), AV.d (i64 (SprT.i5 s))] false false 0] b)) False) False) (K (Exit.exit 0) [AV.bad, AV.ptr 0 0, AV.bad, AV.d (i64 i), AV.bad, AV.bad, AV.bad, AV.bad, AV.bad, AV.bad, AV.bad, AV.bad, AV.bad, AV.bad, AV.bad, AV.bad, AV.bad, AV.bad, AV.bad, AV.bad, AV.bad, AV.bad, AV.bad, AV.bad, AV.bad, AV.bad, AV.bad, AV.bad, AV.bad, AV.bad, AV.bad, AV.bad, AV.bad, AV.bad, AV.bad, AV.bad, AV.bad, AV.bad, AV.bad, AV.bad, AV.bad, AV.bad, AV.bad, AV.bad, AV.bad, AV.bad, AV.bad, AV.bad, AV.bad, AV.bad, AV.bad, AV.bad, AV.bad, AV.bad, AV.bad, AV.bad, AV.bad, AV.bad, AV.bad, AV.bad] [Blk.mk [AV.d (i64 (NotT.v (SprT.no s))), AV.d (i64 (NotT.n (SprT.no s))), AV.d (u64 (NotT.r (SprT.no s))), AV.d (i64 (NotT.t (SprT.no s))), AV.d (Dv.sl 1 (partsR (SprT.ps s))), AV.d (Dv.sl 1 (proofsR (SprT.qs s))), AV.d (Dv.sl 2 (SprT.rows s)), AV.d (Dv.sl 1 (digR (SprT.pf s))), AV.d (i64 (SprT.i1 s)), AV.d (i64 (SprT.i2 s)), AV.d (i64 (SprT.i3 s)), AV.d (i64 (SprT.i4 s)), AV.d (i64 (SprT.i5 s))] false false 0] b)) := by kernel_rfl
end
/-! ### the reference's Few -/
noncomputable def lp12a : Code := sub [1, 1, 0, 1, 2, 3] (code Tryd.f12)
noncomputable def lp12b : Code := sub [1, 1, 1, 0, 1, 2, 3] (code Tryd.f12)
noncomputable def lp12c : Code := sub [1, 1, 1, 1, 0, 1, 2, 3] (code Tryd.f12)
def tm12a (i : Int) : List AV := [.bad, .ptr 0 0, .bad, .d (i64 i)] ++ List.replicate 67 .bad
def tm12b (i : Int) : List AV := [.bad, .ptr 0 0, .bad, .bad, .d (i64 i)] ++ List.replicate 66 .bad
def tm12c (i : Int) : List AV := [.bad, .ptr 0 0, .bad, .bad, .bad, .d (i64 i)] ++ List.replicate 65 .bad
section
variable {β : Type} (wl : WLT β) (y : YieldT β) (b : β) (R : AV → β → Prop) (K : Exit → List AV → List Blk → β → Prop)
theorem r12a (s : SprT) (i : Int) : wpc Tryd.prog ⟨[], [], wl, y, false⟩ 100 lp12a (tm12a i) [blkS s] b (maskT [1, 2, 3] K) = ( BIf (decide (i < ((List.length (partsR (SprT.ps s)) : Nat) : Int))) (BIf (true && decide ((0 : Int) ≤ i)) (∃ (xs0 : List (List Dv)), (partsR (SprT.ps s))[Int.toNat i]? = some [Dv.sl 1 xs0] ∧ BIf (decide (((List.length xs0 : Nat) : Int) > (1000 : Int))) (K Exit.ret [AV.bad, AV.ptr 0 0, AV.d (bo false), AV.d (i64 i), AV.bad, AV.bad, AV.bad, AV.bad, AV.bad, AV.bad, AV.bad, AV.bad, AV.bad, AV.bad, AV.bad, AV.bad, AV.bad, AV.bad, AV.bad, AV.bad, AV.bad, AV.bad, AV.bad, AV.bad, AV.bad, AV.bad, AV.bad, AV.bad, AV.bad, AV.bad, AV.bad, AV.bad, AV.bad, AV.bad, AV.bad, AV.bad, AV.bad, AV.bad, AV.bad, AV.bad, AV.bad, AV.bad, AV.bad, AV.bad, AV.bad, AV.bad, AV.bad, AV.bad, AV.bad, AV.bad, AV.bad, AV.bad, AV.bad, AV.bad, AV.bad, AV.bad, AV.bad, AV.bad, AV.bad, AV.bad, AV.bad, AV.bad, AV.bad, AV.bad, AV.bad, AV.bad, AV.bad, AV.bad, AV.bad, AV.bad, AV.bad] [Blk.mk [AV.d (i64 (NotT.v (SprT.no s))), AV.d (i64 (NotT.n (SprT.no s))), AV.d (u64 (NotT.r (SprT.no s))), AV.d (i64 (NotT.t (SprT.no s))), AV.d (Dv.sl 1 (partsR (SprT.ps s))), AV.d (Dv.sl 1 (proofsR (SprT.qs s))), AV.d (Dv.sl 2 (SprT.rows s)), AV.d (Dv.sl 1 (digR (SprT.pf s))), AV.d (i64 (SprT.i1 s)), AV.d (i64 (SprT.i2 s)), AV.d (i64 (SprT.i3 s)), AV.d (i64 (SprT.i4 s)), AV.d (i64 (SprT.i5 s))] false false 0] b) (K Exit.normal [AV.bad, AV.ptr 0 0, AV.bad, AV.d (i64 (IntKind.wrap IntKind.i64 (i + (1 : Int)))), AV.bad, AV.bad, AV.bad, AV.bad, AV.bad, AV.bad, AV.bad, AV.bad, AV.bad, AV.bad, AV.bad, AV.bad, AV.bad, AV.bad, AV.bad, AV.bad, AV.bad, AV.bad, AV.bad, AV.bad, AV.bad, AV.bad, AV.bad, AV.bad, AV.bad, AV.bad, AV.bad, AV.bad, AV.bad, AV.bad, AV.bad, AV.bad, AV.bad, AV.bad, AV.bad, AV.bad, AV.bad, AV.bad, AV.bad, AV.bad, AV.bad, AV.bad, AV.bad, AV.bad, AV.bad, AV.bad, AV.bad, AV.bad, AV.bad, AV.bad, AV.bad, AV.bad, AV.bad, AV.bad, AV.bad, AV.bad, AV.bad, AV.bad, AV.bad, AV.bad, AV.bad, AV.bad, AV.bad, AV.bad, AV.bad, AV.bad, AV.bad] [Blk.mk [AV.d (i64 (NotT.v (SprT.no s))), AV.d (i64 (NotT.n (SprT.no s))), AV.d (u64 (NotT.r (SprT.no s))), AV.d (i64 (NotT.t (SprT.no s))), AV.d (Dv.sl 1 (partsR (SprT.ps s))), AV.d (Dv.sl 1 (proofsR (SprT.qs s))), AV.d (Dv.sl 2 (SprT.rows s)), AV.d (Dv.sl 1 (digR (SprT.pf s))), AV.d (i64 (SprT.i1 s)), AV.d (i64 (SprT.i2 s)), AV.d (i64 (SprT.i3 s)), AV.d (i64 (SprT.i4 s)), AV.d (i64 (SprT.i5 s))] false false 0] b)) False) (K (Exit.exit 0) [AV.bad, AV.ptr 0 0, AV.bad, AV.d (i64 i), AV.bad, AV.bad, AV.bad, AV.bad, AV.bad, AV.bad, AV.bad, AV.bad, AV.bad, AV.bad, AV.bad, AV.bad, AV.bad, AV.bad, AV.bad, AV.bad, AV.bad, AV.bad, AV.bad, AV.bad, AV.bad, AV.bad, AV.bad, AV.bad, AV.bad, AV.bad, AV.bad, AV.bad, AV.bad, AV.bad, AV.bad, AV.bad, AV.bad, AV.bad, AV.bad, AV.bad, AV.bad, AV.bad, AV.bad, AV.bad, AV.bad, AV.bad, AV.bad, AV.bad, AV.bad, AV.bad, AV.bad, AV.bad, AV.bad, AV.bad, AV.bad, AV.bad, AV.bad, AV.bad, AV.bad, AV.bad, AV.bad, AV.bad, AV.bad, AV.bad, AV.bad, AV.bad, AV.bad, AV.bad, AV.bad, AV.bad, AV.bad] [Blk.mk [AV.d (i64 (NotT.v (SprT.no s))), AV.d (i64 (NotT.n (SprT.no s))), AV.d (u64 (NotT.r (SprT.no s))), AV.d (i64 (NotT.t (SprT.no s))), AV.d (Dv.sl 1 (partsR (SprT.ps s))), AV.d (Dv.sl 1 (proofsR (SprT.qs s))), AV.d (Dv.sl 2 (SprT.rows s)), AV.d (Dv.sl 1 (digR (SprT.pf s))), AV.d (i64 (SprT.i1 s)), AV.d (i64 (SprT.i2 s)), AV.d (i64 (SprT.i3 s)), AV.d (i64 (SprT.i4 s)), AV.d (i64 (SprT.i5 s))] false false 0] b)) := by kernel_rfl
theorem r12b (s : SprT) (i : Int) : wpc Tryd.prog ⟨[], [], wl, y, false⟩ 100 lp12b (tm12b i) [blkS s] b (maskT [1, 2, 4] K) = ( BIf (decide (i < ((List.length (proofsR (SprT.qs s)) : Nat) : Int))) (BIf (true && decide ((0 : Int) ≤ i)) (∃ (xs0 : List (List Dv)), (proofsR (SprT.qs s))[Int.toNat i]? = some [Dv.sl 1 xs0] ∧ BIf (decide (((List.length xs0 : Nat) : Int) > (40 : Int))) (K Exit.ret [AV.bad, AV.ptr 0 0, AV.d (bo false), AV.bad, AV.d (i64 i), AV.bad, AV.bad, AV.bad, AV.bad, AV.bad, AV.bad, AV.bad, AV.bad, AV.bad, AV.bad, AV.bad, AV.bad, AV.bad, AV.bad, AV.bad, AV.bad, AV.bad, AV.bad, AV.bad, AV.bad, AV.bad, AV.bad, AV.bad, AV.bad, AV.bad, AV.bad, AV.bad, AV.bad, AV.bad, AV.bad, AV.bad, AV.bad, AV.bad, AV.bad, AV.bad, AV.bad, AV.bad, AV.bad, AV.bad, AV.bad, AV.bad, AV.bad, AV.bad, AV.bad, AV.bad, AV.bad, AV.bad, AV.bad, AV.bad, AV.bad, AV.bad, AV.bad, AV.bad, AV.bad, AV.bad, AV.bad, AV.bad, AV.bad, AV.bad, AV.bad, AV.bad, AV.bad, AV.bad, AV.bad, AV.bad, AV.bad] [Blk.mk [AV.d (i64 (NotT.v (SprT.no s))), AV.d (i64 (NotT.n (SprT.no s))), AV.d (u64 (NotT.r (SprT.no s))), AV.d (i64 (NotT.t (SprT.no s))), AV.d (Dv.sl 1 (partsR (SprT.ps s))), AV.d (Dv.sl 1 (proofsR (SprT.qs s))), AV.d (Dv.sl 2 (SprT.rows s)), AV.d (Dv.sl 1 (digR (SprT.pf s))), AV.d (i64 (SprT.i1 s)), AV.d (i64 (SprT.i2 s)), AV.d (i64 (SprT.i3 s)), AV.d (i64 (SprT.i4 s)), AV.d (i64 (SprT.i5 s))] false false 0] b) (K Exit.normal [AV.bad, AV.ptr 0 0, AV.bad, AV.bad, AV.d (i64 (IntKind.wrap IntKind.i64 (i + (1 : Int)))), AV.bad, AV.bad, AV.bad, AV.bad, AV.bad, AV.bad, AV.bad, AV.bad, AV.bad, AV.bad, AV.bad, AV.bad, AV.bad, AV.bad, AV.bad, AV.bad, AV.bad, AV.bad, AV.bad, AV.bad, AV.bad, AV.bad, AV.bad, AV.bad, AV.bad, AV.bad, AV.bad, AV.bad, AV.bad, AV.bad, AV.bad, AV.bad, AV.bad, AV.bad, AV.bad, AV.bad, AV.bad, AV.bad, AV.bad, AV.bad, AV.bad, AV.bad, AV.bad, AV.bad, AV.bad, AV.bad, AV.bad, AV.bad, AV.bad, AV.bad, AV.bad, AV.bad, AV.bad, AV.bad, AV.bad, AV.bad, AV.bad, AV.bad, AV.bad, AV.bad, AV.bad, AV.bad, AV.bad, AV.bad, AV.bad, AV.bad] [Blk.mk [AV.d (i64 (NotT.v (SprT.no s))), AV.d (i64 (NotT.n (SprT.no s))), AV.d (u64 (NotT.r (SprT.no s))), AV.d (i64 (NotT.t (SprT.no s))), AV.d (Dv.sl 1 (partsR (SprT.ps s))), AV.d (Dv.sl 1 (proofsR (SprT.qs s))), AV.d (Dv.sl 2 (SprT.rows s)), AV.d (Dv.sl 1 (digR (SprT.pf s))), AV.d (i64 (SprT.i1 s)), AV.d (i64 (SprT.i2 s)), AV.d (i64 (SprT.i3 s)), AV.d (i64 (SprT.i4 s)), AV.d (i64 (SprT.i5 s))] false false 0] b)) False) (K (Exit.exit 2) [AV.bad, AV.ptr 0 0, AV.bad, AV.bad, AV.d (i64 i), AV.bad, AV.bad, AV.bad, AV.bad, AV.bad, AV.bad, AV.bad, AV.bad, AV.bad, AV.bad, AV.bad, AV.bad, AV.bad, AV.bad, AV.bad, AV.bad, AV.bad, AV.bad, AV.bad, AV.bad, AV.bad, AV.bad, AV.bad, AV.bad, AV.bad, AV.bad, AV.bad, AV.bad, AV.bad, AV.bad, AV.bad, AV.bad, AV.bad, AV.bad, AV.bad, AV.bad, AV.bad, AV.bad, AV.bad, AV.bad, AV.bad, AV.bad, AV.bad, AV.bad, AV.bad, AV.bad, AV.bad, AV.bad, AV.bad, AV.bad, AV.bad, AV.bad, AV.bad, AV.bad, AV.bad, AV.bad, AV.bad, AV.bad, AV.bad, AV.bad, AV.bad, AV.bad, AV.bad, AV.bad, AV.bad, AV.bad] [Blk.mk [AV.d (i64 (NotT.v (SprT.no s))), AV.d (i64 (NotT.n (SprT.no s))), AV.d (u64 (NotT.r (SprT.no s))), AV.d (i64 (NotT.t (SprT.no s))), AV.d (Dv.sl 1 (partsR (SprT.ps s))), AV.d (Dv.sl 1 (proofsR (SprT.qs s))), AV.d (Dv.sl 2 (SprT.rows s)), AV.d (Dv.sl 1 (digR (SprT.pf s))), AV.d (i64 (SprT.i1 s)), AV.d (i64 (SprT.i2 s)), AV.d (i64 (SprT.i3 s)), AV.d (i64 (SprT.i4 s)), AV.d (i64 (SprT.i5 s))] false false 0] b)) := by kernel_rfl
theorem r12c (s : SprT) (i : Int) : wpc Tryd.prog ⟨[], [], wl, y, false⟩ 100 lp12c (tm12c i) [blkS s] b (maskT [1, 2, 5] K) = ( BIf (decide (i < ((List.length (SprT.rows s) : Nat) : Int))) (BIf (true && decide ((0 : Int) ≤ i)) (∃ (x0 : Int), ∃ (xs1 : List (List Dv)), (SprT.rows s)[Int.toNat i]? = some [i64 x0, Dv.sl 1 xs1] ∧ BIf (decide (((List.length xs1 : Nat) : Int) > (100 : Int))) (K Exit.ret [AV.bad, AV.ptr 0 0, AV.d (bo false), AV.bad, AV.bad, AV.d (i64 i), AV.bad, AV.bad, AV.bad, AV.bad, AV.bad, AV.bad, AV.bad, AV.bad, AV.bad, AV.bad, AV.bad, AV.bad, AV.bad, AV.bad, AV.bad, AV.bad, AV.bad, AV.bad, AV.bad, AV.bad, AV.bad, AV.bad, AV.bad, AV.bad, AV.bad, AV.bad, AV.bad, AV.bad, AV.bad, AV.bad, AV.bad, AV.bad, AV.bad, AV.bad, AV.bad, AV.bad, AV.bad, AV.bad, AV.bad, AV.bad, AV.bad, AV.bad, AV.bad, AV.bad, AV.bad, AV.bad, AV.bad, AV.bad, AV.bad, AV.bad, AV.bad, AV.bad, AV.bad, AV.bad, AV.bad, AV.bad, AV.bad, AV.bad, AV.bad, AV.bad, AV.bad, AV.bad, AV.bad, AV.bad, AV.bad] [Blk.mk [AV.d (i64 (NotT.v (SprT.no s))), AV.d (i64 (NotT.n (SprT.no s))), AV.d (u64 (NotT.r (SprT.no s))), AV.d (i64 (NotT.t (SprT.no s))), AV.d (Dv.sl 1 (partsR (SprT.ps s))), AV.d (Dv.sl 1 (proofsR (SprT.qs s))), AV.d (Dv.sl 2 (SprT.rows s)), AV.d (Dv.sl 1 (digR (SprT.pf s))), AV.d (i64 (SprT.i1 s)), AV.d (i64 (SprT.i2 s)), AV.d (i64 (SprT.i3 s)), AV.d (i64 (SprT.i4 s)), AV.d (i64 (SprT.i5 s))] false false 0] b) (K Exit.normal [AV.bad, AV.ptr 0 0, AV.bad, AV.bad, AV.bad, AV.d (i64 (IntKind.wrap IntKind.i64 (i + (1 : Int)))), AV.bad, AV.bad, AV.bad, AV.bad, AV.bad, AV.bad, AV.bad, AV.bad, AV.bad, AV.bad, AV.bad, AV.bad, AV.bad, AV.bad, AV.bad, AV.bad, AV.bad, AV.bad, AV.bad, AV.bad, AV.bad, AV.bad, AV.bad, AV.bad, AV.bad, AV.bad, AV.bad, AV.bad, AV.bad, AV.bad, AV.bad, AV.bad, AV.bad, AV.bad, AV.bad, AV.bad, AV.bad, AV.bad, AV.bad, AV.bad, AV.bad, AV.bad, AV.bad, AV.bad, AV.bad, AV.bad, AV.bad, AV.bad, AV.bad, AV.bad, AV.bad, AV.bad, AV.bad, AV.bad, AV.bad, AV.bad, AV.bad, AV.bad, AV.bad, AV.bad, AV.bad, AV.bad, AV.bad, AV.bad, AV.bad] [Blk.mk [AV.d (i64 (NotT.v (SprT.no s))), AV.d (i64 (NotT.n (SprT.no s))), AV.d (u64 (NotT.r (SprT.no s))), AV.d (i64 (NotT.t (SprT.no s))), AV.d (Dv.sl 1 (partsR (SprT.ps s))), AV.d (Dv.sl 1 (proofsR (SprT.qs s))), AV.d (Dv.sl 2 (SprT.rows s)), AV.d (Dv.sl 1 (digR (SprT.pf s))), AV.d (i64 (SprT.i1 s)), AV.d (i64 (SprT.i2 s)), AV.d (i64 (SprT.i3 s)), AV.d (i64 (SprT.i4 s)), AV.d (i64 (SprT.i5 s))] false false 0] b)) False) (K (Exit.exit 4) [AV.bad, AV.ptr 0 0, AV.bad, AV.bad, AV.bad, AV.d (i64 i), AV.bad, AV.bad, AV.bad, AV.bad, AV.bad, AV.bad, AV.bad, AV.bad, AV.bad, AV.bad, AV.bad, AV.bad, AV.bad, AV.bad, AV.bad, AV.bad, AV.bad, AV.bad, AV.bad, AV.bad, AV.bad, AV.bad, AV.bad, AV.bad, AV.bad, AV.bad, AV.bad, AV.bad, AV.bad, AV.bad, AV.bad, AV.bad, AV.bad, AV.bad, AV.bad, AV.bad, AV.bad, AV.bad, AV.bad, AV.bad, AV.bad, AV.bad, AV.bad, AV.bad, AV.bad, AV.bad, AV.bad, AV.bad, AV.bad, AV.bad, AV.bad, AV.bad, AV.bad, AV.bad, AV.bad, AV.bad, AV.bad, AV.bad, AV.bad, AV.bad, AV.bad, AV.bad, AV.bad, AV.bad, AV.bad] [Blk.mk [AV.d (i64 (NotT.v (SprT.no s))), AV.d (i64 (NotT.n (SprT.no s))), AV.d (u64 (NotT.r (SprT.no s))), AV.d (i64 (NotT.t (SprT.no s))), AV.d (Dv.sl 1 (partsR (SprT.ps s))), AV.d (Dv.sl 1 (proofsR (SprT.qs s))), AV.d (Dv.sl 2 (SprT.rows s)), AV.d (Dv.sl 1 (digR (SprT.pf s))), AV.d (i64 (SprT.i1 s)), AV.d (i64 (SprT.i2 s)), AV.d (i64 (SprT.i3 s)), AV.d (i64 (SprT.i4 s)), AV.d (i64 (SprT.i5 s))] false false 0] b)) := by kernel_rfl
end
end Go.Proofs.YtfeemohdpmdaoaaDoor.Am
