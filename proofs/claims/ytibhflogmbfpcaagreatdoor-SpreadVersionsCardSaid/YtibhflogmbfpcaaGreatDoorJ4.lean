import Derived.Test.YtibhflogmbfpcaaGreatDoorJ3
import Derived.Test.YtibhflogmbfpcaaGreatDoorJ2
set_option linter.unusedSimpArgs false
set_option linter.unusedVariables false
namespace Go.Proofs.YtibhflogmbfpcaaGreatDoor.Am
open Go Go.RowKit Go.Proofs
open AV (bad)
set_option linter.unusedVariables false
set_option maxRecDepth 20000
def allP (s : SprT) : Nat → List (List Int) → List (List Int) → Bool
 | k, p :: ps, q :: qs => ABq9 s k p q && allP s (k + 1) ps qs
 | _, _, _ => true
theorem AAy9 (qs : List (List Int)) : (AAf9 qs).length = qs.length := by simp [AAf9]
theorem wr45 {Ev : Env Tryz.prog} {b : Ev.β} {Q : Exit → St Ev.β → Prop} (s : SprT) (hl : s.ps.length ≤ 1000000) : ∀ (ps qs : List (List Int)) (k : Nat), s.ps.drop k = ps → s.qs.drop k = qs → k ≤ s.ps.length → ps.length = qs.length →
   (allP s k ps qs = true → ∀ i : Int, Q (.exit 0) ⟨tm45 (AAe9 s.ps) s.ps.length i, [blkSI s], b⟩) → (allP s k ps qs = false → ∀ i : Int, Q .ret ⟨(tm45 (AAe9 s.ps) s.ps.length i).set 2 (.d (bo false)), [blkSI s], b⟩) →
   WR Ev lp45 (ps.length + 1) ⟨tm45 (AAe9 s.ps) s.ps.length k, [blkSI s], b⟩ Q
 | [], qs, k, hd, hd2, hk, hlen, h1, h2 => by
   refine WR.ofMaskT [1, 2, 42, 43, 44] mixed (CX.Ok.of (u := false) TPd_ok AAb9.nil) (k := 100) ?_
   rw [r45]
   have := ADn9 hd
   exact BIf.f (by simp <;> omega) (h1 (by rw [allP]; intros; simp_all) _)
 | p :: ps, [], k, hd, hd2, hk, hlen, h1, h2 => by simp at hlen
 | p :: ps, q :: qs, k, hd, hd2, hk, hlen, h1, h2 => by
   refine WR.ofMaskT [1, 2, 42, 43, 44] mixed (CX.Ok.of (u := false) TPd_ok AAb9.nil) (k := 100) ?_
   rw [r45]
   obtain ⟨hk', hr, hd'⟩ := ABv9 hd
   obtain ⟨hk2, hr2, hd2'⟩ := ABv9 hd2
   refine BIf.t (by simp <;> omega) (BIf.t (by simp) ⟨AAd9 p, by simp [AAe9, hr], BIf.t (by simp) ⟨digR q, by simp [AAf9, hr2], s, k, p, q, _, rfl, rfl, BIf.of (fun g => ?_) fun g => ?_⟩⟩)
   · have g : ABq9 s k p q = false := by simpa using g
     exact h2 (by rw [allP, g]; rfl) _
   · have g : ABq9 s k p q = true := by simpa using g
     rw [allP, g, Bool.true_and] at h1 h2
     rw [ABj9 hk' (by omega)]
     exact wr45 s hl ps qs (k + 1) hd' hd2' hk' (by simpa using hlen) h1 h2
def wl45 {β : Type} : WLT β := fun c tm hp b K => ∃ (s : SprT) (z : Bool), c = .loop lp45 ∧ ABc9 [1, 42, 43, 44] 0 tm = tm45 (AAe9 s.ps) (AAe9 s.ps).length 0 ∧ hp = [blkSI s] ∧ ((s.ps.length ≤ 1000000 ∧ s.qs.length = s.ps.length) ∧ z = allP s 0 s.ps s.qs) ∧
 BIf z (∀ i : Int, K (.exit 0) (tm45 (AAe9 s.ps) (AAe9 s.ps).length i) [blkSI s] b) (∀ i : Int, K .ret ((tm45 (AAe9 s.ps) (AAe9 s.ps).length i).set 2 (.d (bo false))) [blkSI s] b)
theorem BQk9 {Ev : Env Tryz.prog} (c : Code) (tm : List AV) (hp : List Blk) (b : Ev.β) (K : Exit → List AV → List Blk → Ev.β → Prop) (h : wl45 c tm hp b K) : W Ev c ⟨tm, hp, b⟩ (fun e s => K e s.tm s.hp s.b) := by
 obtain ⟨s, z, rfl, htm, rfl, ⟨⟨hl, hlen⟩, hz⟩, hK⟩ := h
 rw [AAh9] at htm hK
 refine W.cast (htm ▸ AAk9 _ tm 0) (LeH.refl _) ?_
 exact W.rounds (wr45 (Q := fun e s => K e s.tm s.hp s.b) s hl s.ps s.qs 0 rfl rfl (Nat.zero_le _) hlen.symm (fun h => by rw [hz, h] at hK; exact hK) fun h => by rw [hz, h] at hK; exact hK)
section
variable {β : Type} (wl : WLT β) (y : AAg9 β) (b : β) (R : AV → β → Prop) (K : Exit → List AV → List Blk → β → Prop)
theorem BLg9 (s : SprT) : wpFn Tryz.prog ⟨TSs, [], wl45, y, false⟩ 100 Tryz.f88 [spV s] b R = ( ∃ (a0 : Int) (n1 : Int) (r2 : Int) (t3 : Int) (z4 : Bool), [AV.agg [AV.d (i64 (NotT.v (SprT.no s))), AV.d (i64 (NotT.n (SprT.no s))), AV.d (u64 (NotT.r (SprT.no s))), AV.d (i64 (NotT.t (SprT.no s)))]] = [AV.agg [AV.d (i64 a0), AV.d (i64 n1), AV.d (u64 r2), AV.d (i64 t3)]] ∧ z4 = AAm9 a0 n1 t3 ∧ BIf (!z4) (R (.d (bo false)) b) (∃ (n5 : Int) (z6 : Int), [AV.d (i64 (NotT.n (SprT.no s)))] = [AV.d (i64 n5)] ∧ z6 = ABi9 n5 ∧ BIf (decide (((List.length (AAe9 (SprT.ps s)) : Nat) : Int) > z6)) (R (.d (bo false)) b) (BIf (((List.length (AAf9 (SprT.qs s)) : Nat) : Int) != ((List.length (AAe9 (SprT.ps s)) : Nat) : Int)) (R (.d (bo false)) b) (∃ (ps7 : List (List Int)) (z8 : Bool), [AV.d (Dv.sl 1 (AAe9 (SprT.ps s)))] = [AV.d (Dv.sl 1 (AAe9 ps7))] ∧ (List.length ps7 ≤ 9223372036854775807 ∧ z8 = !ABd9 ps7) ∧ BIf (!z8) (R (.d (bo false)) b) (∃ (s9 : SprT) (z10 : Bool), Code.loop lp45 = Code.loop lp45 ∧ [bad, AV.ptr 0 0, bad, bad, bad, bad, bad, bad, bad, bad, bad, bad, bad, bad, bad, bad, bad, bad, bad, bad, bad, bad, bad, bad, bad, bad, bad, bad, bad, bad, bad, bad, bad, bad, bad, bad, bad, bad, bad, bad, bad, bad, AV.d (Dv.sl 1 (AAe9 (SprT.ps s))), AV.d (i64 ((List.length (AAe9 (SprT.ps s)) : Nat) : Int)), AV.d (i64 0), bad, bad, bad, bad, bad, bad, bad, bad, bad, bad, bad, bad, bad, bad, bad, bad] = [bad, AV.ptr 0 0, bad, bad, bad, bad, bad, bad, bad, bad, bad, bad, bad, bad, bad, bad, bad, bad, bad, bad, bad, bad, bad, bad, bad, bad, bad, bad, bad, bad, bad, bad, bad, bad, bad, bad, bad, bad, bad, bad, bad, bad, AV.d (Dv.sl 1 (AAe9 (SprT.ps s9))), AV.d (i64 ((List.length (AAe9 (SprT.ps s9)) : Nat) : Int)), AV.d (i64 0), bad, bad, bad, bad, bad, bad, bad, bad, bad, bad, bad, bad, bad, bad, bad, bad] ∧ [Blk.mk [AV.d (i64 (NotT.v (SprT.no s))), AV.d (i64 (NotT.n (SprT.no s))), AV.d (u64 (NotT.r (SprT.no s))), AV.d (i64 (NotT.t (SprT.no s))), AV.d (Dv.sl 1 (AAe9 (SprT.ps s))), AV.d (Dv.sl 1 (AAf9 (SprT.qs s))), AV.d (Dv.sl 2 (SprT.rows s)), AV.d (Dv.sl 1 (digR (SprT.pf s))), AV.d (i64 (SprT.i1 s)), AV.d (i64 (SprT.i2 s)), AV.d (i64 (SprT.i3 s)), AV.d (i64 (SprT.i4 s)), AV.d (i64 (SprT.i5 s))] false false 0] = [Blk.mk [AV.d (i64 (NotT.v (SprT.no s9))), AV.d (i64 (NotT.n (SprT.no s9))), AV.d (u64 (NotT.r (SprT.no s9))), AV.d (i64 (NotT.t (SprT.no s9))), AV.d (Dv.sl 1 (AAe9 (SprT.ps s9))), AV.d (Dv.sl 1 (AAf9 (SprT.qs s9))), AV.d (Dv.sl 2 (SprT.rows s9)), AV.d (Dv.sl 1 (digR (SprT.pf s9))), AV.d (i64 (SprT.i1 s9)), AV.d (i64 (SprT.i2 s9)), AV.d (i64 (SprT.i3 s9)), AV.d (i64 (SprT.i4 s9)), AV.d (i64 (SprT.i5 s9))] false false 0] ∧ ((List.length (SprT.ps s9) ≤ 1000000 ∧ List.length (SprT.qs s9) = List.length (SprT.ps s9)) ∧ z10 = allP s9 0 (SprT.ps s9) (SprT.qs s9)) ∧ BIf z10 (∀ (i : Int), R (.d (bo true)) b) (∀ (i : Int), R (.d (bo false)) b)))))) := by kernel_rfl
end
def ABw9 (s : SprT) : Bool := AAm9 s.no.v s.no.n s.no.t && (!decide ((s.ps.length : Int) > ABi9 s.no.n) && (!((s.qs.length : Int) != s.ps.length) && (!ABd9 s.ps && allP s 0 s.ps s.qs)))
noncomputable def ASd9 : Code := sub [1, 1, 1, 1, 0, 1, 2, 3] (code Tryz.f53)
noncomputable def AKp9 : Code := sub [1, 1, 1, 1, 1, 0, 1, 2, 3] (code Tryz.f53)
def outB (s : SprT) (X Y : AV) : Blk := ⟨[.d (i64 s.no.v), .d (i64 s.no.n), .d (u64 s.no.r), .d (i64 s.no.t), X, Y, nilV, nilV, .d (i64 s.i1), .d (i64 s.i2), .d (i64 s.i3), .d (i64 s.i4), .d (i64 s.i5)], false, false, 0⟩
def AYi9 (pf rows : List (List Dv)) (n i : Int) : List AV := [.bad, .bad, .d (.sl 1 pf), .bad, .bad, .bad, .ptr 1 0, .bad, .ptr 2 0, .ptr 3 0] ++ List.replicate 52 .bad ++ [.d (.sl 1 rows), .d (i64 n), .d (i64 i)] ++ List.replicate 32 .bad
def AYh9 (rows : List (List Dv)) (n i : Int) : List AV := [.bad, .bad, .bad, .bad, .bad, .bad, .ptr 1 0, .bad, .ptr 2 0, .ptr 3 0] ++ List.replicate 72 .bad ++ [.d (.sl 1 rows), .d (i64 n), .d (i64 i)] ++ List.replicate 12 .bad
def TPa : List (Nat × (List AV → (AV → Prop) → Prop)) := [(120, BCp9), (51, ALg9)]
theorem BHm9 : AAa9 Tryz.prog TPa := AAa9.cons ARb9 (AAa9.cons AGk9 AAa9.nil)
section
variable {β : Type} (wl : WLT β) (y : AAg9 β) (b : β) (R : AV → β → Prop) (K : Exit → List AV → List Blk → β → Prop)
theorem r21a (s : SprT) (b0 b1 b2 : Blk) (J : List Blk) (pf rows acc : List (List Dv)) (n i : Int) : wpc Tryz.prog ⟨TPa, [], wl, y, false⟩ 100 ASd9 (AYi9 pf rows n i) ([b0, b1, b2, outB s (.own 33 1 acc) nilV] ++ J) b (maskT [2, 6, 8, 9, 62, 63, 64] K) = ( BIf (decide (i < n)) (BIf (true && decide ((0 : Int) ≤ i)) (∃ (xs0 : List (List Dv)), rows[Int.toNat i]? = some [Dv.sl 1 xs0] ∧ ∃ (xs3 : List (List Dv)), [AV.d (Dv.sl 1 xs0)] = [AV.d (Dv.sl 1 xs3)] ∧ List.length xs3 ≤ 1000000 ∧ BIf (true && decide ((List.length acc + 1) * 24 ≤ 140737488355328)) (K .normal [bad, bad, AV.d (Dv.sl 1 pf), bad, bad, bad, AV.ptr 1 0, bad, AV.ptr 2 0, AV.ptr 3 0, bad, bad, bad, bad, bad, bad, bad, bad, bad, bad, bad, bad, bad, bad, bad, bad, bad, bad, bad, bad, bad, bad, bad, bad, bad, bad, bad, bad, bad, bad, bad, bad, bad, bad, bad, bad, bad, bad, bad, bad, bad, bad, bad, bad, bad, bad, bad, bad, bad, bad, bad, bad, AV.d (Dv.sl 1 rows), AV.d (i64 n), AV.d (i64 (IntKind.wrap .i64 (i + (1 : Int)))), bad, bad, bad, bad, bad, bad, bad, bad, bad, bad, bad, bad, bad, bad, bad, bad, bad, bad, bad, bad, bad, bad, bad, bad, bad, bad, bad, bad, bad, bad, bad, bad] (b0 :: b1 :: b2 :: Blk.mk [AV.d (i64 (NotT.v (SprT.no s))), AV.d (i64 (NotT.n (SprT.no s))), AV.d (u64 (NotT.r (SprT.no s))), AV.d (i64 (NotT.t (SprT.no s))), AV.own 33 1 (acc ++ [[Dv.sl 1 xs3]]), AV.d (Dv.s (.slice none 0 0)), AV.d (Dv.s (.slice none 0 0)), AV.d (Dv.s (.slice none 0 0)), AV.d (i64 (SprT.i1 s)), AV.d (i64 (SprT.i2 s)), AV.d (i64 (SprT.i3 s)), AV.d (i64 (SprT.i4 s)), AV.d (i64 (SprT.i5 s))] false false 0 :: List.append._f [] PUnit.unit J) b) False) False) (K (Exit.exit 1) [bad, bad, AV.d (Dv.sl 1 pf), bad, bad, bad, AV.ptr 1 0, bad, AV.ptr 2 0, AV.ptr 3 0, bad, bad, bad, bad, bad, bad, bad, bad, bad, bad, bad, bad, bad, bad, bad, bad, bad, bad, bad, bad, bad, bad, bad, bad, bad, bad, bad, bad, bad, bad, bad, bad, bad, bad, bad, bad, bad, bad, bad, bad, bad, bad, bad, bad, bad, bad, bad, bad, bad, bad, bad, bad, AV.d (Dv.sl 1 rows), AV.d (i64 n), AV.d (i64 i), bad, bad, bad, bad, bad, bad, bad, bad, bad, bad, bad, bad, bad, bad, bad, bad, bad, bad, bad, bad, bad, bad, bad, bad, bad, bad, bad, bad, bad, bad, bad, bad] (b0 :: b1 :: b2 :: Blk.mk [AV.d (i64 (NotT.v (SprT.no s))), AV.d (i64 (NotT.n (SprT.no s))), AV.d (u64 (NotT.r (SprT.no s))), AV.d (i64 (NotT.t (SprT.no s))), AV.own 33 1 acc, AV.d (Dv.s (.slice none 0 0)), AV.d (Dv.s (.slice none 0 0)), AV.d (Dv.s (.slice none 0 0)), AV.d (i64 (SprT.i1 s)), AV.d (i64 (SprT.i2 s)), AV.d (i64 (SprT.i3 s)), AV.d (i64 (SprT.i4 s)), AV.d (i64 (SprT.i5 s))] false false 0 :: List.append._f [] PUnit.unit J) b)) := by kernel_rfl
theorem r21b (s : SprT) (b0 b1 b2 : Blk) (J : List Blk) (X : List (List Dv)) (rows acc : List (List Dv)) (n i : Int) : wpc Tryz.prog ⟨TPa, [], wl, y, false⟩ 100 AKp9 (AYh9 rows n i) ([b0, b1, b2, outB s (.own 33 1 X) (.own 28 1 acc)] ++ J) b (maskT [6, 8, 9, 82, 83, 84] K) = ( BIf (decide (i < n)) (BIf (true && decide ((0 : Int) ≤ i)) (∃ (xs0 : List (List Dv)), rows[Int.toNat i]? = some [Dv.sl 1 xs0] ∧ ∃ (xs3 : List (List Dv)), [AV.d (Dv.sl 1 xs0)] = [AV.d (Dv.sl 1 xs3)] ∧ List.length xs3 ≤ 1000000 ∧ BIf (true && decide ((List.length acc + 1) * 24 ≤ 140737488355328)) (K .normal [bad, bad, bad, bad, bad, bad, AV.ptr 1 0, bad, AV.ptr 2 0, AV.ptr 3 0, bad, bad, bad, bad, bad, bad, bad, bad, bad, bad, bad, bad, bad, bad, bad, bad, bad, bad, bad, bad, bad, bad, bad, bad, bad, bad, bad, bad, bad, bad, bad, bad, bad, bad, bad, bad, bad, bad, bad, bad, bad, bad, bad, bad, bad, bad, bad, bad, bad, bad, bad, bad, bad, bad, bad, bad, bad, bad, bad, bad, bad, bad, bad, bad, bad, bad, bad, bad, bad, bad, bad, bad, AV.d (Dv.sl 1 rows), AV.d (i64 n), AV.d (i64 (IntKind.wrap .i64 (i + (1 : Int)))), bad, bad, bad, bad, bad, bad, bad, bad, bad, bad, bad, bad] (b0 :: b1 :: b2 :: Blk.mk [AV.d (i64 (NotT.v (SprT.no s))), AV.d (i64 (NotT.n (SprT.no s))), AV.d (u64 (NotT.r (SprT.no s))), AV.d (i64 (NotT.t (SprT.no s))), AV.own 33 1 X, AV.own 28 1 (acc ++ [[Dv.sl 1 xs3]]), AV.d (Dv.s (.slice none 0 0)), AV.d (Dv.s (.slice none 0 0)), AV.d (i64 (SprT.i1 s)), AV.d (i64 (SprT.i2 s)), AV.d (i64 (SprT.i3 s)), AV.d (i64 (SprT.i4 s)), AV.d (i64 (SprT.i5 s))] false false 0 :: List.append._f [] PUnit.unit J) b) False) False) (K (Exit.exit 3) [bad, bad, bad, bad, bad, bad, AV.ptr 1 0, bad, AV.ptr 2 0, AV.ptr 3 0, bad, bad, bad, bad, bad, bad, bad, bad, bad, bad, bad, bad, bad, bad, bad, bad, bad, bad, bad, bad, bad, bad, bad, bad, bad, bad, bad, bad, bad, bad, bad, bad, bad, bad, bad, bad, bad, bad, bad, bad, bad, bad, bad, bad, bad, bad, bad, bad, bad, bad, bad, bad, bad, bad, bad, bad, bad, bad, bad, bad, bad, bad, bad, bad, bad, bad, bad, bad, bad, bad, bad, bad, AV.d (Dv.sl 1 rows), AV.d (i64 n), AV.d (i64 i), bad, bad, bad, bad, bad, bad, bad, bad, bad, bad, bad, bad] (b0 :: b1 :: b2 :: Blk.mk [AV.d (i64 (NotT.v (SprT.no s))), AV.d (i64 (NotT.n (SprT.no s))), AV.d (u64 (NotT.r (SprT.no s))), AV.d (i64 (NotT.t (SprT.no s))), AV.own 33 1 X, AV.own 28 1 acc, AV.d (Dv.s (.slice none 0 0)), AV.d (Dv.s (.slice none 0 0)), AV.d (i64 (SprT.i1 s)), AV.d (i64 (SprT.i2 s)), AV.d (i64 (SprT.i3 s)), AV.d (i64 (SprT.i4 s)), AV.d (i64 (SprT.i5 s))] false false 0 :: List.append._f [] PUnit.unit J) b)) := by kernel_rfl
end
theorem BRw9 (s : SprT) (hl : s.ps.length ≤ 9223372036854775807) : PCall Tryz.prog 88 [spV s] (.d (bo (ABw9 s))) := by
 refine PCall.ofFnW (n := 100) (u := false) (fun _ => wl45) mixed TSs_ok AAb9.nil (fun Ev => BQk9) Tryz.func88 (by rfl) (by rfl) fun Ev bb => ?_
 rw [BLg9]
 refine ⟨_, _, _, _, _, rfl, rfl, BIf.of (fun g => ?_) fun g1 => ⟨_, _, rfl, rfl, BIf.of (fun g => ?_) fun g2 => BIf.of (fun g => ?_) fun g3 => ⟨_, _, rfl, ⟨hl, rfl⟩, BIf.of (fun g => ?_) fun g4 => ⟨s, _, rfl, rfl, rfl, ⟨⟨?_, ?_⟩, rfl⟩, BIf.of (fun g5 _ => ?_) fun g5 _ => ?_⟩⟩⟩⟩
 · have : AAm9 s.no.v s.no.n s.no.t = false := by simpa using g
   rw [ABw9, this]; rfl
 · rw [AAh9] at g
   have h1 : AAm9 s.no.v s.no.n s.no.t = true := by simpa using g1
   rw [ABw9, h1, g]; rfl
 · rw [AAh9, AAy9] at g
   rw [AAh9] at g2
   have h1 : AAm9 s.no.v s.no.n s.no.t = true := by simpa using g1
   rw [ABw9, h1, g2, g]; rfl
 · rw [AAh9, AAy9] at g3
   rw [AAh9] at g2
   have h1 : AAm9 s.no.v s.no.n s.no.t = true := by simpa using g1
   have h4 : ABd9 s.ps = true := by simpa using g
   rw [ABw9, h1, g2, g3, h4]; rfl
 · rw [AAh9] at g2
   have h1 : AAm9 s.no.v s.no.n s.no.t = true := by simpa using g1
   have h6 : ADa9 s.no.n = true := by simp only [AAm9, Bool.and_eq_true] at h1; exact h1.2.2.1
   obtain ⟨k, hk, hk1, hk2⟩ := AFe9 h6
   rw [hk, AGj9 (by omega)] at g2
   simp at g2; omega
 · rw [AAh9, AAy9] at g3
   simp at g3; omega
 · rw [AAh9] at g2
   rw [AAh9, AAy9] at g3
   have h1 : AAm9 s.no.v s.no.n s.no.t = true := by simpa using g1
   have h4 : ABd9 s.ps = false := by simpa using g4
   rw [ABw9, h1, g2, g3, h4, g5]; rfl
 · rw [AAh9] at g2
   rw [AAh9, AAy9] at g3
   have h1 : AAm9 s.no.v s.no.n s.no.t = true := by simpa using g1
   have h4 : ABd9 s.ps = false := by simpa using g4
   rw [ABw9, h1, g2, g3, h4, g5]; rfl
def BOh9 (args : List AV) (K : AV → Prop) : Prop := ∃ (s : SprT) (z : Bool), args = [spV s] ∧ (s.ps.length ≤ 9223372036854775807 ∧ z = ABw9 s) ∧ K (.d (bo z))
theorem AUw9 : ∀ args K, BOh9 args K → ∃ x, PCall Tryz.prog 88 args x ∧ K x := by
 rintro _ K ⟨s, _, rfl, ⟨hl, rfl⟩, h⟩; exact ⟨_, BRw9 s hl, h⟩
theorem AKi9 (ps : List (List Int)) (p : List Int) : AAe9 ps ++ [[.sl 1 (AAd9 p)]] = AAe9 (ps ++ [p]) := by simp [AAe9]
theorem AIi9 (ps : List (List Int)) (p : List Int) : AAf9 ps ++ [[.sl 1 (digR p)]] = AAf9 (ps ++ [p]) := by simp [AAf9]
theorem BPr9 {Ev : Env Tryz.prog} {b : Ev.β} {Q : Exit → St Ev.β → Prop} (s : SprT) (b0 b1 b2 : Blk) (J : List Blk) (pf : List (List Dv)) (L : List (List Int)) (hl : L.length ≤ 1000000) (hL : ∀ p ∈ L, p.length ≤ 1000000) : ∀ (rest : List (List Int)) (k : Nat) (acc : List (List Int)), L.drop k = rest → k ≤ L.length → acc.length ≤ k →
   (∀ i : Int, Q (.exit 1) ⟨AYi9 pf (AAe9 L) L.length i, [b0, b1, b2, outB s (.own 33 1 (AAe9 (acc ++ rest))) nilV] ++ J, b⟩) → WR Ev ASd9 (rest.length + 1) ⟨AYi9 pf (AAe9 L) L.length k, [b0, b1, b2, outB s (.own 33 1 (AAe9 acc)) nilV] ++ J, b⟩ Q
 | [], k, acc, hd, hk, ha, h => by
   refine WR.ofMaskT [2, 6, 8, 9, 62, 63, 64] mixed (CX.Ok.of (u := false) BHm9 AAb9.nil) (k := 100) ?_
   rw [r21a]
   have := ADn9 hd
   rw [List.append_nil] at h
   exact BIf.f (by simp <;> omega) (h _)
 | p :: rest, k, acc, hd, hk, ha, h => by
   refine WR.ofMaskT [2, 6, 8, 9, 62, 63, 64] mixed (CX.Ok.of (u := false) BHm9 AAb9.nil) (k := 100) ?_
   rw [r21a]
   obtain ⟨hk', hr, hd'⟩ := ABv9 hd
   refine BIf.t (by simp <;> omega) (BIf.t (by simp) ⟨AAd9 p, by simp [AAe9, hr], _, rfl, by rw [AAj9]; exact hL p (List.mem_of_getElem? hr), BIf.t (by simp [AAh9] <;> omega) ?_⟩)
   rw [AKi9, ABj9 hk' (by omega)]
   refine BPr9 s b0 b1 b2 J pf L hl hL rest (k + 1) (acc ++ [p]) hd' hk' (by simp <;> omega) ?_
   rw [List.append_assoc]; exact h
theorem BPq9 {Ev : Env Tryz.prog} {b : Ev.β} {Q : Exit → St Ev.β → Prop} (s : SprT) (b0 b1 b2 : Blk) (J : List Blk) (X : List (List Dv)) (L : List (List Int)) (hl : L.length ≤ 1000000) (hL : ∀ p ∈ L, p.length ≤ 1000000) : ∀ (rest : List (List Int)) (k : Nat) (acc : List (List Int)), L.drop k = rest → k ≤ L.length → acc.length ≤ k →
   (∀ i : Int, Q (.exit 3) ⟨AYh9 (AAf9 L) L.length i, [b0, b1, b2, outB s (.own 33 1 X) (.own 28 1 (AAf9 (acc ++ rest)))] ++ J, b⟩) → WR Ev AKp9 (rest.length + 1) ⟨AYh9 (AAf9 L) L.length k, [b0, b1, b2, outB s (.own 33 1 X) (.own 28 1 (AAf9 acc))] ++ J, b⟩ Q
 | [], k, acc, hd, hk, ha, h => by
   refine WR.ofMaskT [6, 8, 9, 82, 83, 84] mixed (CX.Ok.of (u := false) BHm9 AAb9.nil) (k := 100) ?_
   rw [r21b]
   have := ADn9 hd
   rw [List.append_nil] at h
   exact BIf.f (by simp <;> omega) (h _)
 | p :: rest, k, acc, hd, hk, ha, h => by
   refine WR.ofMaskT [6, 8, 9, 82, 83, 84] mixed (CX.Ok.of (u := false) BHm9 AAb9.nil) (k := 100) ?_
   rw [r21b]
   obtain ⟨hk', hr, hd'⟩ := ABv9 hd
   refine BIf.t (by simp <;> omega) (BIf.t (by simp) ⟨digR p, by simp [AAf9, hr], _, rfl, by rw [AAw9]; exact hL p (List.mem_of_getElem? hr), BIf.t (by simp [AAy9] <;> omega) ?_⟩)
   rw [AIi9, ABj9 hk' (by omega)]
   refine BPq9 s b0 b1 b2 J X L hl hL rest (k + 1) (acc ++ [p]) hd' hk' (by simp <;> omega) ?_
   rw [List.append_assoc]; exact h
def wl21I {β : Type} : WLT β := fun c tm hp b K => match cidO c with
 | 11 => c = .loop ASd9 ∧ APl9 hp [62] tm fun tm1 => ∃ (s : SprT) (pf : List (List Dv)) (L z : List (List Int)), ABc9 [2, 6, 8, 9, 62, 63, 64] 0 tm1 = AYi9 pf (AAe9 L) (AAe9 L).length 0 ∧ (frz hp (occ (tm.getD 62 .bad)))[3]? = some (outB s nilV nilV) ∧
     ((L.length ≤ 1000000 ∧ ∀ p ∈ L, p.length ≤ 1000000) ∧ z = L) ∧ ∀ i : Int, K (.exit 1) (AYi9 pf (AAe9 z) (AAe9 z).length i) ((frz hp (occ (tm.getD 62 .bad))).set 3 (outB s (.own 33 1 (AAe9 z)) nilV)) b
 | 16 => c = .loop AKp9 ∧ APl9 hp [82] tm fun tm1 => ∃ (s : SprT) (X : List (List Dv)) (L z : List (List Int)), ABc9 [6, 8, 9, 82, 83, 84] 0 tm1 = AYh9 (AAf9 L) (AAf9 L).length 0 ∧ (frz hp (occ (tm.getD 82 .bad)))[3]? = some (outB s (.own 33 1 X) nilV) ∧
     ((L.length ≤ 1000000 ∧ ∀ p ∈ L, p.length ≤ 1000000) ∧ z = L) ∧ ∀ i : Int, K (.exit 3) (AYh9 (AAf9 z) (AAf9 z).length i) ((frz hp (occ (tm.getD 82 .bad))).set 3 (outB s (.own 33 1 X) (.own 28 1 (AAf9 z)))) b
 | _ => False
theorem BKs9 {Ev : Env Tryz.prog} (c : Code) (tm : List AV) (hp : List Blk) (b : Ev.β) (K : Exit → List AV → List Blk → Ev.β → Prop) (h : wl21I c tm hp b K) : W Ev c ⟨tm, hp, b⟩ (fun e s => K e s.tm s.hp s.b) := by
 unfold wl21I at h
 split at h
 · obtain ⟨rfl, h⟩ := h
   refine W.sealed h ?_
   rintro tm1 ⟨s, pf, L, z, htm, h3, ⟨⟨hl, hL⟩, rfl⟩, hK⟩
   obtain ⟨b0, b1, b2, J, e⟩ := four h3
   rw [e] at hK ⊢
   rw [AAh9] at htm hK
   refine W.cast (htm ▸ AAk9 _ tm1 0) (hp' := [b0, b1, b2, outB s (.own 33 1 (AAe9 [])) nilV] ++ J) (LeH.at [b0, b1, b2] J (LeL.at [_, _, _, _] _ (LeA.nilOwn rfl))) ?_
   exact W.rounds (BPr9 (Q := fun e s => K e s.tm s.hp s.b) s b0 b1 b2 J pf z hl hL z 0 [] rfl (Nat.zero_le _) (Nat.zero_le _) hK)
 · obtain ⟨rfl, h⟩ := h
   refine W.sealed h ?_
   rintro tm1 ⟨s, X, L, z, htm, h3, ⟨⟨hl, hL⟩, rfl⟩, hK⟩
   obtain ⟨b0, b1, b2, J, e⟩ := four h3
   rw [e] at hK ⊢
   rw [AAy9] at htm hK
   refine W.cast (htm ▸ AAk9 _ tm1 0) (hp' := [b0, b1, b2, outB s (.own 33 1 X) (.own 28 1 (AAf9 []))] ++ J) (LeH.at [b0, b1, b2] J (LeL.at [_, _, _, _, _] _ (LeA.nilOwn rfl))) ?_
   exact W.rounds (BPq9 (Q := fun e s => K e s.tm s.hp s.b) s b0 b1 b2 J X z hl hL z 0 [] rfl (Nat.zero_le _) (Nat.zero_le _) hK)
 · exact h.elim
def TPt : List (Nat × (List AV → (AV → Prop) → Prop)) := [(125, BCn9), (88, BOh9), (126, BCf9)]
theorem TPt_ok : AAa9 Tryz.prog TPt := AAa9.cons AJp9 (AAa9.cons AUw9 (AAa9.cons AQz9 AAa9.nil))
def SPt : List (Nat × (List AV → List Blk → (AV → List Blk → Prop) → Prop)) := [(127, BLs9 1), (128, BLs9 1)]
theorem SPt_ok : AAb9 Tryz.prog SPt := AAb9.cons BEx9.toS (AAb9.cons BEw9.toS AAb9.nil)
section
variable {β : Type} (wl : WLT β) (y : AAg9 β) (b : β) (R : AV → β → Prop) (K : Exit → List AV → List Blk → β → Prop)
theorem put_nf (s : SprT) (p q : List (List Dv)) : wpFn Tryz.prog ⟨TPt, SPt, wl21I, y, false⟩ 100 Tryz.f53 [spV s, .d (.sl 1 p), .d (.sl 1 q)] b R = ( ∃ (s0 : SprT) (z1 : Bool), [AV.agg [AV.d (i64 (NotT.v (SprT.no s))), AV.d (i64 (NotT.n (SprT.no s))), AV.d (u64 (NotT.r (SprT.no s))), AV.d (i64 (NotT.t (SprT.no s))), AV.d (Dv.sl 1 (AAe9 (SprT.ps s))), AV.d (Dv.sl 1 (AAf9 (SprT.qs s))), AV.d (Dv.sl 2 (SprT.rows s)), AV.d (Dv.sl 1 (digR (SprT.pf s))), AV.d (i64 (SprT.i1 s)), AV.d (i64 (SprT.i2 s)), AV.d (i64 (SprT.i3 s)), AV.d (i64 (SprT.i4 s)), AV.d (i64 (SprT.i5 s))]] = [AV.agg [AV.d (i64 (NotT.v (SprT.no s0))), AV.d (i64 (NotT.n (SprT.no s0))), AV.d (u64 (NotT.r (SprT.no s0))), AV.d (i64 (NotT.t (SprT.no s0))), AV.d (Dv.sl 1 (AAe9 (SprT.ps s0))), AV.d (Dv.sl 1 (AAf9 (SprT.qs s0))), AV.d (Dv.sl 2 (SprT.rows s0)), AV.d (Dv.sl 1 (digR (SprT.pf s0))), AV.d (i64 (SprT.i1 s0)), AV.d (i64 (SprT.i2 s0)), AV.d (i64 (SprT.i3 s0)), AV.d (i64 (SprT.i4 s0)), AV.d (i64 (SprT.i5 s0))]] ∧ (List.length (SprT.ps s0) ≤ 9223372036854775807 ∧ z1 = ABw9 s0) ∧ BIf (!z1) (R (.tup [AV.agg [AV.d (i64 0), AV.d (i64 0), AV.d (u64 0), AV.d (i64 0), AV.d (Dv.s (.slice none 0 0)), AV.d (Dv.s (.slice none 0 0)), AV.d (Dv.s (.slice none 0 0)), AV.d (Dv.s (.slice none 0 0)), AV.d (i64 0), AV.d (i64 0), AV.d (i64 0), AV.d (i64 0), AV.d (i64 0)], AV.d (i64 1)]) b) (BIf (((List.length p : Nat) : Int) != (256 : Int)) (R (.tup [AV.agg [AV.d (i64 0), AV.d (i64 0), AV.d (u64 0), AV.d (i64 0), AV.d (Dv.s (.slice none 0 0)), AV.d (Dv.s (.slice none 0 0)), AV.d (Dv.s (.slice none 0 0)), AV.d (Dv.s (.slice none 0 0)), AV.d (i64 0), AV.d (i64 0), AV.d (i64 0), AV.d (i64 0), AV.d (i64 0)], AV.d (i64 1)]) b) (∃ (n2 : Int) (z3 : Int), [AV.d (i64 (NotT.n (SprT.no s)))] = [AV.d (i64 n2)] ∧ z3 = ABi9 n2 ∧ BIf (((List.length (AAe9 (SprT.ps s)) : Nat) : Int) == z3) (R (.tup [AV.agg [AV.d (i64 0), AV.d (i64 0), AV.d (u64 0), AV.d (i64 0), AV.d (Dv.s (.slice none 0 0)), AV.d (Dv.s (.slice none 0 0)), AV.d (Dv.s (.slice none 0 0)), AV.d (Dv.s (.slice none 0 0)), AV.d (i64 0), AV.d (i64 0), AV.d (i64 0), AV.d (i64 0), AV.d (i64 0)], AV.d (i64 10)]) b) (∃ (s4 : SprT) (i5 : Int) (p6 : List Int) (q7 : List Int) (z8 : Bool), [AV.agg [AV.d (i64 (NotT.v (SprT.no s))), AV.d (i64 (NotT.n (SprT.no s))), AV.d (u64 (NotT.r (SprT.no s))), AV.d (i64 (NotT.t (SprT.no s))), AV.d (Dv.sl 1 (AAe9 (SprT.ps s))), AV.d (Dv.sl 1 (AAf9 (SprT.qs s))), AV.d (Dv.sl 2 (SprT.rows s)), AV.d (Dv.sl 1 (digR (SprT.pf s))), AV.d (i64 (SprT.i1 s)), AV.d (i64 (SprT.i2 s)), AV.d (i64 (SprT.i3 s)), AV.d (i64 (SprT.i4 s)), AV.d (i64 (SprT.i5 s))], AV.d (i64 ((List.length (AAe9 (SprT.ps s)) : Nat) : Int)), AV.d (Dv.sl 1 p), AV.d (Dv.sl 1 q)] = [AV.agg [AV.d (i64 (NotT.v (SprT.no s4))), AV.d (i64 (NotT.n (SprT.no s4))), AV.d (u64 (NotT.r (SprT.no s4))), AV.d (i64 (NotT.t (SprT.no s4))), AV.d (Dv.sl 1 (AAe9 (SprT.ps s4))), AV.d (Dv.sl 1 (AAf9 (SprT.qs s4))), AV.d (Dv.sl 2 (SprT.rows s4)), AV.d (Dv.sl 1 (digR (SprT.pf s4))), AV.d (i64 (SprT.i1 s4)), AV.d (i64 (SprT.i2 s4)), AV.d (i64 (SprT.i3 s4)), AV.d (i64 (SprT.i4 s4)), AV.d (i64 (SprT.i5 s4))], AV.d (i64 i5), AV.d (Dv.sl 1 (AAd9 p6)), AV.d (Dv.sl 1 (digR q7))] ∧ z8 = ABq9 s4 i5 p6 q7 ∧ BIf (!z8) (R (.tup [AV.agg [AV.d (i64 0), AV.d (i64 0), AV.d (u64 0), AV.d (i64 0), AV.d (Dv.s (.slice none 0 0)), AV.d (Dv.s (.slice none 0 0)), AV.d (Dv.s (.slice none 0 0)), AV.d (Dv.s (.slice none 0 0)), AV.d (i64 0), AV.d (i64 0), AV.d (i64 0), AV.d (i64 0), AV.d (i64 0)], AV.d (i64 12)]) b) (∃ (xs9 : List (List Dv)), [AV.d (Dv.sl 1 (AAe9 (SprT.ps s)))] = [AV.d (Dv.sl 1 xs9)] ∧ List.length xs9 ≤ 1000000 ∧ BIf (List.isEmpty xs9) (Code.loop ASd9 = Code.loop ASd9 ∧ ∃ (s10 : SprT) (pf11 : List (List Dv)) (L12 : List (List Int)) (z13 : List (List Int)), [bad, bad, AV.d (Dv.sl 1 q), bad, bad, bad, AV.ptr 1 0, bad, AV.ptr 2 0, AV.ptr 3 0, bad, bad, bad, bad, bad, bad, bad, bad, bad, bad, bad, bad, bad, bad, bad, bad, bad, bad, bad, bad, bad, bad, bad, bad, bad, bad, bad, bad, bad, bad, bad, bad, bad, bad, bad, bad, bad, bad, bad, bad, bad, bad, bad, bad, bad, bad, bad, bad, bad, bad, bad, bad, AV.d (Dv.sl 1 [[Dv.sl 1 p]]), AV.d (i64 1), AV.d (i64 0), bad, bad, bad, bad, bad, bad, bad, bad, bad, bad, bad, bad, bad, bad, bad, bad, bad, bad, bad, bad, bad, bad, bad, bad, bad, bad, bad, bad, bad, bad, bad, bad] = [bad, bad, AV.d (Dv.sl 1 pf11), bad, bad, bad, AV.ptr 1 0, bad, AV.ptr 2 0, AV.ptr 3 0, bad, bad, bad, bad, bad, bad, bad, bad, bad, bad, bad, bad, bad, bad, bad, bad, bad, bad, bad, bad, bad, bad, bad, bad, bad, bad, bad, bad, bad, bad, bad, bad, bad, bad, bad, bad, bad, bad, bad, bad, bad, bad, bad, bad, bad, bad, bad, bad, bad, bad, bad, bad, AV.d (Dv.sl 1 (AAe9 L12)), AV.d (i64 ((List.length (AAe9 L12) : Nat) : Int)), AV.d (i64 0), bad, bad, bad, bad, bad, bad, bad, bad, bad, bad, bad, bad, bad, bad, bad, bad, bad, bad, bad, bad, bad, bad, bad, bad, bad, bad, bad, bad, bad, bad, bad, bad] ∧ some (Blk.mk [AV.d (i64 (NotT.v (SprT.no s))), AV.d (i64 (NotT.n (SprT.no s))), AV.d (u64 (NotT.r (SprT.no s))), AV.d (i64 (NotT.t (SprT.no s))), AV.d (Dv.s (.slice none 0 0)), AV.d (Dv.s (.slice none 0 0)), AV.d (Dv.s (.slice none 0 0)), AV.d (Dv.s (.slice none 0 0)), AV.d (i64 (SprT.i1 s)), AV.d (i64 (SprT.i2 s)), AV.d (i64 (SprT.i3 s)), AV.d (i64 (SprT.i4 s)), AV.d (i64 (SprT.i5 s))] false false 0) = some (Blk.mk [AV.d (i64 (NotT.v (SprT.no s10))), AV.d (i64 (NotT.n (SprT.no s10))), AV.d (u64 (NotT.r (SprT.no s10))), AV.d (i64 (NotT.t (SprT.no s10))), AV.d (Dv.s (.slice none 0 0)), AV.d (Dv.s (.slice none 0 0)), AV.d (Dv.s (.slice none 0 0)), AV.d (Dv.s (.slice none 0 0)), AV.d (i64 (SprT.i1 s10)), AV.d (i64 (SprT.i2 s10)), AV.d (i64 (SprT.i3 s10)), AV.d (i64 (SprT.i4 s10)), AV.d (i64 (SprT.i5 s10))] false false 0) ∧ ((List.length L12 ≤ 1000000 ∧ ∀ (p : List Int), p ∈ L12 → List.length p ≤ 1000000) ∧ z13 = L12) ∧ ∀ (i : Int), ∃ (xs14 : List (List Dv)), [AV.d (Dv.sl 1 (AAf9 (SprT.qs s)))] = [AV.d (Dv.sl 1 xs14)] ∧ List.length xs14 ≤ 1000000 ∧ BIf (List.isEmpty xs14) (Code.loop AKp9 = Code.loop AKp9 ∧ ∃ (s15 : SprT) (X16 : List (List Dv)) (L17 : List (List Int)) (z18 : List (List Int)), [bad, bad, bad, bad, bad, bad, AV.ptr 1 0, bad, AV.ptr 2 0, AV.ptr 3 0, bad, bad, bad, bad, bad, bad, bad, bad, bad, bad, bad, bad, bad, bad, bad, bad, bad, bad, bad, bad, bad, bad, bad, bad, bad, bad, bad, bad, bad, bad, bad, bad, bad, bad, bad, bad, bad, bad, bad, bad, bad, bad, bad, bad, bad, bad, bad, bad, bad, bad, bad, bad, bad, bad, bad, bad, bad, bad, bad, bad, bad, bad, bad, bad, bad, bad, bad, bad, bad, bad, bad, bad, AV.d (Dv.sl 1 [[Dv.sl 1 pf11]]), AV.d (i64 1), AV.d (i64 0), bad, bad, bad, bad, bad, bad, bad, bad, bad, bad, bad, bad] = [bad, bad, bad, bad, bad, bad, AV.ptr 1 0, bad, AV.ptr 2 0, AV.ptr 3 0, bad, bad, bad, bad, bad, bad, bad, bad, bad, bad, bad, bad, bad, bad, bad, bad, bad, bad, bad, bad, bad, bad, bad, bad, bad, bad, bad, bad, bad, bad, bad, bad, bad, bad, bad, bad, bad, bad, bad, bad, bad, bad, bad, bad, bad, bad, bad, bad, bad, bad, bad, bad, bad, bad, bad, bad, bad, bad, bad, bad, bad, bad, bad, bad, bad, bad, bad, bad, bad, bad, bad, bad, AV.d (Dv.sl 1 (AAf9 L17)), AV.d (i64 ((List.length (AAf9 L17) : Nat) : Int)), AV.d (i64 0), bad, bad, bad, bad, bad, bad, bad, bad, bad, bad, bad, bad] ∧ some (Blk.mk [AV.d (i64 (NotT.v (SprT.no s10))), AV.d (i64 (NotT.n (SprT.no s10))), AV.d (u64 (NotT.r (SprT.no s10))), AV.d (i64 (NotT.t (SprT.no s10))), AV.own 33 1 (AAe9 z13), AV.d (Dv.s (.slice none 0 0)), AV.d (Dv.s (.slice none 0 0)), AV.d (Dv.s (.slice none 0 0)), AV.d (i64 (SprT.i1 s10)), AV.d (i64 (SprT.i2 s10)), AV.d (i64 (SprT.i3 s10)), AV.d (i64 (SprT.i4 s10)), AV.d (i64 (SprT.i5 s10))] false false 0) = some (Blk.mk [AV.d (i64 (NotT.v (SprT.no s15))), AV.d (i64 (NotT.n (SprT.no s15))), AV.d (u64 (NotT.r (SprT.no s15))), AV.d (i64 (NotT.t (SprT.no s15))), AV.own 33 1 X16, AV.d (Dv.s (.slice none 0 0)), AV.d (Dv.s (.slice none 0 0)), AV.d (Dv.s (.slice none 0 0)), AV.d (i64 (SprT.i1 s15)), AV.d (i64 (SprT.i2 s15)), AV.d (i64 (SprT.i3 s15)), AV.d (i64 (SprT.i4 s15)), AV.d (i64 (SprT.i5 s15))] false false 0) ∧ ((List.length L17 ≤ 1000000 ∧ ∀ (p : List Int), p ∈ L17 → List.length p ≤ 1000000) ∧ z18 = L17) ∧ ∀ (i : Int), R (.tup [AV.agg [AV.d (i64 (NotT.v (SprT.no s15))), AV.d (i64 (NotT.n (SprT.no s15))), AV.d (u64 (NotT.r (SprT.no s15))), AV.d (i64 (NotT.t (SprT.no s15))), AV.d (Dv.sl 1 X16), AV.d (Dv.sl 1 (AAf9 z18)), AV.d (Dv.s (.slice none 0 0)), AV.d (Dv.s (.slice none 0 0)), AV.d (i64 (SprT.i1 s15)), AV.d (i64 (SprT.i2 s15)), AV.d (i64 (SprT.i3 s15)), AV.d (i64 (SprT.i4 s15)), AV.d (i64 (SprT.i5 s15))], AV.d (i64 0)]) b) (0 = 0 ∧ BIf (decide ((List.length xs14 + 1) * 24 ≤ 140737488355328)) (1 = 1 ∧ Code.loop AKp9 = Code.loop AKp9 ∧ 1 = 1 ∧ ∃ (xs19 : List (List Dv)), flatA xs14 ++ [AV.d (Dv.sl 1 pf11)] = flatA xs19 ∧ List.length xs19 = List.length xs14 + 1 ∧ (∀ (r : List Dv), r ∈ xs19 → List.length r = 1) ∧ ∃ (s20 : SprT) (X21 : List (List Dv)) (L22 : List (List Int)) (z23 : List (List Int)), [bad, bad, bad, bad, bad, bad, AV.ptr 1 0, bad, AV.ptr 2 0, AV.ptr 3 0, bad, bad, bad, bad, bad, bad, bad, bad, bad, bad, bad, bad, bad, bad, bad, bad, bad, bad, bad, bad, bad, bad, bad, bad, bad, bad, bad, bad, bad, bad, bad, bad, bad, bad, bad, bad, bad, bad, bad, bad, bad, bad, bad, bad, bad, bad, bad, bad, bad, bad, bad, bad, bad, bad, bad, bad, bad, bad, bad, bad, bad, bad, bad, bad, bad, bad, bad, bad, bad, bad, bad, bad, AV.d (Dv.sl 1 xs19), AV.d (i64 ((List.length xs14 + 1 : Nat) : Int)), AV.d (i64 0), bad, bad, bad, bad, bad, bad, bad, bad, bad, bad, bad, bad] = [bad, bad, bad, bad, bad, bad, AV.ptr 1 0, bad, AV.ptr 2 0, AV.ptr 3 0, bad, bad, bad, bad, bad, bad, bad, bad, bad, bad, bad, bad, bad, bad, bad, bad, bad, bad, bad, bad, bad, bad, bad, bad, bad, bad, bad, bad, bad, bad, bad, bad, bad, bad, bad, bad, bad, bad, bad, bad, bad, bad, bad, bad, bad, bad, bad, bad, bad, bad, bad, bad, bad, bad, bad, bad, bad, bad, bad, bad, bad, bad, bad, bad, bad, bad, bad, bad, bad, bad, bad, bad, AV.d (Dv.sl 1 (AAf9 L22)), AV.d (i64 ((List.length (AAf9 L22) : Nat) : Int)), AV.d (i64 0), bad, bad, bad, bad, bad, bad, bad, bad, bad, bad, bad, bad] ∧ some (Blk.mk [AV.d (i64 (NotT.v (SprT.no s10))), AV.d (i64 (NotT.n (SprT.no s10))), AV.d (u64 (NotT.r (SprT.no s10))), AV.d (i64 (NotT.t (SprT.no s10))), AV.own 33 1 (AAe9 z13), AV.d (Dv.s (.slice none 0 0)), AV.d (Dv.s (.slice none 0 0)), AV.d (Dv.s (.slice none 0 0)), AV.d (i64 (SprT.i1 s10)), AV.d (i64 (SprT.i2 s10)), AV.d (i64 (SprT.i3 s10)), AV.d (i64 (SprT.i4 s10)), AV.d (i64 (SprT.i5 s10))] false false 0) = some (Blk.mk [AV.d (i64 (NotT.v (SprT.no s20))), AV.d (i64 (NotT.n (SprT.no s20))), AV.d (u64 (NotT.r (SprT.no s20))), AV.d (i64 (NotT.t (SprT.no s20))), AV.own 33 1 X21, AV.d (Dv.s (.slice none 0 0)), AV.d (Dv.s (.slice none 0 0)), AV.d (Dv.s (.slice none 0 0)), AV.d (i64 (SprT.i1 s20)), AV.d (i64 (SprT.i2 s20)), AV.d (i64 (SprT.i3 s20)), AV.d (i64 (SprT.i4 s20)), AV.d (i64 (SprT.i5 s20))] false false 0) ∧ ((List.length L22 ≤ 1000000 ∧ ∀ (p : List Int), p ∈ L22 → List.length p ≤ 1000000) ∧ z23 = L22) ∧ ∀ (i : Int), R (.tup [AV.agg [AV.d (i64 (NotT.v (SprT.no s20))), AV.d (i64 (NotT.n (SprT.no s20))), AV.d (u64 (NotT.r (SprT.no s20))), AV.d (i64 (NotT.t (SprT.no s20))), AV.d (Dv.sl 1 X21), AV.d (Dv.sl 1 (AAf9 z23)), AV.d (Dv.s (.slice none 0 0)), AV.d (Dv.s (.slice none 0 0)), AV.d (i64 (SprT.i1 s20)), AV.d (i64 (SprT.i2 s20)), AV.d (i64 (SprT.i3 s20)), AV.d (i64 (SprT.i4 s20)), AV.d (i64 (SprT.i5 s20))], AV.d (i64 0)]) b) False)) (0 = 0 ∧ BIf (decide ((List.length xs9 + 1) * 24 ≤ 140737488355328)) (1 = 1 ∧ Code.loop ASd9 = Code.loop ASd9 ∧ 1 = 1 ∧ ∃ (xs24 : List (List Dv)), flatA xs9 ++ [AV.d (Dv.sl 1 p)] = flatA xs24 ∧ List.length xs24 = List.length xs9 + 1 ∧ (∀ (r : List Dv), r ∈ xs24 → List.length r = 1) ∧ ∃ (s25 : SprT) (pf26 : List (List Dv)) (L27 : List (List Int)) (z28 : List (List Int)), [bad, bad, AV.d (Dv.sl 1 q), bad, bad, bad, AV.ptr 1 0, bad, AV.ptr 2 0, AV.ptr 3 0, bad, bad, bad, bad, bad, bad, bad, bad, bad, bad, bad, bad, bad, bad, bad, bad, bad, bad, bad, bad, bad, bad, bad, bad, bad, bad, bad, bad, bad, bad, bad, bad, bad, bad, bad, bad, bad, bad, bad, bad, bad, bad, bad, bad, bad, bad, bad, bad, bad, bad, bad, bad, AV.d (Dv.sl 1 xs24), AV.d (i64 ((List.length xs9 + 1 : Nat) : Int)), AV.d (i64 0), bad, bad, bad, bad, bad, bad, bad, bad, bad, bad, bad, bad, bad, bad, bad, bad, bad, bad, bad, bad, bad, bad, bad, bad, bad, bad, bad, bad, bad, bad, bad, bad] = [bad, bad, AV.d (Dv.sl 1 pf26), bad, bad, bad, AV.ptr 1 0, bad, AV.ptr 2 0, AV.ptr 3 0, bad, bad, bad, bad, bad, bad, bad, bad, bad, bad, bad, bad, bad, bad, bad, bad, bad, bad, bad, bad, bad, bad, bad, bad, bad, bad, bad, bad, bad, bad, bad, bad, bad, bad, bad, bad, bad, bad, bad, bad, bad, bad, bad, bad, bad, bad, bad, bad, bad, bad, bad, bad, AV.d (Dv.sl 1 (AAe9 L27)), AV.d (i64 ((List.length (AAe9 L27) : Nat) : Int)), AV.d (i64 0), bad, bad, bad, bad, bad, bad, bad, bad, bad, bad, bad, bad, bad, bad, bad, bad, bad, bad, bad, bad, bad, bad, bad, bad, bad, bad, bad, bad, bad, bad, bad, bad] ∧ some (Blk.mk [AV.d (i64 (NotT.v (SprT.no s))), AV.d (i64 (NotT.n (SprT.no s))), AV.d (u64 (NotT.r (SprT.no s))), AV.d (i64 (NotT.t (SprT.no s))), AV.d (Dv.s (.slice none 0 0)), AV.d (Dv.s (.slice none 0 0)), AV.d (Dv.s (.slice none 0 0)), AV.d (Dv.s (.slice none 0 0)), AV.d (i64 (SprT.i1 s)), AV.d (i64 (SprT.i2 s)), AV.d (i64 (SprT.i3 s)), AV.d (i64 (SprT.i4 s)), AV.d (i64 (SprT.i5 s))] false false 0) = some (Blk.mk [AV.d (i64 (NotT.v (SprT.no s25))), AV.d (i64 (NotT.n (SprT.no s25))), AV.d (u64 (NotT.r (SprT.no s25))), AV.d (i64 (NotT.t (SprT.no s25))), AV.d (Dv.s (.slice none 0 0)), AV.d (Dv.s (.slice none 0 0)), AV.d (Dv.s (.slice none 0 0)), AV.d (Dv.s (.slice none 0 0)), AV.d (i64 (SprT.i1 s25)), AV.d (i64 (SprT.i2 s25)), AV.d (i64 (SprT.i3 s25)), AV.d (i64 (SprT.i4 s25)), AV.d (i64 (SprT.i5 s25))] false false 0) ∧ ((List.length L27 ≤ 1000000 ∧ ∀ (p : List Int), p ∈ L27 → List.length p ≤ 1000000) ∧ z28 = L27) ∧ ∀ (i : Int), ∃ (xs29 : List (List Dv)), [AV.d (Dv.sl 1 (AAf9 (SprT.qs s)))] = [AV.d (Dv.sl 1 xs29)] ∧ List.length xs29 ≤ 1000000 ∧ BIf (List.isEmpty xs29) (Code.loop AKp9 = Code.loop AKp9 ∧ ∃ (s30 : SprT) (X31 : List (List Dv)) (L32 : List (List Int)) (z33 : List (List Int)), [bad, bad, bad, bad, bad, bad, AV.ptr 1 0, bad, AV.ptr 2 0, AV.ptr 3 0, bad, bad, bad, bad, bad, bad, bad, bad, bad, bad, bad, bad, bad, bad, bad, bad, bad, bad, bad, bad, bad, bad, bad, bad, bad, bad, bad, bad, bad, bad, bad, bad, bad, bad, bad, bad, bad, bad, bad, bad, bad, bad, bad, bad, bad, bad, bad, bad, bad, bad, bad, bad, bad, bad, bad, bad, bad, bad, bad, bad, bad, bad, bad, bad, bad, bad, bad, bad, bad, bad, bad, bad, AV.d (Dv.sl 1 [[Dv.sl 1 pf26]]), AV.d (i64 1), AV.d (i64 0), bad, bad, bad, bad, bad, bad, bad, bad, bad, bad, bad, bad] = [bad, bad, bad, bad, bad, bad, AV.ptr 1 0, bad, AV.ptr 2 0, AV.ptr 3 0, bad, bad, bad, bad, bad, bad, bad, bad, bad, bad, bad, bad, bad, bad, bad, bad, bad, bad, bad, bad, bad, bad, bad, bad, bad, bad, bad, bad, bad, bad, bad, bad, bad, bad, bad, bad, bad, bad, bad, bad, bad, bad, bad, bad, bad, bad, bad, bad, bad, bad, bad, bad, bad, bad, bad, bad, bad, bad, bad, bad, bad, bad, bad, bad, bad, bad, bad, bad, bad, bad, bad, bad, AV.d (Dv.sl 1 (AAf9 L32)), AV.d (i64 ((List.length (AAf9 L32) : Nat) : Int)), AV.d (i64 0), bad, bad, bad, bad, bad, bad, bad, bad, bad, bad, bad, bad] ∧ some (Blk.mk [AV.d (i64 (NotT.v (SprT.no s25))), AV.d (i64 (NotT.n (SprT.no s25))), AV.d (u64 (NotT.r (SprT.no s25))), AV.d (i64 (NotT.t (SprT.no s25))), AV.own 33 1 (AAe9 z28), AV.d (Dv.s (.slice none 0 0)), AV.d (Dv.s (.slice none 0 0)), AV.d (Dv.s (.slice none 0 0)), AV.d (i64 (SprT.i1 s25)), AV.d (i64 (SprT.i2 s25)), AV.d (i64 (SprT.i3 s25)), AV.d (i64 (SprT.i4 s25)), AV.d (i64 (SprT.i5 s25))] false false 0) = some (Blk.mk [AV.d (i64 (NotT.v (SprT.no s30))), AV.d (i64 (NotT.n (SprT.no s30))), AV.d (u64 (NotT.r (SprT.no s30))), AV.d (i64 (NotT.t (SprT.no s30))), AV.own 33 1 X31, AV.d (Dv.s (.slice none 0 0)), AV.d (Dv.s (.slice none 0 0)), AV.d (Dv.s (.slice none 0 0)), AV.d (i64 (SprT.i1 s30)), AV.d (i64 (SprT.i2 s30)), AV.d (i64 (SprT.i3 s30)), AV.d (i64 (SprT.i4 s30)), AV.d (i64 (SprT.i5 s30))] false false 0) ∧ ((List.length L32 ≤ 1000000 ∧ ∀ (p : List Int), p ∈ L32 → List.length p ≤ 1000000) ∧ z33 = L32) ∧ ∀ (i : Int), R (.tup [AV.agg [AV.d (i64 (NotT.v (SprT.no s30))), AV.d (i64 (NotT.n (SprT.no s30))), AV.d (u64 (NotT.r (SprT.no s30))), AV.d (i64 (NotT.t (SprT.no s30))), AV.d (Dv.sl 1 X31), AV.d (Dv.sl 1 (AAf9 z33)), AV.d (Dv.s (.slice none 0 0)), AV.d (Dv.s (.slice none 0 0)), AV.d (i64 (SprT.i1 s30)), AV.d (i64 (SprT.i2 s30)), AV.d (i64 (SprT.i3 s30)), AV.d (i64 (SprT.i4 s30)), AV.d (i64 (SprT.i5 s30))], AV.d (i64 0)]) b) (0 = 0 ∧ BIf (decide ((List.length xs29 + 1) * 24 ≤ 140737488355328)) (1 = 1 ∧ Code.loop AKp9 = Code.loop AKp9 ∧ 1 = 1 ∧ ∃ (xs34 : List (List Dv)), flatA xs29 ++ [AV.d (Dv.sl 1 pf26)] = flatA xs34 ∧ List.length xs34 = List.length xs29 + 1 ∧ (∀ (r : List Dv), r ∈ xs34 → List.length r = 1) ∧ ∃ (s35 : SprT) (X36 : List (List Dv)) (L37 : List (List Int)) (z38 : List (List Int)), [bad, bad, bad, bad, bad, bad, AV.ptr 1 0, bad, AV.ptr 2 0, AV.ptr 3 0, bad, bad, bad, bad, bad, bad, bad, bad, bad, bad, bad, bad, bad, bad, bad, bad, bad, bad, bad, bad, bad, bad, bad, bad, bad, bad, bad, bad, bad, bad, bad, bad, bad, bad, bad, bad, bad, bad, bad, bad, bad, bad, bad, bad, bad, bad, bad, bad, bad, bad, bad, bad, bad, bad, bad, bad, bad, bad, bad, bad, bad, bad, bad, bad, bad, bad, bad, bad, bad, bad, bad, bad, AV.d (Dv.sl 1 xs34), AV.d (i64 ((List.length xs29 + 1 : Nat) : Int)), AV.d (i64 0), bad, bad, bad, bad, bad, bad, bad, bad, bad, bad, bad, bad] = [bad, bad, bad, bad, bad, bad, AV.ptr 1 0, bad, AV.ptr 2 0, AV.ptr 3 0, bad, bad, bad, bad, bad, bad, bad, bad, bad, bad, bad, bad, bad, bad, bad, bad, bad, bad, bad, bad, bad, bad, bad, bad, bad, bad, bad, bad, bad, bad, bad, bad, bad, bad, bad, bad, bad, bad, bad, bad, bad, bad, bad, bad, bad, bad, bad, bad, bad, bad, bad, bad, bad, bad, bad, bad, bad, bad, bad, bad, bad, bad, bad, bad, bad, bad, bad, bad, bad, bad, bad, bad, AV.d (Dv.sl 1 (AAf9 L37)), AV.d (i64 ((List.length (AAf9 L37) : Nat) : Int)), AV.d (i64 0), bad, bad, bad, bad, bad, bad, bad, bad, bad, bad, bad, bad] ∧ some (Blk.mk [AV.d (i64 (NotT.v (SprT.no s25))), AV.d (i64 (NotT.n (SprT.no s25))), AV.d (u64 (NotT.r (SprT.no s25))), AV.d (i64 (NotT.t (SprT.no s25))), AV.own 33 1 (AAe9 z28), AV.d (Dv.s (.slice none 0 0)), AV.d (Dv.s (.slice none 0 0)), AV.d (Dv.s (.slice none 0 0)), AV.d (i64 (SprT.i1 s25)), AV.d (i64 (SprT.i2 s25)), AV.d (i64 (SprT.i3 s25)), AV.d (i64 (SprT.i4 s25)), AV.d (i64 (SprT.i5 s25))] false false 0) = some (Blk.mk [AV.d (i64 (NotT.v (SprT.no s35))), AV.d (i64 (NotT.n (SprT.no s35))), AV.d (u64 (NotT.r (SprT.no s35))), AV.d (i64 (NotT.t (SprT.no s35))), AV.own 33 1 X36, AV.d (Dv.s (.slice none 0 0)), AV.d (Dv.s (.slice none 0 0)), AV.d (Dv.s (.slice none 0 0)), AV.d (i64 (SprT.i1 s35)), AV.d (i64 (SprT.i2 s35)), AV.d (i64 (SprT.i3 s35)), AV.d (i64 (SprT.i4 s35)), AV.d (i64 (SprT.i5 s35))] false false 0) ∧ ((List.length L37 ≤ 1000000 ∧ ∀ (p : List Int), p ∈ L37 → List.length p ≤ 1000000) ∧ z38 = L37) ∧ ∀ (i : Int), R (.tup [AV.agg [AV.d (i64 (NotT.v (SprT.no s35))), AV.d (i64 (NotT.n (SprT.no s35))), AV.d (u64 (NotT.r (SprT.no s35))), AV.d (i64 (NotT.t (SprT.no s35))), AV.d (Dv.sl 1 X36), AV.d (Dv.sl 1 (AAf9 z38)), AV.d (Dv.s (.slice none 0 0)), AV.d (Dv.s (.slice none 0 0)), AV.d (i64 (SprT.i1 s35)), AV.d (i64 (SprT.i2 s35)), AV.d (i64 (SprT.i3 s35)), AV.d (i64 (SprT.i4 s35)), AV.d (i64 (SprT.i5 s35))], AV.d (i64 0)]) b) False)) False)))))) := by kernel_rfl
end
def BDf9 : SprT := ⟨⟨0, 0, 0, 0⟩, [], [], [], [], 0, 0, 0, 0, 0⟩
def putS (s : SprT) (p q : List Int) : SprT × Int :=
 if ABw9 s = false ∨ p.length ≠ 256 then (BDf9, 1) else if (s.ps.length : Int) = ABi9 s.no.n then (BDf9, 10) else if ABq9 s s.ps.length p q = false then (BDf9, 12)
 else (⟨s.no, s.ps ++ [p], s.qs ++ [q], [], [], s.i1, s.i2, s.i3, s.i4, s.i5⟩, 0)
theorem ASh9 (ps : List (List Int)) (p : List Int) : flatA (AAe9 ps) ++ [AV.d (.sl 1 (AAd9 p))] = flatA (AAe9 (ps ++ [p])) := by
 rw [← AKi9, AUi9]; rfl
theorem AQl9 (ps : List (List Int)) (p : List Int) : flatA (AAf9 ps) ++ [AV.d (.sl 1 (digR p))] = flatA (AAf9 (ps ++ [p])) := by
 rw [← AIi9, AUi9]; rfl
theorem BEy9 {ps : List (List Int)} : ∀ r ∈ AAe9 ps, r.length = 1 := by
 intro r hr; simp only [AAe9, List.mem_map] at hr; obtain ⟨_, _, rfl⟩ := hr; rfl
theorem AZt9 {ps : List (List Int)} : ∀ r ∈ AAf9 ps, r.length = 1 := by
 intro r hr; simp only [AAf9, List.mem_map] at hr; obtain ⟨_, _, rfl⟩ := hr; rfl
theorem AId9 {s : SprT} (h : ABw9 s = true) : s.ps.length ≤ 4096 ∧ s.qs.length = s.ps.length ∧ (∀ p ∈ s.ps, p.length = 256) ∧ ADa9 s.no.n = true ∧ AAm9 s.no.v s.no.n s.no.t = true := by
 simp only [ABw9, Bool.and_eq_true] at h
 obtain ⟨h1, h2, h3, h4, h5⟩ := h
 have h6 : ADa9 s.no.n = true := by simp only [AAm9, Bool.and_eq_true] at h1; exact h1.2.2.1
 obtain ⟨k, hk, hk1, hk2⟩ := AFe9 h6
 rw [hk, AGj9 (by omega)] at h2
 refine ⟨by simp at h2; omega, by simp at h3; omega, fun p hp => ?_, h6, h1⟩
 have h4 : ABd9 s.ps = false := by simpa using h4
 rw [ABd9, List.any_eq_false] at h4
 have := h4 p hp
 simp at this; omega
theorem pcPut (s : SprT) (p q : List Int) (hl : s.ps.length ≤ 9223372036854775807) (hq : q.length ≤ 1000000) (hqs : ∀ x ∈ s.qs, x.length ≤ 1000000) :
   PCall Tryz.prog 53 [spV s, .d (.sl 1 (AAd9 p)), .d (.sl 1 (digR q))] (.tup [spV (putS s p q).1, .d (i64 (putS s p q).2)]) := by
 refine PCall.ofFnV (n := 100) (u := false) (fun _ => wl21I) mixed TPt_ok SPt_ok (fun Ev => BKs9) Tryz.func53 (by rfl) (by rfl) fun Ev bb => ?_
 rw [put_nf]
 have bad : ∀ e : Int, putS s p q = (BDf9, e) → LeV (AV.tup [AV.agg [AV.d (i64 (0 : Int)), AV.d (i64 (0 : Int)), AV.d (u64 (0 : Int)), AV.d (i64 (0 : Int)), AV.d (Dv.s (Value.slice none 0 0)), AV.d (Dv.s (Value.slice none 0 0)), AV.d (Dv.s (Value.slice none 0 0)), AV.d (Dv.s (Value.slice none 0 0)), AV.d (i64 (0 : Int)), AV.d (i64 (0 : Int)), AV.d (i64 (0 : Int)), AV.d (i64 (0 : Int)), AV.d (i64 (0 : Int))], AV.d (i64 e)])
     (.tup [spV (putS s p q).1, .d (i64 (putS s p q).2)]) := by
   intro e he
   rw [he]
   exact LeV.tups (.cons (LeV.aggs (.cons .rfl (.cons .rfl (.cons .rfl (.cons .rfl (.cons (.nil rfl) (.cons (.nil rfl) (.cons (.nil rfl) (.cons (.nil rfl) (LeVs.refl _)))))))))) (.cons .rfl .nil))
 have good : ∀ ps' qs', putS s p q = (⟨s.no, ps', qs', [], [], s.i1, s.i2, s.i3, s.i4, s.i5⟩, 0) → LeV (AV.tup [AV.agg [.d (i64 s.no.v), .d (i64 s.no.n), .d (u64 s.no.r), .d (i64 s.no.t), .d (.sl 1 (AAe9 ps')), .d (.sl 1 (AAf9 qs')), AV.d (Dv.s (Value.slice none 0 0)), AV.d (Dv.s (Value.slice none 0 0)), .d (i64 s.i1), .d (i64 s.i2), .d (i64 s.i3), .d (i64 s.i4), .d (i64 s.i5)], AV.d (i64 0)])
     (.tup [spV (putS s p q).1, .d (i64 (putS s p q).2)]) := by
   intro ps' qs' he
   rw [he]
   exact LeV.tups (.cons (LeV.aggs (.cons .rfl (.cons .rfl (.cons .rfl (.cons .rfl (.cons .rfl (.cons .rfl (.cons (.nil rfl) (.cons (.nil rfl) (LeVs.refl _)))))))))) (.cons .rfl .nil))
 refine ⟨s, _, rfl, ⟨hl, rfl⟩, BIf.of (fun g => bad 1 (by rw [putS, if_pos (.inl (by simpa using g))])) fun g1 => BIf.of (fun g => bad 1 (by rw [putS, if_pos (.inr (by rw [AAj9] at g; simp at g; omega))])) fun g2 => ⟨_, _, rfl, rfl, BIf.of (fun g => bad 10 ?_) fun g3 => ⟨s, _, p, q, _, rfl, rfl, BIf.of (fun g => bad 12 ?_) fun g4 => ?_⟩⟩⟩
 all_goals
   have h1 : ABw9 s = true := by simpa using g1
   have h2 : p.length = 256 := by rw [AAj9] at g2; simp at g2; omega
   have hn : ¬ (ABw9 s = false ∨ p.length ≠ 256) := by rw [h1, h2]; simp
 · rw [AAh9] at g
   rw [putS, if_neg hn, if_pos (by simpa using g)]
 · rw [AAh9] at g3 g
   rw [putS, if_neg hn, if_neg (by simpa using g3), if_pos (by simpa using g)]
 rw [AAh9] at g3
 obtain ⟨f1, f2, f3, f4, f5⟩ := AId9 h1
 have h4 : ABq9 s s.ps.length p q = true := by rw [AAh9] at g4; simpa using g4
 have hput : putS s p q = (⟨s.no, s.ps ++ [p], s.qs ++ [q], [], [], s.i1, s.i2, s.i3, s.i4, s.i5⟩, 0) := by
   rw [putS, if_neg hn, if_neg (by simpa using g3), if_neg (by rw [h4]; simp)]
 have eP : (AAe9 (s.ps ++ [p])).length = (AAe9 s.ps).length + 1 := by simp [AAh9]
 have eQ : (AAf9 (s.qs ++ [q])).length = (AAf9 s.qs).length + 1 := by simp [AAy9]
 have bP : (s.ps ++ [p]).length ≤ 1000000 ∧ ∀ x ∈ s.ps ++ [p], x.length ≤ 1000000 := by
   refine ⟨by simp; omega, fun x hx => ?_⟩
   rcases List.mem_append.1 hx with hx | hx
   · rw [f3 x hx]; decide
   · simp at hx; subst hx; omega
 have bQ : (s.qs ++ [q]).length ≤ 1000000 ∧ ∀ x ∈ s.qs ++ [q], x.length ≤ 1000000 := by
   refine ⟨by simp; omega, fun x hx => ?_⟩
   rcases List.mem_append.1 hx with hx | hx
   · exact hqs x hx
   · simp at hx; subst hx; exact hq
 refine ⟨AAe9 s.ps, rfl, by rw [AAh9]; omega, BIf.of (fun h => ?_) fun h => ?_⟩
 · have e1 : s.ps = [] := by
     have : (AAe9 s.ps).length = 0 := by rw [List.isEmpty_iff] at h; rw [h]; rfl
     rw [AAh9] at this; exact List.length_eq_zero_iff.1 this
   have e2 : s.qs = [] := List.length_eq_zero_iff.1 (by rw [f2, e1]; rfl)
   rw [e1] at hput bP
   rw [e2] at hput bQ
   refine ⟨rfl, s, digR q, [p], _, rfl, rfl, ⟨bP, rfl⟩, fun _ => ⟨AAf9 s.qs, rfl, by rw [AAy9, f2]; omega, BIf.t (by rw [e2]; rfl) ⟨rfl, s, AAe9 [p], [q], _, rfl, rfl, ⟨bQ, rfl⟩, fun _ => good [p] [q] hput⟩⟩⟩
 · have e1 : (AAf9 s.qs).isEmpty = false := by
     cases hq2 : s.qs with
     | nil =>
       have : s.ps = [] := List.length_eq_zero_iff.1 (by rw [← f2, hq2]; rfl)
       rw [this] at h; cases h
     | cons a l => rfl
   refine ⟨rfl, BIf.t (by rw [decide_eq_true_eq, AAh9]; omega) ⟨rfl, rfl, rfl, AAe9 (s.ps ++ [p]), ASh9 _ _, eP, BEy9, s, digR q, s.ps ++ [p], _, by rw [eP], rfl, ⟨bP, rfl⟩, fun _ => ⟨AAf9 s.qs, rfl, by rw [AAy9, f2]; omega, BIf.f e1 ⟨rfl, BIf.t (by rw [decide_eq_true_eq, AAy9]; omega) ⟨rfl, rfl, rfl, AAf9 (s.qs ++ [q]), AQl9 _ _, eQ, AZt9, s, AAe9 (s.ps ++ [p]), s.qs ++ [q], _, by rw [eQ], rfl, ⟨bQ, rfl⟩, fun _ => good _ _ hput⟩⟩⟩⟩⟩
def cPut (args : List AV) (K : AV → Prop) : Prop := ∃ (s : SprT) (p q : List Int) (z : SprT) (e : Int), args = [spV s, .d (.sl 1 (AAd9 p)), .d (.sl 1 (digR q))] ∧ ((s.ps.length ≤ 9223372036854775807 ∧ q.length ≤ 1000000 ∧ ∀ x ∈ s.qs, x.length ≤ 1000000) ∧ (z, e) = putS s p q) ∧ K (.tup [spV z, .d (i64 e)])
theorem cPut_ok : ∀ args K, cPut args K → ∃ x, PCall Tryz.prog 53 args x ∧ K x := by
 rintro _ K ⟨s, p, q, z, e, rfl, ⟨⟨h1, h2, h3⟩, he⟩, h⟩
 have := pcPut s p q h1 h2 h3
 rw [← he] at this
 exact ⟨_, this, h⟩
def TWh : List (Nat × (List AV → (AV → Prop) → Prop)) := [(88, BOh9), (89, cJoin)]
theorem TWh_ok : AAa9 Tryz.prog TWh := AAa9.cons AUw9 (AAa9.cons BOq9 AAa9.nil)
section
variable {β : Type} (wl : WLT β) (y : AAg9 β) (b : β) (R : AV → β → Prop) (K : Exit → List AV → List Blk → β → Prop)
theorem BKw9 (s : SprT) : wpFn Tryz.prog ⟨TWh, [], wl, y, false⟩ 100 Tryz.f30 [spV s] b R = ( ∃ (s0 : SprT) (z1 : Bool), [AV.agg [AV.d (i64 (NotT.v (SprT.no s))), AV.d (i64 (NotT.n (SprT.no s))), AV.d (u64 (NotT.r (SprT.no s))), AV.d (i64 (NotT.t (SprT.no s))), AV.d (Dv.sl 1 (AAe9 (SprT.ps s))), AV.d (Dv.sl 1 (AAf9 (SprT.qs s))), AV.d (Dv.sl 2 (SprT.rows s)), AV.d (Dv.sl 1 (digR (SprT.pf s))), AV.d (i64 (SprT.i1 s)), AV.d (i64 (SprT.i2 s)), AV.d (i64 (SprT.i3 s)), AV.d (i64 (SprT.i4 s)), AV.d (i64 (SprT.i5 s))]] = [AV.agg [AV.d (i64 (NotT.v (SprT.no s0))), AV.d (i64 (NotT.n (SprT.no s0))), AV.d (u64 (NotT.r (SprT.no s0))), AV.d (i64 (NotT.t (SprT.no s0))), AV.d (Dv.sl 1 (AAe9 (SprT.ps s0))), AV.d (Dv.sl 1 (AAf9 (SprT.qs s0))), AV.d (Dv.sl 2 (SprT.rows s0)), AV.d (Dv.sl 1 (digR (SprT.pf s0))), AV.d (i64 (SprT.i1 s0)), AV.d (i64 (SprT.i2 s0)), AV.d (i64 (SprT.i3 s0)), AV.d (i64 (SprT.i4 s0)), AV.d (i64 (SprT.i5 s0))]] ∧ (List.length (SprT.ps s0) ≤ 9223372036854775807 ∧ z1 = ABw9 s0) ∧ BIf (!z1) (R (.tup [AV.d (Dv.s (.slice none 0 0)), AV.d (bo false)]) b) (∃ (ps2 : List (List Int)) (n3 : Int) (z4 : List Int) (e5 : Int), [AV.d (Dv.sl 1 (AAe9 (SprT.ps s))), AV.d (i64 (NotT.n (SprT.no s)))] = [AV.d (Dv.sl 1 (AAe9 ps2)), AV.d (i64 n3)] ∧ (List.length ps2 ≤ 9223372036854775807 ∧ (z4, e5) = joinS ps2 n3) ∧ R (.tup [AV.d (Dv.sl 1 (AAd9 z4)), AV.d (bo (e5 == (0 : Int)))]) b)) := by kernel_rfl
end
def ANk9 (s : SprT) : List Int × Bool := if ABw9 s then ((joinS s.ps s.no.n).1, (joinS s.ps s.no.n).2 == 0) else ([], false)
theorem BRr9 (s : SprT) (hl : s.ps.length ≤ 9223372036854775807) : PCall Tryz.prog 30 [spV s] (.tup [.d (.sl 1 (AAd9 (ANk9 s).1)), .d (bo (ANk9 s).2)]) := by
 refine PCall.ofFnV (n := 100) (u := false) (fun _ => wlNo _) mixed TWh_ok AAb9.nil (fun Ev => AGp9 Ev) Tryz.func30 (by rfl) (by rfl) fun Ev bb => ?_
 rw [BKw9]
 refine ⟨s, _, rfl, ⟨hl, rfl⟩, BIf.of (fun g => ?_) fun g => ⟨s.ps, s.no.n, _, _, rfl, ⟨hl, rfl⟩, ?_⟩⟩
 · rw [ANk9, if_neg (by rw [show ABw9 s = false by simpa using g]; simp)]
   exact LeV.tups (.cons (.nil rfl) (.cons .rfl .nil))
 · rw [ANk9, if_pos (show ABw9 s = true by simpa using g)]
   exact .rfl
def cWhole (args : List AV) (K : AV → Prop) : Prop := ∃ (s : SprT) (z : List Int) (e : Bool), args = [spV s] ∧ (s.ps.length ≤ 9223372036854775807 ∧ (z, e) = ANk9 s) ∧ K (.tup [.d (.sl 1 (AAd9 z)), .d (bo e)])
theorem BGt9 : ∀ args K, cWhole args K → ∃ x, PCall Tryz.prog 30 args x ∧ K x := by
 rintro _ K ⟨s, z, e, rfl, ⟨hl, he⟩, h⟩
 have := BRr9 s hl
 rw [← he] at this
 exact ⟨_, this, h⟩
noncomputable def lp20 : Code := sub [1, 1, 0, 1, 2, 3] (code Tryz.f31)
noncomputable def lp28 : Code := sub [1, 1, 0, 1, 2, 3] (code Tryz.f69)
noncomputable def lp19I : Code := sub [1, 1, 0, 1, 2, 3] (code Tryz.f24)
noncomputable def lp52 : Code := sub [1, 1, 0, 1, 2, 3] (code Tryz.f68)
def tmCmp (n : Nat) (z a c : List (List Dv)) (i : Int) : List AV := [.d (.sl 1 a), .d (.sl 1 c), .bad, .bad, .bad, .d (i64 i)] ++ List.replicate n .bad
section
variable {β : Type} (wl : WLT β) (y : AAg9 β) (b : β) (R : AV → β → Prop) (K : Exit → List AV → List Blk → β → Prop)
theorem r20 (a c : List (List Dv)) (i : Int) : wpc Tryz.prog ⟨[], [], wl, y, false⟩ 100 lp20 (tmCmp 20 [] a c i) [] b (maskT [0, 1, 4, 5] K) = ( BIf (decide (i < ((List.length a : Nat) : Int))) (BIf (true && decide ((0 : Int) ≤ i)) (∃ (x0 : Int), a[Int.toNat i]? = some [u8 x0] ∧ BIf (true && decide ((0 : Int) ≤ i)) (∃ (x3 : Int), c[Int.toNat i]? = some [u8 x3] ∧ BIf (x0 != x3) (K .ret [AV.d (Dv.sl 1 a), AV.d (Dv.sl 1 c), bad, bad, AV.d (bo false), AV.d (i64 i), bad, bad, bad, bad, bad, bad, bad, bad, bad, bad, bad, bad, bad, bad, bad, bad, bad, bad, bad, bad] [] b) (K .normal [AV.d (Dv.sl 1 a), AV.d (Dv.sl 1 c), bad, bad, bad, AV.d (i64 (IntKind.wrap .i64 (i + (1 : Int)))), bad, bad, bad, bad, bad, bad, bad, bad, bad, bad, bad, bad, bad, bad, bad, bad, bad, bad, bad, bad] [] b)) False) False) (K (Exit.exit 0) [AV.d (Dv.sl 1 a), AV.d (Dv.sl 1 c), bad, bad, bad, AV.d (i64 i), bad, bad, bad, bad, bad, bad, bad, bad, bad, bad, bad, bad, bad, bad, bad, bad, bad, bad, bad, bad] [] b)) := by kernel_rfl
theorem r28 (a c : List (List Dv)) (i : Int) : wpc Tryz.prog ⟨[], [], wl, y, false⟩ 100 lp28 (tmCmp 20 [] a c i) [] b (maskT [0, 1, 4, 5] K) = ( BIf (decide (i < ((List.length a : Nat) : Int))) (BIf (true && decide ((0 : Int) ≤ i)) (∃ (x0 : Int), a[Int.toNat i]? = some [u64 x0] ∧ BIf (true && decide ((0 : Int) ≤ i)) (∃ (x3 : Int), c[Int.toNat i]? = some [u64 x3] ∧ BIf (x0 != x3) (K .ret [AV.d (Dv.sl 1 a), AV.d (Dv.sl 1 c), bad, bad, AV.d (bo false), AV.d (i64 i), bad, bad, bad, bad, bad, bad, bad, bad, bad, bad, bad, bad, bad, bad, bad, bad, bad, bad, bad, bad] [] b) (K .normal [AV.d (Dv.sl 1 a), AV.d (Dv.sl 1 c), bad, bad, bad, AV.d (i64 (IntKind.wrap .i64 (i + (1 : Int)))), bad, bad, bad, bad, bad, bad, bad, bad, bad, bad, bad, bad, bad, bad, bad, bad, bad, bad, bad, bad] [] b)) False) False) (K (Exit.exit 0) [AV.d (Dv.sl 1 a), AV.d (Dv.sl 1 c), bad, bad, bad, AV.d (i64 i), bad, bad, bad, bad, bad, bad, bad, bad, bad, bad, bad, bad, bad, bad, bad, bad, bad, bad, bad, bad] [] b)) := by kernel_rfl
end
theorem AIj9 {p : List (List Int)} {k : Nat} (h : k < p.length) : (AAe9 p)[k]? = some [.sl 1 (AAd9 (nthL p k))] := by simp [AAe9, nthL, h]
theorem AHj9 {p : List (List Int)} {k : Nat} (h : k < p.length) : (AAf9 p)[k]? = some [.sl 1 (digR (nthL p k))] := by simp [AAf9, nthL, h]
theorem ADg9 {α : Type} {p : List (List α)} {k : Nat} (h : k < p.length) : nthL p k ∈ p := by
 rw [nthL, List.getD_eq_getElem?_getD, List.getElem?_eq_getElem h]; exact List.getElem_mem h
theorem wr20 {Ev : Env Tryz.prog} {b : Ev.β} {Q : Exit → St Ev.β → Prop} (a c : List Int) (hl : a.length = c.length) (hb : a.length ≤ 9223372036854775807) (h1 : a = c → ∀ i : Int, Q (.exit 0) ⟨tmCmp 20 [] (AAd9 a) (AAd9 c) i, [], b⟩) (h2 : a ≠ c → ∀ i : Int, Q .ret ⟨(tmCmp 20 [] (AAd9 a) (AAd9 c) i).set 4 (.d (bo false)), [], b⟩) :
   WR Ev lp20 (a.length + 1) ⟨tmCmp 20 [] (AAd9 a) (AAd9 c) (0 : Nat), [], b⟩ Q := by
 refine WR.scan (X := ⟨[], [], wlW Ev, Ev.Y, false⟩) (k := 100) [0, 1, 4, 5] mixed (CX.Ok.of AAa9.nil AAb9.nil) a.length (fun i => nth a i != nth c i) (fun i => tmCmp 20 [] (AAd9 a) (AAd9 c) (i : Nat)) (fun i => (tmCmp 20 [] (AAd9 a) (AAd9 c) (i : Nat)).set 4 (.d (bo false))) [] 0 (fun i hi K k1 k2 => ?_) (fun K k1 => ?_) (fun h => h1 ?_ _) fun h i => h2 ?_ _
 · rw [r20, AAj9]
   refine BIf.t (by simp <;> omega) (BIf.t (by simp) ⟨nth a i, by rw [Int.toNat_natCast]; exact BCu9 hi, BIf.t (by simp) ⟨nth c i, by rw [Int.toNat_natCast]; exact BCu9 (by omega), BIf.of (fun g => k1 g) fun g => ?_⟩⟩)
   rw [ABj9 hi hb]; exact k2 g
 · rw [r20, AAj9]
   exact BIf.f (by simp) k1
 · rw [AXc9 hl] at h; simpa using h
 · rw [AXc9 hl] at h; simpa using h
def wl20I {β : Type} : WLT β := fun t tm hp b K => ∃ (a c : List Int) (z : Bool), t = .loop lp20 ∧ ABc9 [0, 1, 5] 0 tm = tmCmp 20 [] (AAd9 a) (AAd9 c) 0 ∧ hp = [] ∧ ((a.length = c.length ∧ a.length ≤ 9223372036854775807) ∧ z = decide (a = c)) ∧
 BIf z (∀ i : Int, K (.exit 0) (tmCmp 20 [] (AAd9 a) (AAd9 c) i) [] b) (∀ i : Int, K .ret ((tmCmp 20 [] (AAd9 a) (AAd9 c) i).set 4 (.d (bo false))) [] b)
theorem BKt9 {Ev : Env Tryz.prog} (c : Code) (tm : List AV) (hp : List Blk) (b : Ev.β) (K : Exit → List AV → List Blk → Ev.β → Prop) (h : wl20I c tm hp b K) : W Ev c ⟨tm, hp, b⟩ (fun e s => K e s.tm s.hp s.b) := by
 obtain ⟨a, d, z, rfl, htm, rfl, ⟨⟨hl, hb⟩, hz⟩, hK⟩ := h
 refine W.cast (htm ▸ AAk9 _ tm 0) (LeH.refl _) ?_
 exact W.rounds (wr20 (Q := fun e s => K e s.tm s.hp s.b) a d hl hb (fun h => by rw [hz, decide_eq_true h] at hK; exact hK) fun h => by rw [hz, decide_eq_false h] at hK; exact hK)
section
variable {β : Type} (wl : WLT β) (y : AAg9 β) (b : β) (R : AV → β → Prop)
theorem f20_nfI (a c : List (List Dv)) : wpFn Tryz.prog ⟨[], [], wl20I, y, false⟩ 100 Tryz.f31 [.d (.sl 1 a), .d (.sl 1 c)] b R = ( BIf (((List.length a : Nat) : Int) != ((List.length c : Nat) : Int)) (R (.d (bo false)) b) (∃ (a0 : List Int) (c1 : List Int) (z2 : Bool), Code.loop lp20 = Code.loop lp20 ∧ [AV.d (Dv.sl 1 a), AV.d (Dv.sl 1 c), bad, bad, bad, AV.d (i64 0), bad, bad, bad, bad, bad, bad, bad, bad, bad, bad, bad, bad, bad, bad, bad, bad, bad, bad, bad, bad] = [AV.d (Dv.sl 1 (AAd9 a0)), AV.d (Dv.sl 1 (AAd9 c1)), bad, bad, bad, AV.d (i64 0), bad, bad, bad, bad, bad, bad, bad, bad, bad, bad, bad, bad, bad, bad, bad, bad, bad, bad, bad, bad] ∧ ([] : List Blk) = [] ∧ ((List.length a0 = List.length c1 ∧ List.length a0 ≤ 9223372036854775807) ∧ z2 = decide (a0 = c1)) ∧ BIf z2 (∀ (i : Int), R (.d (bo true)) b) (∀ (i : Int), R (.d (bo false)) b))) := by kernel_rfl
end
theorem BSj9 (a c : List Int) (ha : a.length ≤ 9223372036854775807) : PCall Tryz.prog 31 [.d (.sl 1 (AAd9 a)), .d (.sl 1 (AAd9 c))] (.d (bo (decide (a = c)))) := by
 refine PCall.ofFnW (n := 100) (u := false) (fun _ => wl20I) mixed AAa9.nil AAb9.nil (fun Ev => BKt9) Tryz.func31 (by rfl) (by rfl) fun Ev bb => ?_
 rw [f20_nfI, AAj9, AAj9]
 refine BIf.of (fun g => ?_) fun g => ⟨a, c, _, rfl, rfl, rfl, ⟨⟨by simp at g; omega, ha⟩, rfl⟩, BIf.of (fun h i => by rw [h]) fun h i => by rw [h]⟩
 rw [decide_eq_false fun h => by rw [h] at g; simp at g]
def BHe9 (args : List AV) (K : AV → Prop) : Prop := ∃ (a c : List Int) (z : Bool), args = [.d (.sl 1 (AAd9 a)), .d (.sl 1 (AAd9 c))] ∧ (a.length ≤ 9223372036854775807 ∧ z = decide (a = c)) ∧ K (.d (bo z))
theorem AOm9 : ∀ args K, BHe9 args K → ∃ x, PCall Tryz.prog 31 args x ∧ K x := by
 rintro _ K ⟨a, c, _, rfl, ⟨hl, rfl⟩, h⟩; exact ⟨_, BSj9 a c hl, h⟩
theorem wr28 {Ev : Env Tryz.prog} {b : Ev.β} {Q : Exit → St Ev.β → Prop} (a c : List Int) (hl : a.length = c.length) (hb : a.length ≤ 9223372036854775807) (h1 : a = c → ∀ i : Int, Q (.exit 0) ⟨tmCmp 20 [] (digR a) (digR c) i, [], b⟩) (h2 : a ≠ c → ∀ i : Int, Q .ret ⟨(tmCmp 20 [] (digR a) (digR c) i).set 4 (.d (bo false)), [], b⟩) :
   WR Ev lp28 (a.length + 1) ⟨tmCmp 20 [] (digR a) (digR c) (0 : Nat), [], b⟩ Q := by
 refine WR.scan (X := ⟨[], [], wlW Ev, Ev.Y, false⟩) (k := 100) [0, 1, 4, 5] mixed (CX.Ok.of AAa9.nil AAb9.nil) a.length (fun i => nth a i != nth c i) (fun i => tmCmp 20 [] (digR a) (digR c) (i : Nat)) (fun i => (tmCmp 20 [] (digR a) (digR c) (i : Nat)).set 4 (.d (bo false))) [] 0 (fun i hi K k1 k2 => ?_) (fun K k1 => ?_) (fun h => h1 ?_ _) fun h i => h2 ?_ _
 · rw [r28, AAw9]
   refine BIf.t (by simp <;> omega) (BIf.t (by simp) ⟨nth a i, by rw [Int.toNat_natCast]; exact AMx9 hi, BIf.t (by simp) ⟨nth c i, by rw [Int.toNat_natCast]; exact AMx9 (by omega), BIf.of (fun g => k1 g) fun g => ?_⟩⟩)
   rw [ABj9 hi hb]; exact k2 g
 · rw [r28, AAw9]
   exact BIf.f (by simp) k1
 · rw [AXc9 hl] at h; simpa using h
 · rw [AXc9 hl] at h; simpa using h
def wl28 {β : Type} : WLT β := fun t tm hp b K => ∃ (a c : List Int) (z : Bool), t = .loop lp28 ∧ ABc9 [0, 1, 5] 0 tm = tmCmp 20 [] (digR a) (digR c) 0 ∧ hp = [] ∧ ((a.length = c.length ∧ a.length ≤ 9223372036854775807) ∧ z = decide (a = c)) ∧
 BIf z (∀ i : Int, K (.exit 0) (tmCmp 20 [] (digR a) (digR c) i) [] b) (∀ i : Int, K .ret ((tmCmp 20 [] (digR a) (digR c) i).set 4 (.d (bo false))) [] b)
theorem BQo9 {Ev : Env Tryz.prog} (c : Code) (tm : List AV) (hp : List Blk) (b : Ev.β) (K : Exit → List AV → List Blk → Ev.β → Prop) (h : wl28 c tm hp b K) : W Ev c ⟨tm, hp, b⟩ (fun e s => K e s.tm s.hp s.b) := by
 obtain ⟨a, d, z, rfl, htm, rfl, ⟨⟨hl, hb⟩, hz⟩, hK⟩ := h
 refine W.cast (htm ▸ AAk9 _ tm 0) (LeH.refl _) ?_
 exact W.rounds (wr28 (Q := fun e s => K e s.tm s.hp s.b) a d hl hb (fun h => by rw [hz, decide_eq_true h] at hK; exact hK) fun h => by rw [hz, decide_eq_false h] at hK; exact hK)
section
variable {β : Type} (wl : WLT β) (y : AAg9 β) (b : β) (R : AV → β → Prop)
theorem f28_nfI (a c : List (List Dv)) : wpFn Tryz.prog ⟨[], [], wl28, y, false⟩ 100 Tryz.f69 [.d (.sl 1 a), .d (.sl 1 c)] b R = ( BIf (((List.length a : Nat) : Int) != ((List.length c : Nat) : Int)) (R (.d (bo false)) b) (∃ (a0 : List Int) (c1 : List Int) (z2 : Bool), Code.loop lp28 = Code.loop lp28 ∧ [AV.d (Dv.sl 1 a), AV.d (Dv.sl 1 c), bad, bad, bad, AV.d (i64 0), bad, bad, bad, bad, bad, bad, bad, bad, bad, bad, bad, bad, bad, bad, bad, bad, bad, bad, bad, bad] = [AV.d (Dv.sl 1 (digR a0)), AV.d (Dv.sl 1 (digR c1)), bad, bad, bad, AV.d (i64 0), bad, bad, bad, bad, bad, bad, bad, bad, bad, bad, bad, bad, bad, bad, bad, bad, bad, bad, bad, bad] ∧ ([] : List Blk) = [] ∧ ((List.length a0 = List.length c1 ∧ List.length a0 ≤ 9223372036854775807) ∧ z2 = decide (a0 = c1)) ∧ BIf z2 (∀ (i : Int), R (.d (bo true)) b) (∀ (i : Int), R (.d (bo false)) b))) := by kernel_rfl
end
theorem BRu9 (a c : List Int) (ha : a.length ≤ 9223372036854775807) : PCall Tryz.prog 69 [.d (.sl 1 (digR a)), .d (.sl 1 (digR c))] (.d (bo (decide (a = c)))) := by
 refine PCall.ofFnW (n := 100) (u := false) (fun _ => wl28) mixed AAa9.nil AAb9.nil (fun Ev => BQo9) Tryz.func69 (by rfl) (by rfl) fun Ev bb => ?_
 rw [f28_nfI, AAw9, AAw9]
 refine BIf.of (fun g => ?_) fun g => ⟨a, c, _, rfl, rfl, rfl, ⟨⟨by simp at g; omega, ha⟩, rfl⟩, BIf.of (fun h i => by rw [h]) fun h i => by rw [h]⟩
 rw [decide_eq_false fun h => by rw [h] at g; simp at g]
def BOe9 (args : List AV) (K : AV → Prop) : Prop := ∃ (a c : List Int) (z : Bool), args = [.d (.sl 1 (digR a)), .d (.sl 1 (digR c))] ∧ (a.length ≤ 9223372036854775807 ∧ z = decide (a = c)) ∧ K (.d (bo z))
theorem AUu9 : ∀ args K, BOe9 args K → ∃ x, PCall Tryz.prog 69 args x ∧ K x := by
 rintro _ K ⟨a, c, _, rfl, ⟨hl, rfl⟩, h⟩; exact ⟨_, BRu9 a c hl, h⟩
def T19 : List (Nat × (List AV → (AV → Prop) → Prop)) := [(31, BHe9)]
theorem T19_ok : AAa9 Tryz.prog T19 := AAa9.cons AOm9 AAa9.nil
section
variable {β : Type} (wl : WLT β) (y : AAg9 β) (b : β) (K : Exit → List AV → List Blk → β → Prop)
theorem r19 (a c : List (List Dv)) (i : Int) : wpc Tryz.prog ⟨T19, [], wl, y, false⟩ 100 lp19I (tmCmp 21 [] a c i) [] b (maskT [0, 1, 4, 5] K) = ( BIf (decide (i < ((List.length a : Nat) : Int))) (BIf (true && decide ((0 : Int) ≤ i)) (∃ (xs0 : List (List Dv)), a[Int.toNat i]? = some [Dv.sl 1 xs0] ∧ BIf (true && decide ((0 : Int) ≤ i)) (∃ (xs3 : List (List Dv)), c[Int.toNat i]? = some [Dv.sl 1 xs3] ∧ ∃ (a6 : List Int) (c7 : List Int) (z8 : Bool), [AV.d (Dv.sl 1 xs0), AV.d (Dv.sl 1 xs3)] = [AV.d (Dv.sl 1 (AAd9 a6)), AV.d (Dv.sl 1 (AAd9 c7))] ∧ (List.length a6 ≤ 9223372036854775807 ∧ z8 = decide (a6 = c7)) ∧ BIf (!z8) (K .ret [AV.d (Dv.sl 1 a), AV.d (Dv.sl 1 c), bad, bad, AV.d (bo false), AV.d (i64 i), bad, bad, bad, bad, bad, bad, bad, bad, bad, bad, bad, bad, bad, bad, bad, bad, bad, bad, bad, bad, bad] [] b) (K .normal [AV.d (Dv.sl 1 a), AV.d (Dv.sl 1 c), bad, bad, bad, AV.d (i64 (IntKind.wrap .i64 (i + (1 : Int)))), bad, bad, bad, bad, bad, bad, bad, bad, bad, bad, bad, bad, bad, bad, bad, bad, bad, bad, bad, bad, bad] [] b)) False) False) (K (Exit.exit 0) [AV.d (Dv.sl 1 a), AV.d (Dv.sl 1 c), bad, bad, bad, AV.d (i64 i), bad, bad, bad, bad, bad, bad, bad, bad, bad, bad, bad, bad, bad, bad, bad, bad, bad, bad, bad, bad, bad] [] b)) := by kernel_rfl
end
theorem wr19I {Ev : Env Tryz.prog} {b : Ev.β} {Q : Exit → St Ev.β → Prop} (a c : List (List Int)) (hl : a.length = c.length) (hb : a.length ≤ 9223372036854775807) (he : ∀ p ∈ a, p.length ≤ 9223372036854775807) (h1 : a = c → ∀ i : Int, Q (.exit 0) ⟨tmCmp 21 [] (AAe9 a) (AAe9 c) i, [], b⟩) (h2 : a ≠ c → ∀ i : Int, Q .ret ⟨(tmCmp 21 [] (AAe9 a) (AAe9 c) i).set 4 (.d (bo false)), [], b⟩) :
   WR Ev lp19I (a.length + 1) ⟨tmCmp 21 [] (AAe9 a) (AAe9 c) (0 : Nat), [], b⟩ Q := by
 refine WR.scan (X := ⟨T19, [], wlW Ev, Ev.Y, false⟩) (k := 100) [0, 1, 4, 5] mixed (CX.Ok.of T19_ok AAb9.nil) a.length (fun i => !decide (nthL a i = nthL c i)) (fun i => tmCmp 21 [] (AAe9 a) (AAe9 c) (i : Nat)) (fun i => (tmCmp 21 [] (AAe9 a) (AAe9 c) (i : Nat)).set 4 (.d (bo false))) [] 0 (fun i hi K k1 k2 => ?_) (fun K k1 => ?_) (fun h => h1 ?_ _) fun h i => h2 ?_ _
 · rw [r19, AAh9]
   refine BIf.t (by simp <;> omega) (BIf.t (by simp) ⟨_, by rw [Int.toNat_natCast]; exact AIj9 hi, BIf.t (by simp) ⟨_, by rw [Int.toNat_natCast]; exact AIj9 (show i < c.length by omega), nthL a i, nthL c i, _, rfl, ⟨he _ (ADg9 hi), rfl⟩, BIf.of (fun g => k1 g) fun g => ?_⟩⟩)
   rw [ABj9 hi hb]; exact k2 g
 · rw [r19, AAh9]
   exact BIf.f (by simp) k1
 · rw [AVf9 hl] at h; simpa using h
 · rw [AVf9 hl] at h; simpa using h
def wl19I {β : Type} : WLT β := fun t tm hp b K => ∃ (a c : List (List Int)) (z : Bool), t = .loop lp19I ∧ ABc9 [0, 1, 5] 0 tm = tmCmp 21 [] (AAe9 a) (AAe9 c) 0 ∧ hp = [] ∧ ((a.length = c.length ∧ a.length ≤ 9223372036854775807 ∧ ∀ p ∈ a, p.length ≤ 9223372036854775807) ∧ z = decide (a = c)) ∧
 BIf z (∀ i : Int, K (.exit 0) (tmCmp 21 [] (AAe9 a) (AAe9 c) i) [] b) (∀ i : Int, K .ret ((tmCmp 21 [] (AAe9 a) (AAe9 c) i).set 4 (.d (bo false))) [] b)
theorem BKu9 {Ev : Env Tryz.prog} (c : Code) (tm : List AV) (hp : List Blk) (b : Ev.β) (K : Exit → List AV → List Blk → Ev.β → Prop) (h : wl19I c tm hp b K) : W Ev c ⟨tm, hp, b⟩ (fun e s => K e s.tm s.hp s.b) := by
 obtain ⟨a, d, z, rfl, htm, rfl, ⟨⟨hl, hb, he⟩, hz⟩, hK⟩ := h
 refine W.cast (htm ▸ AAk9 _ tm 0) (LeH.refl _) ?_
 exact W.rounds (wr19I (Q := fun e s => K e s.tm s.hp s.b) a d hl hb he (fun h => by rw [hz, decide_eq_true h] at hK; exact hK) fun h => by rw [hz, decide_eq_false h] at hK; exact hK)
section
variable {β : Type} (wl : WLT β) (y : AAg9 β) (b : β) (R : AV → β → Prop)
theorem f19_nfI (a c : List (List Dv)) : wpFn Tryz.prog ⟨T19, [], wl19I, y, false⟩ 100 Tryz.f24 [.d (.sl 1 a), .d (.sl 1 c)] b R = ( BIf (((List.length a : Nat) : Int) != ((List.length c : Nat) : Int)) (R (.d (bo false)) b) (∃ (a0 : List (List Int)) (c1 : List (List Int)) (z2 : Bool), Code.loop lp19I = Code.loop lp19I ∧ [AV.d (Dv.sl 1 a), AV.d (Dv.sl 1 c), bad, bad, bad, AV.d (i64 0), bad, bad, bad, bad, bad, bad, bad, bad, bad, bad, bad, bad, bad, bad, bad, bad, bad, bad, bad, bad, bad] = [AV.d (Dv.sl 1 (AAe9 a0)), AV.d (Dv.sl 1 (AAe9 c1)), bad, bad, bad, AV.d (i64 0), bad, bad, bad, bad, bad, bad, bad, bad, bad, bad, bad, bad, bad, bad, bad, bad, bad, bad, bad, bad, bad] ∧ ([] : List Blk) = [] ∧ ((List.length a0 = List.length c1 ∧ List.length a0 ≤ 9223372036854775807 ∧ ∀ (p : List Int), p ∈ a0 → List.length p ≤ 9223372036854775807) ∧ z2 = decide (a0 = c1)) ∧ BIf z2 (∀ (i : Int), R (.d (bo true)) b) (∀ (i : Int), R (.d (bo false)) b))) := by kernel_rfl
end
theorem BSc9 (a c : List (List Int)) (ha : a.length ≤ 9223372036854775807) (he : ∀ p ∈ a, p.length ≤ 9223372036854775807) : PCall Tryz.prog 24 [.d (.sl 1 (AAe9 a)), .d (.sl 1 (AAe9 c))] (.d (bo (decide (a = c)))) := by
 refine PCall.ofFnW (n := 100) (u := false) (fun _ => wl19I) mixed T19_ok AAb9.nil (fun Ev => BKu9) Tryz.func24 (by rfl) (by rfl) fun Ev bb => ?_
 rw [f19_nfI, AAh9, AAh9]
 refine BIf.of (fun g => ?_) fun g => ⟨a, c, _, rfl, rfl, rfl, ⟨⟨by simp at g; omega, ha, he⟩, rfl⟩, BIf.of (fun h i => by rw [h]) fun h i => by rw [h]⟩
 rw [decide_eq_false fun h => by rw [h] at g; simp at g]
def cLists (args : List AV) (K : AV → Prop) : Prop := ∃ (a c : List (List Int)) (z : Bool), args = [.d (.sl 1 (AAe9 a)), .d (.sl 1 (AAe9 c))] ∧ ((a.length ≤ 9223372036854775807 ∧ ∀ p ∈ a, p.length ≤ 9223372036854775807) ∧ z = decide (a = c)) ∧ K (.d (bo z))
theorem BHa9 : ∀ args K, cLists args K → ∃ x, PCall Tryz.prog 24 args x ∧ K x := by
 rintro _ K ⟨a, c, _, rfl, ⟨⟨hl, he⟩, rfl⟩, h⟩; exact ⟨_, BSc9 a c hl he, h⟩
def T52 : List (Nat × (List AV → (AV → Prop) → Prop)) := [(69, BOe9)]
theorem T52_ok : AAa9 Tryz.prog T52 := AAa9.cons AUu9 AAa9.nil
section
variable {β : Type} (wl : WLT β) (y : AAg9 β) (b : β) (K : Exit → List AV → List Blk → β → Prop)
theorem r52 (a c : List (List Dv)) (i : Int) : wpc Tryz.prog ⟨T52, [], wl, y, false⟩ 100 lp52 (tmCmp 21 [] a c i) [] b (maskT [0, 1, 4, 5] K) = ( BIf (decide (i < ((List.length a : Nat) : Int))) (BIf (true && decide ((0 : Int) ≤ i)) (∃ (xs0 : List (List Dv)), a[Int.toNat i]? = some [Dv.sl 1 xs0] ∧ BIf (true && decide ((0 : Int) ≤ i)) (∃ (xs3 : List (List Dv)), c[Int.toNat i]? = some [Dv.sl 1 xs3] ∧ ∃ (a6 : List Int) (c7 : List Int) (z8 : Bool), [AV.d (Dv.sl 1 xs0), AV.d (Dv.sl 1 xs3)] = [AV.d (Dv.sl 1 (digR a6)), AV.d (Dv.sl 1 (digR c7))] ∧ (List.length a6 ≤ 9223372036854775807 ∧ z8 = decide (a6 = c7)) ∧ BIf (!z8) (K .ret [AV.d (Dv.sl 1 a), AV.d (Dv.sl 1 c), bad, bad, AV.d (bo false), AV.d (i64 i), bad, bad, bad, bad, bad, bad, bad, bad, bad, bad, bad, bad, bad, bad, bad, bad, bad, bad, bad, bad, bad] [] b) (K .normal [AV.d (Dv.sl 1 a), AV.d (Dv.sl 1 c), bad, bad, bad, AV.d (i64 (IntKind.wrap .i64 (i + (1 : Int)))), bad, bad, bad, bad, bad, bad, bad, bad, bad, bad, bad, bad, bad, bad, bad, bad, bad, bad, bad, bad, bad] [] b)) False) False) (K (Exit.exit 0) [AV.d (Dv.sl 1 a), AV.d (Dv.sl 1 c), bad, bad, bad, AV.d (i64 i), bad, bad, bad, bad, bad, bad, bad, bad, bad, bad, bad, bad, bad, bad, bad, bad, bad, bad, bad, bad, bad] [] b)) := by kernel_rfl
end
theorem wr52 {Ev : Env Tryz.prog} {b : Ev.β} {Q : Exit → St Ev.β → Prop} (a c : List (List Int)) (hl : a.length = c.length) (hb : a.length ≤ 9223372036854775807) (he : ∀ p ∈ a, p.length ≤ 9223372036854775807) (h1 : a = c → ∀ i : Int, Q (.exit 0) ⟨tmCmp 21 [] (AAf9 a) (AAf9 c) i, [], b⟩) (h2 : a ≠ c → ∀ i : Int, Q .ret ⟨(tmCmp 21 [] (AAf9 a) (AAf9 c) i).set 4 (.d (bo false)), [], b⟩) :
   WR Ev lp52 (a.length + 1) ⟨tmCmp 21 [] (AAf9 a) (AAf9 c) (0 : Nat), [], b⟩ Q := by
 refine WR.scan (X := ⟨T52, [], wlW Ev, Ev.Y, false⟩) (k := 100) [0, 1, 4, 5] mixed (CX.Ok.of T52_ok AAb9.nil) a.length (fun i => !decide (nthL a i = nthL c i)) (fun i => tmCmp 21 [] (AAf9 a) (AAf9 c) (i : Nat)) (fun i => (tmCmp 21 [] (AAf9 a) (AAf9 c) (i : Nat)).set 4 (.d (bo false))) [] 0 (fun i hi K k1 k2 => ?_) (fun K k1 => ?_) (fun h => h1 ?_ _) fun h i => h2 ?_ _
 · rw [r52, AAy9]
   refine BIf.t (by simp <;> omega) (BIf.t (by simp) ⟨_, by rw [Int.toNat_natCast]; exact AHj9 hi, BIf.t (by simp) ⟨_, by rw [Int.toNat_natCast]; exact AHj9 (show i < c.length by omega), nthL a i, nthL c i, _, rfl, ⟨he _ (ADg9 hi), rfl⟩, BIf.of (fun g => k1 g) fun g => ?_⟩⟩)
   rw [ABj9 hi hb]; exact k2 g
 · rw [r52, AAy9]
   exact BIf.f (by simp) k1
 · rw [AVf9 hl] at h; simpa using h
 · rw [AVf9 hl] at h; simpa using h
def wl52 {β : Type} : WLT β := fun t tm hp b K => ∃ (a c : List (List Int)) (z : Bool), t = .loop lp52 ∧ ABc9 [0, 1, 5] 0 tm = tmCmp 21 [] (AAf9 a) (AAf9 c) 0 ∧ hp = [] ∧ ((a.length = c.length ∧ a.length ≤ 9223372036854775807 ∧ ∀ p ∈ a, p.length ≤ 9223372036854775807) ∧ z = decide (a = c)) ∧
 BIf z (∀ i : Int, K (.exit 0) (tmCmp 21 [] (AAf9 a) (AAf9 c) i) [] b) (∀ i : Int, K .ret ((tmCmp 21 [] (AAf9 a) (AAf9 c) i).set 4 (.d (bo false))) [] b)
theorem BQj9 {Ev : Env Tryz.prog} (c : Code) (tm : List AV) (hp : List Blk) (b : Ev.β) (K : Exit → List AV → List Blk → Ev.β → Prop) (h : wl52 c tm hp b K) : W Ev c ⟨tm, hp, b⟩ (fun e s => K e s.tm s.hp s.b) := by
 obtain ⟨a, d, z, rfl, htm, rfl, ⟨⟨hl, hb, he⟩, hz⟩, hK⟩ := h
 refine W.cast (htm ▸ AAk9 _ tm 0) (LeH.refl _) ?_
 exact W.rounds (wr52 (Q := fun e s => K e s.tm s.hp s.b) a d hl hb he (fun h => by rw [hz, decide_eq_true h] at hK; exact hK) fun h => by rw [hz, decide_eq_false h] at hK; exact hK)
section
variable {β : Type} (wl : WLT β) (y : AAg9 β) (b : β) (R : AV → β → Prop)
theorem f52_nf (a c : List (List Dv)) : wpFn Tryz.prog ⟨T52, [], wl52, y, false⟩ 100 Tryz.f68 [.d (.sl 1 a), .d (.sl 1 c)] b R = ( BIf (((List.length a : Nat) : Int) != ((List.length c : Nat) : Int)) (R (.d (bo false)) b) (∃ (a0 : List (List Int)) (c1 : List (List Int)) (z2 : Bool), Code.loop lp52 = Code.loop lp52 ∧ [AV.d (Dv.sl 1 a), AV.d (Dv.sl 1 c), bad, bad, bad, AV.d (i64 0), bad, bad, bad, bad, bad, bad, bad, bad, bad, bad, bad, bad, bad, bad, bad, bad, bad, bad, bad, bad, bad] = [AV.d (Dv.sl 1 (AAf9 a0)), AV.d (Dv.sl 1 (AAf9 c1)), bad, bad, bad, AV.d (i64 0), bad, bad, bad, bad, bad, bad, bad, bad, bad, bad, bad, bad, bad, bad, bad, bad, bad, bad, bad, bad, bad] ∧ ([] : List Blk) = [] ∧ ((List.length a0 = List.length c1 ∧ List.length a0 ≤ 9223372036854775807 ∧ ∀ (p : List Int), p ∈ a0 → List.length p ≤ 9223372036854775807) ∧ z2 = decide (a0 = c1)) ∧ BIf z2 (∀ (i : Int), R (.d (bo true)) b) (∀ (i : Int), R (.d (bo false)) b))) := by kernel_rfl
end
theorem BEr9 (a c : List (List Int)) (ha : a.length ≤ 9223372036854775807) (he : ∀ p ∈ a, p.length ≤ 9223372036854775807) : PCall Tryz.prog 68 [.d (.sl 1 (AAf9 a)), .d (.sl 1 (AAf9 c))] (.d (bo (decide (a = c)))) := by
 refine PCall.ofFnW (n := 100) (u := false) (fun _ => wl52) mixed T52_ok AAb9.nil (fun Ev => BQj9) Tryz.func68 (by rfl) (by rfl) fun Ev bb => ?_
 rw [f52_nf, AAy9, AAy9]
 refine BIf.of (fun g => ?_) fun g => ⟨a, c, _, rfl, rfl, rfl, ⟨⟨by simp at g; omega, ha, he⟩, rfl⟩, BIf.of (fun h i => by rw [h]) fun h i => by rw [h]⟩
 rw [decide_eq_false fun h => by rw [h] at g; simp at g]
def BCe9 (args : List AV) (K : AV → Prop) : Prop := ∃ (a c : List (List Int)) (z : Bool), args = [.d (.sl 1 (AAf9 a)), .d (.sl 1 (AAf9 c))] ∧ ((a.length ≤ 9223372036854775807 ∧ ∀ p ∈ a, p.length ≤ 9223372036854775807) ∧ z = decide (a = c)) ∧ K (.d (bo z))
theorem AWt9 : ∀ args K, BCe9 args K → ∃ x, PCall Tryz.prog 68 args x ∧ K x := by
 rintro _ K ⟨a, c, _, rfl, ⟨⟨hl, he⟩, rfl⟩, h⟩; exact ⟨_, BEr9 a c hl he, h⟩
section
variable {β : Type} (wl : WLT β) (y : AAg9 β) (b : β) (R : AV → β → Prop) (K : Exit → List AV → List Blk → β → Prop)
end
theorem AHu9 : ∀ (n w k : Nat) (q : List Int) (s : Int), (q.length < lenW n w k → AEe9 (walkP n w k) q s = none) ∧ (lenW n w k ≤ q.length → ∃ z, AEe9 (walkP n w k) q s = some (q.drop (lenW n w k), z))
 | 0, w, k, q, s => ⟨fun h => by simp [lenW] at h, fun _ => ⟨s, rfl⟩⟩
 | n + 1, w, k, q, s => by
   by_cases h1 : 1 < w
   · rw [lenW, if_pos h1, walkP, if_pos h1]
     by_cases h2 : sibN k < w
     · rw [if_pos h2, decide_eq_true h2]
       cases q with
       | nil => exact ⟨fun _ => AQt9 _ _ _, fun h => by simp at h⟩
       | cons x q =>
         cases hb : k % 2 == 1 with
         | true =>
           rw [ASm9]
           have := AHu9 n ((w + 1) / 2) (k / 2) q (pairS x s)
           refine ⟨fun h => this.1 (by simp at h; omega), fun h => ?_⟩
           obtain ⟨z, hz⟩ := this.2 (by simp at h; omega)
           exact ⟨z, by rw [hz, Nat.add_comm 1, List.drop_succ_cons]⟩
         | false =>
           rw [ASn9]
           have := AHu9 n ((w + 1) / 2) (k / 2) q (pairS s x)
           refine ⟨fun h => this.1 (by simp at h; omega), fun h => ?_⟩
           obtain ⟨z, hz⟩ := this.2 (by simp at h; omega)
           exact ⟨z, by rw [hz, Nat.add_comm 1, List.drop_succ_cons]⟩
     · rw [if_neg h2, decide_eq_false h2, ASo9, Nat.zero_add]
       exact AHu9 n ((w + 1) / 2) (k / 2) q s
   · rw [lenW, if_neg h1, walkP, if_neg h1]
     exact ⟨fun h => by simp at h, fun _ => ⟨s, rfl⟩⟩
section
variable {β : Type} (wl : WLT β) (y : AAg9 β) (b : β) (R : AV → β → Prop) (K : Exit → List AV → List Blk → β → Prop)
end
theorem BIu9 : ∀ (n w k : Nat), lenW n w k ≤ n
 | 0, w, k => by simp [lenW]
 | n + 1, w, k => by
   have := BIu9 n ((w + 1) / 2) (k / 2)
   rw [lenW]; split
   · split <;> omega
   · omega
section
variable {β : Type} (wl : WLT β) (y : AAg9 β) (b : β) (R : AV → β → Prop) (K : Exit → List AV → List Blk → β → Prop)
end
noncomputable def lp12a : Code := sub [1, 1, 0, 1, 2, 3] (code Tryz.f46)
noncomputable def lp12b : Code := sub [1, 1, 1, 0, 1, 2, 3] (code Tryz.f46)
noncomputable def lp12c : Code := sub [1, 1, 1, 1, 0, 1, 2, 3] (code Tryz.f46)
def ANo9 (i : Int) : List AV := [.bad, .ptr 0 0, .bad, .d (i64 i)] ++ List.replicate 67 .bad
def ANn9 (i : Int) : List AV := [.bad, .ptr 0 0, .bad, .bad, .d (i64 i)] ++ List.replicate 66 .bad
def tm12c (i : Int) : List AV := [.bad, .ptr 0 0, .bad, .bad, .bad, .d (i64 i)] ++ List.replicate 65 .bad
section
variable {β : Type} (wl : WLT β) (y : AAg9 β) (b : β) (R : AV → β → Prop) (K : Exit → List AV → List Blk → β → Prop)
theorem r12a (s : SprT) (i : Int) : wpc Tryz.prog ⟨[], [], wl, y, false⟩ 100 lp12a (ANo9 i) [blkSI s] b (maskT [1, 2, 3] K) = ( BIf (decide (i < ((List.length (AAe9 (SprT.ps s)) : Nat) : Int))) (BIf (true && decide ((0 : Int) ≤ i)) (∃ (xs0 : List (List Dv)), (AAe9 (SprT.ps s))[Int.toNat i]? = some [Dv.sl 1 xs0] ∧ BIf (decide (((List.length xs0 : Nat) : Int) > (1000 : Int))) (K .ret [bad, AV.ptr 0 0, AV.d (bo false), AV.d (i64 i), bad, bad, bad, bad, bad, bad, bad, bad, bad, bad, bad, bad, bad, bad, bad, bad, bad, bad, bad, bad, bad, bad, bad, bad, bad, bad, bad, bad, bad, bad, bad, bad, bad, bad, bad, bad, bad, bad, bad, bad, bad, bad, bad, bad, bad, bad, bad, bad, bad, bad, bad, bad, bad, bad, bad, bad, bad, bad, bad, bad, bad, bad, bad, bad, bad, bad, bad] [Blk.mk [AV.d (i64 (NotT.v (SprT.no s))), AV.d (i64 (NotT.n (SprT.no s))), AV.d (u64 (NotT.r (SprT.no s))), AV.d (i64 (NotT.t (SprT.no s))), AV.d (Dv.sl 1 (AAe9 (SprT.ps s))), AV.d (Dv.sl 1 (AAf9 (SprT.qs s))), AV.d (Dv.sl 2 (SprT.rows s)), AV.d (Dv.sl 1 (digR (SprT.pf s))), AV.d (i64 (SprT.i1 s)), AV.d (i64 (SprT.i2 s)), AV.d (i64 (SprT.i3 s)), AV.d (i64 (SprT.i4 s)), AV.d (i64 (SprT.i5 s))] false false 0] b) (K .normal [bad, AV.ptr 0 0, bad, AV.d (i64 (IntKind.wrap .i64 (i + (1 : Int)))), bad, bad, bad, bad, bad, bad, bad, bad, bad, bad, bad, bad, bad, bad, bad, bad, bad, bad, bad, bad, bad, bad, bad, bad, bad, bad, bad, bad, bad, bad, bad, bad, bad, bad, bad, bad, bad, bad, bad, bad, bad, bad, bad, bad, bad, bad, bad, bad, bad, bad, bad, bad, bad, bad, bad, bad, bad, bad, bad, bad, bad, bad, bad, bad, bad, bad, bad] [Blk.mk [AV.d (i64 (NotT.v (SprT.no s))), AV.d (i64 (NotT.n (SprT.no s))), AV.d (u64 (NotT.r (SprT.no s))), AV.d (i64 (NotT.t (SprT.no s))), AV.d (Dv.sl 1 (AAe9 (SprT.ps s))), AV.d (Dv.sl 1 (AAf9 (SprT.qs s))), AV.d (Dv.sl 2 (SprT.rows s)), AV.d (Dv.sl 1 (digR (SprT.pf s))), AV.d (i64 (SprT.i1 s)), AV.d (i64 (SprT.i2 s)), AV.d (i64 (SprT.i3 s)), AV.d (i64 (SprT.i4 s)), AV.d (i64 (SprT.i5 s))] false false 0] b)) False) (K (Exit.exit 0) [bad, AV.ptr 0 0, bad, AV.d (i64 i), bad, bad, bad, bad, bad, bad, bad, bad, bad, bad, bad, bad, bad, bad, bad, bad, bad, bad, bad, bad, bad, bad, bad, bad, bad, bad, bad, bad, bad, bad, bad, bad, bad, bad, bad, bad, bad, bad, bad, bad, bad, bad, bad, bad, bad, bad, bad, bad, bad, bad, bad, bad, bad, bad, bad, bad, bad, bad, bad, bad, bad, bad, bad, bad, bad, bad, bad] [Blk.mk [AV.d (i64 (NotT.v (SprT.no s))), AV.d (i64 (NotT.n (SprT.no s))), AV.d (u64 (NotT.r (SprT.no s))), AV.d (i64 (NotT.t (SprT.no s))), AV.d (Dv.sl 1 (AAe9 (SprT.ps s))), AV.d (Dv.sl 1 (AAf9 (SprT.qs s))), AV.d (Dv.sl 2 (SprT.rows s)), AV.d (Dv.sl 1 (digR (SprT.pf s))), AV.d (i64 (SprT.i1 s)), AV.d (i64 (SprT.i2 s)), AV.d (i64 (SprT.i3 s)), AV.d (i64 (SprT.i4 s)), AV.d (i64 (SprT.i5 s))] false false 0] b)) := by kernel_rfl
theorem r12b (s : SprT) (i : Int) : wpc Tryz.prog ⟨[], [], wl, y, false⟩ 100 lp12b (ANn9 i) [blkSI s] b (maskT [1, 2, 4] K) = ( BIf (decide (i < ((List.length (AAf9 (SprT.qs s)) : Nat) : Int))) (BIf (true && decide ((0 : Int) ≤ i)) (∃ (xs0 : List (List Dv)), (AAf9 (SprT.qs s))[Int.toNat i]? = some [Dv.sl 1 xs0] ∧ BIf (decide (((List.length xs0 : Nat) : Int) > (40 : Int))) (K .ret [bad, AV.ptr 0 0, AV.d (bo false), bad, AV.d (i64 i), bad, bad, bad, bad, bad, bad, bad, bad, bad, bad, bad, bad, bad, bad, bad, bad, bad, bad, bad, bad, bad, bad, bad, bad, bad, bad, bad, bad, bad, bad, bad, bad, bad, bad, bad, bad, bad, bad, bad, bad, bad, bad, bad, bad, bad, bad, bad, bad, bad, bad, bad, bad, bad, bad, bad, bad, bad, bad, bad, bad, bad, bad, bad, bad, bad, bad] [Blk.mk [AV.d (i64 (NotT.v (SprT.no s))), AV.d (i64 (NotT.n (SprT.no s))), AV.d (u64 (NotT.r (SprT.no s))), AV.d (i64 (NotT.t (SprT.no s))), AV.d (Dv.sl 1 (AAe9 (SprT.ps s))), AV.d (Dv.sl 1 (AAf9 (SprT.qs s))), AV.d (Dv.sl 2 (SprT.rows s)), AV.d (Dv.sl 1 (digR (SprT.pf s))), AV.d (i64 (SprT.i1 s)), AV.d (i64 (SprT.i2 s)), AV.d (i64 (SprT.i3 s)), AV.d (i64 (SprT.i4 s)), AV.d (i64 (SprT.i5 s))] false false 0] b) (K .normal [bad, AV.ptr 0 0, bad, bad, AV.d (i64 (IntKind.wrap .i64 (i + (1 : Int)))), bad, bad, bad, bad, bad, bad, bad, bad, bad, bad, bad, bad, bad, bad, bad, bad, bad, bad, bad, bad, bad, bad, bad, bad, bad, bad, bad, bad, bad, bad, bad, bad, bad, bad, bad, bad, bad, bad, bad, bad, bad, bad, bad, bad, bad, bad, bad, bad, bad, bad, bad, bad, bad, bad, bad, bad, bad, bad, bad, bad, bad, bad, bad, bad, bad, bad] [Blk.mk [AV.d (i64 (NotT.v (SprT.no s))), AV.d (i64 (NotT.n (SprT.no s))), AV.d (u64 (NotT.r (SprT.no s))), AV.d (i64 (NotT.t (SprT.no s))), AV.d (Dv.sl 1 (AAe9 (SprT.ps s))), AV.d (Dv.sl 1 (AAf9 (SprT.qs s))), AV.d (Dv.sl 2 (SprT.rows s)), AV.d (Dv.sl 1 (digR (SprT.pf s))), AV.d (i64 (SprT.i1 s)), AV.d (i64 (SprT.i2 s)), AV.d (i64 (SprT.i3 s)), AV.d (i64 (SprT.i4 s)), AV.d (i64 (SprT.i5 s))] false false 0] b)) False) (K (Exit.exit 2) [bad, AV.ptr 0 0, bad, bad, AV.d (i64 i), bad, bad, bad, bad, bad, bad, bad, bad, bad, bad, bad, bad, bad, bad, bad, bad, bad, bad, bad, bad, bad, bad, bad, bad, bad, bad, bad, bad, bad, bad, bad, bad, bad, bad, bad, bad, bad, bad, bad, bad, bad, bad, bad, bad, bad, bad, bad, bad, bad, bad, bad, bad, bad, bad, bad, bad, bad, bad, bad, bad, bad, bad, bad, bad, bad, bad] [Blk.mk [AV.d (i64 (NotT.v (SprT.no s))), AV.d (i64 (NotT.n (SprT.no s))), AV.d (u64 (NotT.r (SprT.no s))), AV.d (i64 (NotT.t (SprT.no s))), AV.d (Dv.sl 1 (AAe9 (SprT.ps s))), AV.d (Dv.sl 1 (AAf9 (SprT.qs s))), AV.d (Dv.sl 2 (SprT.rows s)), AV.d (Dv.sl 1 (digR (SprT.pf s))), AV.d (i64 (SprT.i1 s)), AV.d (i64 (SprT.i2 s)), AV.d (i64 (SprT.i3 s)), AV.d (i64 (SprT.i4 s)), AV.d (i64 (SprT.i5 s))] false false 0] b)) := by kernel_rfl
theorem r12c (s : SprT) (i : Int) : wpc Tryz.prog ⟨[], [], wl, y, false⟩ 100 lp12c (tm12c i) [blkSI s] b (maskT [1, 2, 5] K) = ( BIf (decide (i < ((List.length (SprT.rows s) : Nat) : Int))) (BIf (true && decide ((0 : Int) ≤ i)) (∃ (x0 : Int) (xs1 : List (List Dv)), (SprT.rows s)[Int.toNat i]? = some [i64 x0, Dv.sl 1 xs1] ∧ BIf (decide (((List.length xs1 : Nat) : Int) > (100 : Int))) (K .ret [bad, AV.ptr 0 0, AV.d (bo false), bad, bad, AV.d (i64 i), bad, bad, bad, bad, bad, bad, bad, bad, bad, bad, bad, bad, bad, bad, bad, bad, bad, bad, bad, bad, bad, bad, bad, bad, bad, bad, bad, bad, bad, bad, bad, bad, bad, bad, bad, bad, bad, bad, bad, bad, bad, bad, bad, bad, bad, bad, bad, bad, bad, bad, bad, bad, bad, bad, bad, bad, bad, bad, bad, bad, bad, bad, bad, bad, bad] [Blk.mk [AV.d (i64 (NotT.v (SprT.no s))), AV.d (i64 (NotT.n (SprT.no s))), AV.d (u64 (NotT.r (SprT.no s))), AV.d (i64 (NotT.t (SprT.no s))), AV.d (Dv.sl 1 (AAe9 (SprT.ps s))), AV.d (Dv.sl 1 (AAf9 (SprT.qs s))), AV.d (Dv.sl 2 (SprT.rows s)), AV.d (Dv.sl 1 (digR (SprT.pf s))), AV.d (i64 (SprT.i1 s)), AV.d (i64 (SprT.i2 s)), AV.d (i64 (SprT.i3 s)), AV.d (i64 (SprT.i4 s)), AV.d (i64 (SprT.i5 s))] false false 0] b) (K .normal [bad, AV.ptr 0 0, bad, bad, bad, AV.d (i64 (IntKind.wrap .i64 (i + (1 : Int)))), bad, bad, bad, bad, bad, bad, bad, bad, bad, bad, bad, bad, bad, bad, bad, bad, bad, bad, bad, bad, bad, bad, bad, bad, bad, bad, bad, bad, bad, bad, bad, bad, bad, bad, bad, bad, bad, bad, bad, bad, bad, bad, bad, bad, bad, bad, bad, bad, bad, bad, bad, bad, bad, bad, bad, bad, bad, bad, bad, bad, bad, bad, bad, bad, bad] [Blk.mk [AV.d (i64 (NotT.v (SprT.no s))), AV.d (i64 (NotT.n (SprT.no s))), AV.d (u64 (NotT.r (SprT.no s))), AV.d (i64 (NotT.t (SprT.no s))), AV.d (Dv.sl 1 (AAe9 (SprT.ps s))), AV.d (Dv.sl 1 (AAf9 (SprT.qs s))), AV.d (Dv.sl 2 (SprT.rows s)), AV.d (Dv.sl 1 (digR (SprT.pf s))), AV.d (i64 (SprT.i1 s)), AV.d (i64 (SprT.i2 s)), AV.d (i64 (SprT.i3 s)), AV.d (i64 (SprT.i4 s)), AV.d (i64 (SprT.i5 s))] false false 0] b)) False) (K (Exit.exit 4) [bad, AV.ptr 0 0, bad, bad, bad, AV.d (i64 i), bad, bad, bad, bad, bad, bad, bad, bad, bad, bad, bad, bad, bad, bad, bad, bad, bad, bad, bad, bad, bad, bad, bad, bad, bad, bad, bad, bad, bad, bad, bad, bad, bad, bad, bad, bad, bad, bad, bad, bad, bad, bad, bad, bad, bad, bad, bad, bad, bad, bad, bad, bad, bad, bad, bad, bad, bad, bad, bad, bad, bad, bad, bad, bad, bad] [Blk.mk [AV.d (i64 (NotT.v (SprT.no s))), AV.d (i64 (NotT.n (SprT.no s))), AV.d (u64 (NotT.r (SprT.no s))), AV.d (i64 (NotT.t (SprT.no s))), AV.d (Dv.sl 1 (AAe9 (SprT.ps s))), AV.d (Dv.sl 1 (AAf9 (SprT.qs s))), AV.d (Dv.sl 2 (SprT.rows s)), AV.d (Dv.sl 1 (digR (SprT.pf s))), AV.d (i64 (SprT.i1 s)), AV.d (i64 (SprT.i2 s)), AV.d (i64 (SprT.i3 s)), AV.d (i64 (SprT.i4 s)), AV.d (i64 (SprT.i5 s))] false false 0] b)) := by kernel_rfl
end
def BHq9 (s : SprT) : Prop := ∀ r ∈ s.rows, ∃ (m : Int) (xs : List (List Dv)), r = [i64 m, .sl 1 xs]
def BLw9 : List Dv → Nat
 | [_, .sl _ xs] => xs.length
 | _ => 0
def nthR (l : List (List Dv)) (i : Nat) : List Dv := l.getD i []
theorem BSq9 {l : List (List Dv)} {i : Nat} (h : i < l.length) : l[i]? = some (nthR l i) := by simp [nthR, h]
theorem BNc9 {l : List (List Dv)} {i : Nat} (h : i < l.length) : nthR l i ∈ l := by
 rw [nthR, List.getD_eq_getElem?_getD, List.getElem?_eq_getElem h]; exact List.getElem_mem h
def anyP (ps : List (List Int)) : Bool := (List.range ps.length).any fun i => decide (((nthL ps i).length : Int) > 1000)
def anyQ (qs : List (List Int)) : Bool := (List.range qs.length).any fun i => decide (((nthL qs i).length : Int) > 40)
def anyR (rs : List (List Dv)) : Bool := (List.range rs.length).any fun i => decide ((BLw9 (nthR rs i) : Int) > 100)
theorem wr12a {Ev : Env Tryz.prog} {b : Ev.β} {Q : Exit → St Ev.β → Prop} (s : SprT) (hb : s.ps.length ≤ 9223372036854775807) (h1 : anyP s.ps = false → ∀ i : Int, Q (.exit 0) ⟨ANo9 i, [blkSI s], b⟩) (h2 : anyP s.ps = true → ∀ i : Int, Q .ret ⟨(ANo9 i).set 2 (.d (bo false)), [blkSI s], b⟩) :
   WR Ev lp12a (s.ps.length + 1) ⟨ANo9 (0 : Nat), [blkSI s], b⟩ Q := by
 refine WR.scan (X := ⟨[], [], wlW Ev, Ev.Y, false⟩) (k := 100) [1, 2, 3] mixed (CX.Ok.of AAa9.nil AAb9.nil) s.ps.length (fun i => decide (((nthL s.ps i).length : Int) > 1000)) (fun i => ANo9 (i : Nat)) (fun i => (ANo9 (i : Nat)).set 2 (.d (bo false))) [blkSI s] 0 (fun i hi K k1 k2 => ?_) (fun K k1 => ?_) (fun h => h1 h _) fun h i => h2 h _
 · rw [r12a, AAh9]
   refine BIf.t (by simp <;> omega) (BIf.t (by simp) ⟨_, by rw [Int.toNat_natCast]; exact AIj9 hi, BIf.of (fun g => k1 (by rw [AAj9] at g; exact g)) fun g => ?_⟩)
   rw [ABj9 hi hb]; exact k2 (by rw [AAj9] at g; exact g)
 · rw [r12a, AAh9]
   exact BIf.f (by simp) k1
theorem wr12b {Ev : Env Tryz.prog} {b : Ev.β} {Q : Exit → St Ev.β → Prop} (s : SprT) (hb : s.qs.length ≤ 9223372036854775807) (h1 : anyQ s.qs = false → ∀ i : Int, Q (.exit 2) ⟨ANn9 i, [blkSI s], b⟩) (h2 : anyQ s.qs = true → ∀ i : Int, Q .ret ⟨(ANn9 i).set 2 (.d (bo false)), [blkSI s], b⟩) :
   WR Ev lp12b (s.qs.length + 1) ⟨ANn9 (0 : Nat), [blkSI s], b⟩ Q := by
 refine WR.scan (X := ⟨[], [], wlW Ev, Ev.Y, false⟩) (k := 100) [1, 2, 4] mixed (CX.Ok.of AAa9.nil AAb9.nil) s.qs.length (fun i => decide (((nthL s.qs i).length : Int) > 40)) (fun i => ANn9 (i : Nat)) (fun i => (ANn9 (i : Nat)).set 2 (.d (bo false))) [blkSI s] 2 (fun i hi K k1 k2 => ?_) (fun K k1 => ?_) (fun h => h1 h _) fun h i => h2 h _
 · rw [r12b, AAy9]
   refine BIf.t (by simp <;> omega) (BIf.t (by simp) ⟨_, by rw [Int.toNat_natCast]; exact AHj9 hi, BIf.of (fun g => k1 (by rw [AAw9] at g; exact g)) fun g => ?_⟩)
   rw [ABj9 hi hb]; exact k2 (by rw [AAw9] at g; exact g)
 · rw [r12b, AAy9]
   exact BIf.f (by simp) k1
theorem wr12c {Ev : Env Tryz.prog} {b : Ev.β} {Q : Exit → St Ev.β → Prop} (s : SprT) (ho : BHq9 s) (hb : s.rows.length ≤ 9223372036854775807) (h1 : anyR s.rows = false → ∀ i : Int, Q (.exit 4) ⟨tm12c i, [blkSI s], b⟩) (h2 : anyR s.rows = true → ∀ i : Int, Q .ret ⟨(tm12c i).set 2 (.d (bo false)), [blkSI s], b⟩) :
   WR Ev lp12c (s.rows.length + 1) ⟨tm12c (0 : Nat), [blkSI s], b⟩ Q := by
 refine WR.scan (X := ⟨[], [], wlW Ev, Ev.Y, false⟩) (k := 100) [1, 2, 5] mixed (CX.Ok.of AAa9.nil AAb9.nil) s.rows.length (fun i => decide ((BLw9 (nthR s.rows i) : Int) > 100)) (fun i => tm12c (i : Nat)) (fun i => (tm12c (i : Nat)).set 2 (.d (bo false))) [blkSI s] 4 (fun i hi K k1 k2 => ?_) (fun K k1 => ?_) (fun h => h1 h _) fun h i => h2 h _
 · rw [r12c]
   obtain ⟨m, xs, he⟩ := ho _ (BNc9 hi)
   rw [he] at k1 k2
   refine BIf.t (by simp <;> omega) (BIf.t (by simp) ⟨m, xs, by rw [Int.toNat_natCast, BSq9 hi, he], BIf.of (fun g => k1 g) fun g => ?_⟩)
   rw [ABj9 hi hb]; exact k2 g
 · rw [r12c]
   exact BIf.f (by simp) k1
def wl12I {β : Type} : WLT β := fun c tm hp b K => match cidO c with
 | 5 => ∃ (s : SprT) (z : Bool), c = .loop lp12a ∧ ABc9 [1, 3] 0 tm = ANo9 0 ∧ hp = [blkSI s] ∧ (s.ps.length ≤ 9223372036854775807 ∧ z = anyP s.ps) ∧ BIf z (∀ i : Int, K .ret ((ANo9 i).set 2 (.d (bo false))) [blkSI s] b) (∀ i : Int, K (.exit 0) (ANo9 i) [blkSI s] b)
 | 10 => ∃ (s : SprT) (z : Bool), c = .loop lp12b ∧ ABc9 [1, 4] 0 tm = ANn9 0 ∧ hp = [blkSI s] ∧ (s.qs.length ≤ 9223372036854775807 ∧ z = anyQ s.qs) ∧ BIf z (∀ i : Int, K .ret ((ANn9 i).set 2 (.d (bo false))) [blkSI s] b) (∀ i : Int, K (.exit 2) (ANn9 i) [blkSI s] b)
 | 15 => ∃ (s : SprT) (z : Bool), c = .loop lp12c ∧ ABc9 [1, 5] 0 tm = tm12c 0 ∧ hp = [blkSI s] ∧ ((BHq9 s ∧ s.rows.length ≤ 9223372036854775807) ∧ z = anyR s.rows) ∧ BIf z (∀ i : Int, K .ret ((tm12c i).set 2 (.d (bo false))) [blkSI s] b) (∀ i : Int, K (.exit 4) (tm12c i) [blkSI s] b)
 | _ => False
theorem BKv9 {Ev : Env Tryz.prog} (c : Code) (tm : List AV) (hp : List Blk) (b : Ev.β) (K : Exit → List AV → List Blk → Ev.β → Prop) (h : wl12I c tm hp b K) : W Ev c ⟨tm, hp, b⟩ (fun e s => K e s.tm s.hp s.b) := by
 unfold wl12I at h
 split at h
 · obtain ⟨s, z, rfl, htm, rfl, ⟨hb, hz⟩, hK⟩ := h
   refine W.cast (htm ▸ AAk9 _ tm 0) (LeH.refl _) ?_
   exact W.rounds (wr12a (Q := fun e s => K e s.tm s.hp s.b) s hb (fun h => by rw [hz, h] at hK; exact hK) fun h => by rw [hz, h] at hK; exact hK)
 · obtain ⟨s, z, rfl, htm, rfl, ⟨hb, hz⟩, hK⟩ := h
   refine W.cast (htm ▸ AAk9 _ tm 0) (LeH.refl _) ?_
   exact W.rounds (wr12b (Q := fun e s => K e s.tm s.hp s.b) s hb (fun h => by rw [hz, h] at hK; exact hK) fun h => by rw [hz, h] at hK; exact hK)
 · obtain ⟨s, z, rfl, htm, rfl, ⟨⟨ho, hb⟩, hz⟩, hK⟩ := h
   refine W.cast (htm ▸ AAk9 _ tm 0) (LeH.refl _) ?_
   exact W.rounds (wr12c (Q := fun e s => K e s.tm s.hp s.b) s ho hb (fun h => by rw [hz, h] at hK; exact hK) fun h => by rw [hz, h] at hK; exact hK)
 · exact h.elim
section
variable {β : Type} (wl : WLT β) (y : AAg9 β) (b : β) (R : AV → β → Prop) (K : Exit → List AV → List Blk → β → Prop)
theorem few_nf (s : SprT) : wpFn Tryz.prog ⟨[], [], wl12I, y, false⟩ 100 Tryz.f46 [spV s] b R = ( BIf (decide (((List.length (AAe9 (SprT.ps s)) : Nat) : Int) > (20 : Int))) (R (.d (bo false)) b) (BIf (decide (((List.length (AAf9 (SprT.qs s)) : Nat) : Int) > (20 : Int))) (R (.d (bo false)) b) (BIf (decide (((List.length (SprT.rows s) : Nat) : Int) > (40 : Int))) (R (.d (bo false)) b) (BIf (decide (((List.length (digR (SprT.pf s)) : Nat) : Int) > (40 : Int))) (R (.d (bo false)) b) (∃ (s0 : SprT) (z1 : Bool), Code.loop lp12a = Code.loop lp12a ∧ [bad, AV.ptr 0 0, bad, AV.d (i64 0), bad, bad, bad, bad, bad, bad, bad, bad, bad, bad, bad, bad, bad, bad, bad, bad, bad, bad, bad, bad, bad, bad, bad, bad, bad, bad, bad, bad, bad, bad, bad, bad, bad, bad, bad, bad, bad, bad, bad, bad, bad, bad, bad, bad, bad, bad, bad, bad, bad, bad, bad, bad, bad, bad, bad, bad, bad, bad, bad, bad, bad, bad, bad, bad, bad, bad, bad] = [bad, AV.ptr 0 0, bad, AV.d (i64 0), bad, bad, bad, bad, bad, bad, bad, bad, bad, bad, bad, bad, bad, bad, bad, bad, bad, bad, bad, bad, bad, bad, bad, bad, bad, bad, bad, bad, bad, bad, bad, bad, bad, bad, bad, bad, bad, bad, bad, bad, bad, bad, bad, bad, bad, bad, bad, bad, bad, bad, bad, bad, bad, bad, bad, bad, bad, bad, bad, bad, bad, bad, bad, bad, bad, bad, bad] ∧ [Blk.mk [AV.d (i64 (NotT.v (SprT.no s))), AV.d (i64 (NotT.n (SprT.no s))), AV.d (u64 (NotT.r (SprT.no s))), AV.d (i64 (NotT.t (SprT.no s))), AV.d (Dv.sl 1 (AAe9 (SprT.ps s))), AV.d (Dv.sl 1 (AAf9 (SprT.qs s))), AV.d (Dv.sl 2 (SprT.rows s)), AV.d (Dv.sl 1 (digR (SprT.pf s))), AV.d (i64 (SprT.i1 s)), AV.d (i64 (SprT.i2 s)), AV.d (i64 (SprT.i3 s)), AV.d (i64 (SprT.i4 s)), AV.d (i64 (SprT.i5 s))] false false 0] = [Blk.mk [AV.d (i64 (NotT.v (SprT.no s0))), AV.d (i64 (NotT.n (SprT.no s0))), AV.d (u64 (NotT.r (SprT.no s0))), AV.d (i64 (NotT.t (SprT.no s0))), AV.d (Dv.sl 1 (AAe9 (SprT.ps s0))), AV.d (Dv.sl 1 (AAf9 (SprT.qs s0))), AV.d (Dv.sl 2 (SprT.rows s0)), AV.d (Dv.sl 1 (digR (SprT.pf s0))), AV.d (i64 (SprT.i1 s0)), AV.d (i64 (SprT.i2 s0)), AV.d (i64 (SprT.i3 s0)), AV.d (i64 (SprT.i4 s0)), AV.d (i64 (SprT.i5 s0))] false false 0] ∧ (List.length (SprT.ps s0) ≤ 9223372036854775807 ∧ z1 = anyP (SprT.ps s0)) ∧ BIf z1 (∀ (i : Int), R (.d (bo false)) b) (∀ (i : Int), ∃ (s2 : SprT) (z3 : Bool), Code.loop lp12b = Code.loop lp12b ∧ [bad, AV.ptr 0 0, bad, bad, AV.d (i64 0), bad, bad, bad, bad, bad, bad, bad, bad, bad, bad, bad, bad, bad, bad, bad, bad, bad, bad, bad, bad, bad, bad, bad, bad, bad, bad, bad, bad, bad, bad, bad, bad, bad, bad, bad, bad, bad, bad, bad, bad, bad, bad, bad, bad, bad, bad, bad, bad, bad, bad, bad, bad, bad, bad, bad, bad, bad, bad, bad, bad, bad, bad, bad, bad, bad, bad] = [bad, AV.ptr 0 0, bad, bad, AV.d (i64 0), bad, bad, bad, bad, bad, bad, bad, bad, bad, bad, bad, bad, bad, bad, bad, bad, bad, bad, bad, bad, bad, bad, bad, bad, bad, bad, bad, bad, bad, bad, bad, bad, bad, bad, bad, bad, bad, bad, bad, bad, bad, bad, bad, bad, bad, bad, bad, bad, bad, bad, bad, bad, bad, bad, bad, bad, bad, bad, bad, bad, bad, bad, bad, bad, bad, bad] ∧ [Blk.mk [AV.d (i64 (NotT.v (SprT.no s0))), AV.d (i64 (NotT.n (SprT.no s0))), AV.d (u64 (NotT.r (SprT.no s0))), AV.d (i64 (NotT.t (SprT.no s0))), AV.d (Dv.sl 1 (AAe9 (SprT.ps s0))), AV.d (Dv.sl 1 (AAf9 (SprT.qs s0))), AV.d (Dv.sl 2 (SprT.rows s0)), AV.d (Dv.sl 1 (digR (SprT.pf s0))), AV.d (i64 (SprT.i1 s0)), AV.d (i64 (SprT.i2 s0)), AV.d (i64 (SprT.i3 s0)), AV.d (i64 (SprT.i4 s0)), AV.d (i64 (SprT.i5 s0))] false false 0] = [Blk.mk [AV.d (i64 (NotT.v (SprT.no s2))), AV.d (i64 (NotT.n (SprT.no s2))), AV.d (u64 (NotT.r (SprT.no s2))), AV.d (i64 (NotT.t (SprT.no s2))), AV.d (Dv.sl 1 (AAe9 (SprT.ps s2))), AV.d (Dv.sl 1 (AAf9 (SprT.qs s2))), AV.d (Dv.sl 2 (SprT.rows s2)), AV.d (Dv.sl 1 (digR (SprT.pf s2))), AV.d (i64 (SprT.i1 s2)), AV.d (i64 (SprT.i2 s2)), AV.d (i64 (SprT.i3 s2)), AV.d (i64 (SprT.i4 s2)), AV.d (i64 (SprT.i5 s2))] false false 0] ∧ (List.length (SprT.qs s2) ≤ 9223372036854775807 ∧ z3 = anyQ (SprT.qs s2)) ∧ BIf z3 (∀ (i : Int), R (.d (bo false)) b) (∀ (i : Int), ∃ (s4 : SprT) (z5 : Bool), Code.loop lp12c = Code.loop lp12c ∧ [bad, AV.ptr 0 0, bad, bad, bad, AV.d (i64 0), bad, bad, bad, bad, bad, bad, bad, bad, bad, bad, bad, bad, bad, bad, bad, bad, bad, bad, bad, bad, bad, bad, bad, bad, bad, bad, bad, bad, bad, bad, bad, bad, bad, bad, bad, bad, bad, bad, bad, bad, bad, bad, bad, bad, bad, bad, bad, bad, bad, bad, bad, bad, bad, bad, bad, bad, bad, bad, bad, bad, bad, bad, bad, bad, bad] = [bad, AV.ptr 0 0, bad, bad, bad, AV.d (i64 0), bad, bad, bad, bad, bad, bad, bad, bad, bad, bad, bad, bad, bad, bad, bad, bad, bad, bad, bad, bad, bad, bad, bad, bad, bad, bad, bad, bad, bad, bad, bad, bad, bad, bad, bad, bad, bad, bad, bad, bad, bad, bad, bad, bad, bad, bad, bad, bad, bad, bad, bad, bad, bad, bad, bad, bad, bad, bad, bad, bad, bad, bad, bad, bad, bad] ∧ [Blk.mk [AV.d (i64 (NotT.v (SprT.no s2))), AV.d (i64 (NotT.n (SprT.no s2))), AV.d (u64 (NotT.r (SprT.no s2))), AV.d (i64 (NotT.t (SprT.no s2))), AV.d (Dv.sl 1 (AAe9 (SprT.ps s2))), AV.d (Dv.sl 1 (AAf9 (SprT.qs s2))), AV.d (Dv.sl 2 (SprT.rows s2)), AV.d (Dv.sl 1 (digR (SprT.pf s2))), AV.d (i64 (SprT.i1 s2)), AV.d (i64 (SprT.i2 s2)), AV.d (i64 (SprT.i3 s2)), AV.d (i64 (SprT.i4 s2)), AV.d (i64 (SprT.i5 s2))] false false 0] = [Blk.mk [AV.d (i64 (NotT.v (SprT.no s4))), AV.d (i64 (NotT.n (SprT.no s4))), AV.d (u64 (NotT.r (SprT.no s4))), AV.d (i64 (NotT.t (SprT.no s4))), AV.d (Dv.sl 1 (AAe9 (SprT.ps s4))), AV.d (Dv.sl 1 (AAf9 (SprT.qs s4))), AV.d (Dv.sl 2 (SprT.rows s4)), AV.d (Dv.sl 1 (digR (SprT.pf s4))), AV.d (i64 (SprT.i1 s4)), AV.d (i64 (SprT.i2 s4)), AV.d (i64 (SprT.i3 s4)), AV.d (i64 (SprT.i4 s4)), AV.d (i64 (SprT.i5 s4))] false false 0] ∧ (((∀ (r : List Dv), r ∈ SprT.rows s4 → ∃ (m6 : Int) (xs7 : List (List Dv)), r = [i64 m6, Dv.sl 1 xs7]) ∧ List.length (SprT.rows s4) ≤ 9223372036854775807) ∧ z5 = anyR (SprT.rows s4)) ∧ BIf z5 (∀ (i : Int), R (.d (bo false)) b) (∀ (i : Int), R (.d (bo true)) b)))))))) := by kernel_rfl
end
def fewSI (s : SprT) : Bool := !decide ((s.ps.length : Int) > 20) && (!decide ((s.qs.length : Int) > 20) && (!decide ((s.rows.length : Int) > 40) && (!decide ((s.pf.length : Int) > 40) && (!anyP s.ps && (!anyQ s.qs && !anyR s.rows)))))
theorem pcFew (s : SprT) (ho : BHq9 s) : PCall Tryz.prog 46 [spV s] (.d (bo (fewSI s))) := by
 refine PCall.ofFnW (n := 100) (u := false) (fun _ => wl12I) mixed AAa9.nil AAb9.nil (fun Ev => BKv9) Tryz.func46 (by rfl) (by rfl) fun Ev bb => ?_
 rw [few_nf, AAh9, AAy9, AAw9]
 refine BIf.of (fun g => by rw [fewSI, g]; rfl) fun g1 => BIf.of (fun g => by rw [fewSI, g1, g]; rfl) fun g2 => BIf.of (fun g => by rw [fewSI, g1, g2, g]; rfl) fun g3 => BIf.of (fun g => by rw [fewSI, g1, g2, g3, g]; rfl) fun g4 => ?_
 have n1 := of_decide_eq_false g1
 have n2 := of_decide_eq_false g2
 have n3 := of_decide_eq_false g3
 refine ⟨s, _, rfl, rfl, rfl, ⟨by omega, rfl⟩, BIf.of (fun g _ => by rw [fewSI, g1, g2, g3, g4, g]; rfl) fun g5 _ => ⟨s, _, rfl, rfl, rfl, ⟨by omega, rfl⟩, BIf.of (fun g _ => by rw [fewSI, g1, g2, g3, g4, g5, g]; rfl) fun g6 _ => ⟨s, _, rfl, rfl, rfl, ⟨⟨ho, by omega⟩, rfl⟩, BIf.of (fun g _ => by rw [fewSI, g1, g2, g3, g4, g5, g6, g]; rfl) fun g7 _ => by rw [fewSI, g1, g2, g3, g4, g5, g6, g7]; rfl⟩⟩⟩
def cFew (args : List AV) (K : AV → Prop) : Prop := ∃ (s : SprT) (z : Bool), args = [spV s] ∧ (BHq9 s ∧ z = fewSI s) ∧ K (.d (bo z))
theorem cFew_ok : ∀ args K, cFew args K → ∃ x, PCall Tryz.prog 46 args x ∧ K x := by
 rintro _ K ⟨s, _, rfl, ⟨hl, rfl⟩, h⟩; exact ⟨_, pcFew s hl, h⟩
section
variable {β : Type} (wl : WLT β) (y : AAg9 β) (b : β) (R : AV → β → Prop) (K : Exit → List AV → List Blk → β → Prop)
end
def ANw9 (p : List Int) (i : Nat) : List Int := (p.drop (i * 256)).take 256
section
variable {β : Type} (wl : WLT β) (y : AAg9 β) (b : β) (R : AV → β → Prop) (K : Exit → List AV → List Blk → β → Prop)
end
theorem AWf9 (p : List Int) (i : Nat) : ANw9 (p.drop 256) i = ANw9 p (i + 1) := by
 rw [ANw9, ANw9, List.drop_drop]; congr 2; omega
theorem ALb9 : ∀ (n : Nat) (p : List Int), p.length ≤ n → ACo9 256 n p = (List.range ((p.length + 255) / 256)).map (ANw9 p)
 | 0, p, h => by
   have : p = [] := List.length_eq_zero_iff.1 (by omega)
   subst this; rfl
 | n + 1, p, h => by
   rw [ACo9]
   cases hp : p with
   | nil => rfl
   | cons a l =>
     rw [if_neg (by simp), ← hp]
     have hl : 1 ≤ p.length := by rw [hp]; simp
     rw [ALb9 n (p.drop 256) (by simp; omega)]
     have e : (p.length + 255) / 256 = ((p.drop 256).length + 255) / 256 + 1 := by rw [List.length_drop]; omega
     rw [e, List.range_succ_eq_map, List.map_cons, List.map_map]
     refine congr (congrArg _ ?_) (List.map_congr_left fun i _ => AWf9 p i)
     rw [ANw9]; simp
theorem ADc9 (p : List Int) : ACz9 p = (List.range ((p.length + 255) / 256)).map fun i => padS (ANw9 p i) := by
 rw [ACz9, ALb9 _ _ (Nat.le_refl _), List.map_map]; rfl
theorem ANv9 (p : List Int) (i : Nat) : (ANw9 p i).length ≤ 256 := by rw [ANw9, List.length_take]; omega
theorem BHh9 {p : List Int} : ∀ r ∈ AAd9 p, r.length = 1 := by
 intro r hr; simp only [AAd9, List.mem_map] at hr; obtain ⟨_, _, rfl⟩ := hr; rfl
section
variable {β : Type} (wl : WLT β) (y : AAg9 β) (b : β) (R : AV → β → Prop) (K : Exit → List AV → List Blk → β → Prop)
end
section
variable {β : Type} (wl : WLT β) (y : AAg9 β) (b : β) (R : AV → β → Prop) (K : Exit → List AV → List Blk → β → Prop)
end
theorem AUr9 (f : Int → Bool) : ∀ l : List Int, l.dropWhile f = [] ↔ ∀ x ∈ l, f x = true
 | [] => by simp
 | a :: l => by
   rw [List.dropWhile_cons]
   split
   · rename_i h
     rw [AUr9 f l]
     refine ⟨fun g x hx => ?_, fun g x hx => g x (List.mem_cons_of_mem _ hx)⟩
     rcases List.mem_cons.1 hx with rfl | hx
     · exact h
     · exact g x hx
   · rename_i h
     exact ⟨fun g => (by cases g), fun g => absurd (g a (List.mem_cons_self ..)) h⟩
theorem ATe9 (l : List Int) : (0 < (trimS l).length) ↔ l.all (· == 0) = false := by
 have key : trimS l = [] ↔ ∀ x ∈ l, x = 0 := by
   rw [trimS, AUr9]
   constructor
   · intro h x hx
     have hx' : x ∈ l.reverse := List.mem_reverse.2 hx
     rw [← List.takeWhile_append_dropWhile (p := (· == (0 : Int))) (l := l.reverse)] at hx'
     rcases List.mem_append.1 hx' with h1 | h1
     · simpa using (List.all_eq_true.1 (List.all_takeWhile (p := (· == (0 : Int))) (l := l.reverse)) x h1)
     · have := h x (by rw [trimR, List.mem_reverse]; exact h1)
       simpa using this
   · intro h x hx
     rw [trimR, List.mem_reverse] at hx
     have := h x (List.mem_reverse.1 ((List.dropWhile_sublist _).subset hx))
     simp [this]
 constructor
 · intro h
   cases hl : l.all (· == 0) with
   | false => rfl
   | true =>
     have : trimS l = [] := key.2 fun x hx => by simpa using List.all_eq_true.1 hl x hx
     rw [this] at h; simp at h
 · intro h
   apply Classical.byContradiction
   intro hc
   have : trimS l = [] := List.length_eq_zero_iff.1 (by omega)
   have := key.1 this
   have : l.all (· == 0) = true := List.all_eq_true.2 fun x hx => by simp [this x hx]
   rw [this] at h; cases h
section
variable {β : Type} (wl : WLT β) (y : AAg9 β) (b : β) (R : AV → β → Prop) (K : Exit → List AV → List Blk → β → Prop)
end
section
variable {β : Type} (wl : WLT β) (y : AAg9 β) (b : β) (R : AV → β → Prop) (K : Exit → List AV → List Blk → β → Prop)
end
noncomputable def lp22 : Code := sub [1, 1, 1, 1, 1, 1, 0, 1, 2, 3] (code Tryz.f60)
def tm22 (p q : List (List Dv)) (i : Int) : List AV := [.bad, .d (.sl 1 p), .d (.sl 1 q), .ptr 0 0, .bad, .bad, .ptr 1 0, .bad, .bad, .ptr 2 0, .d (i64 i)] ++ List.replicate 92 .bad
section
variable {β : Type} (wl : WLT β) (y : AAg9 β) (b : β) (R : AV → β → Prop) (K : Exit → List AV → List Blk → β → Prop)
theorem r22 (s : SprT) (b1 : Blk) (p q X Y : List (List Dv)) (i : Int) : wpc Tryz.prog ⟨[], [], wl, y, false⟩ 100 lp22 (tm22 p q i) [blkSI s, b1, outB s (.own 33 1 X) (.own 28 1 Y)] b (maskT [1, 2, 3, 6, 9, 10] K) = ( BIf (decide (i < ((List.length (AAe9 (SprT.ps s)) : Nat) : Int))) (BIf (true && decide ((0 : Int) ≤ i)) (∃ (xs0 : List (List Dv)), (AAe9 (SprT.ps s))[Int.toNat i]? = some [Dv.sl 1 xs0] ∧ BIf (decide (List.length xs0 * 1 ≤ 140737488355328)) (BIf (true && decide ((0 : Int) ≤ i)) (∃ (xs3 : List (List Dv)), (AAf9 (SprT.qs s))[Int.toNat i]? = some [Dv.sl 1 xs3] ∧ BIf (decide (List.length xs3 * 8 ≤ 140737488355328)) (BIf (true && decide ((List.length X + 1) * 24 ≤ 140737488355328)) (BIf (true && decide ((List.length Y + 1) * 24 ≤ 140737488355328)) (K .normal [bad, AV.d (Dv.sl 1 p), AV.d (Dv.sl 1 q), AV.ptr 0 0, bad, bad, AV.ptr 1 0, bad, bad, AV.ptr 2 0, AV.d (i64 (IntKind.wrap .i64 (i + (1 : Int)))), bad, bad, bad, bad, bad, bad, bad, bad, bad, bad, bad, bad, bad, bad, bad, bad, bad, bad, bad, bad, bad, bad, bad, bad, bad, bad, bad, bad, bad, bad, bad, bad, bad, bad, bad, bad, bad, bad, bad, bad, bad, bad, bad, bad, bad, bad, bad, bad, bad, bad, bad, bad, bad, bad, bad, bad, bad, bad, bad, bad, bad, bad, bad, bad, bad, bad, bad, bad, bad, bad, bad, bad, bad, bad, bad, bad, bad, bad, bad, bad, bad, bad, bad, bad, bad, bad, bad, bad, bad, bad, bad, bad] [Blk.mk [AV.d (i64 (NotT.v (SprT.no s))), AV.d (i64 (NotT.n (SprT.no s))), AV.d (u64 (NotT.r (SprT.no s))), AV.d (i64 (NotT.t (SprT.no s))), AV.d (Dv.sl 1 (AAe9 (SprT.ps s))), AV.d (Dv.sl 1 (AAf9 (SprT.qs s))), AV.d (Dv.sl 2 (SprT.rows s)), AV.d (Dv.sl 1 (digR (SprT.pf s))), AV.d (i64 (SprT.i1 s)), AV.d (i64 (SprT.i2 s)), AV.d (i64 (SprT.i3 s)), AV.d (i64 (SprT.i4 s)), AV.d (i64 (SprT.i5 s))] false false 0, b1, Blk.mk [AV.d (i64 (NotT.v (SprT.no s))), AV.d (i64 (NotT.n (SprT.no s))), AV.d (u64 (NotT.r (SprT.no s))), AV.d (i64 (NotT.t (SprT.no s))), AV.own 33 1 (X ++ [[Dv.sl 1 xs0]]), AV.own 28 1 (Y ++ [[Dv.sl 1 xs3]]), AV.d (Dv.s (.slice none 0 0)), AV.d (Dv.s (.slice none 0 0)), AV.d (i64 (SprT.i1 s)), AV.d (i64 (SprT.i2 s)), AV.d (i64 (SprT.i3 s)), AV.d (i64 (SprT.i4 s)), AV.d (i64 (SprT.i5 s))] false false 0] b) False) False) False) False) False) False) (K (Exit.exit 0) [bad, AV.d (Dv.sl 1 p), AV.d (Dv.sl 1 q), AV.ptr 0 0, bad, bad, AV.ptr 1 0, bad, bad, AV.ptr 2 0, AV.d (i64 i), bad, bad, bad, bad, bad, bad, bad, bad, bad, bad, bad, bad, bad, bad, bad, bad, bad, bad, bad, bad, bad, bad, bad, bad, bad, bad, bad, bad, bad, bad, bad, bad, bad, bad, bad, bad, bad, bad, bad, bad, bad, bad, bad, bad, bad, bad, bad, bad, bad, bad, bad, bad, bad, bad, bad, bad, bad, bad, bad, bad, bad, bad, bad, bad, bad, bad, bad, bad, bad, bad, bad, bad, bad, bad, bad, bad, bad, bad, bad, bad, bad, bad, bad, bad, bad, bad, bad, bad, bad, bad, bad, bad] [Blk.mk [AV.d (i64 (NotT.v (SprT.no s))), AV.d (i64 (NotT.n (SprT.no s))), AV.d (u64 (NotT.r (SprT.no s))), AV.d (i64 (NotT.t (SprT.no s))), AV.d (Dv.sl 1 (AAe9 (SprT.ps s))), AV.d (Dv.sl 1 (AAf9 (SprT.qs s))), AV.d (Dv.sl 2 (SprT.rows s)), AV.d (Dv.sl 1 (digR (SprT.pf s))), AV.d (i64 (SprT.i1 s)), AV.d (i64 (SprT.i2 s)), AV.d (i64 (SprT.i3 s)), AV.d (i64 (SprT.i4 s)), AV.d (i64 (SprT.i5 s))] false false 0, b1, Blk.mk [AV.d (i64 (NotT.v (SprT.no s))), AV.d (i64 (NotT.n (SprT.no s))), AV.d (u64 (NotT.r (SprT.no s))), AV.d (i64 (NotT.t (SprT.no s))), AV.own 33 1 X, AV.own 28 1 Y, AV.d (Dv.s (.slice none 0 0)), AV.d (Dv.s (.slice none 0 0)), AV.d (i64 (SprT.i1 s)), AV.d (i64 (SprT.i2 s)), AV.d (i64 (SprT.i3 s)), AV.d (i64 (SprT.i4 s)), AV.d (i64 (SprT.i5 s))] false false 0] b)) := by kernel_rfl
end
theorem BDu9 {p : List Int} (h : ADa9 p.length = true) : areS (ACz9 p) = true := by
 obtain ⟨k, hk, hk1, hk2⟩ := AFe9 h
 have hl : (ACz9 p).length = (p.length + 255) / 256 := by rw [ADc9]; simp
 have ha : ANc9 (ACz9 p) = false := by
   rw [ANc9, List.any_eq_false]
   intro q hq
   rw [ADc9] at hq
   obtain ⟨i, _, rfl⟩ := List.mem_map.1 hq
   have := ANx9 (ANv9 p i)
   simp; omega
 rw [areS, ha, hl]
 have : p.length = k := by omega
 rw [decide_eq_true (by omega), decide_eq_true (by omega)]; rfl
section
variable {β : Type} (wl : WLT β) (y : AAg9 β) (b : β) (R : AV → β → Prop) (K : Exit → List AV → List Blk → β → Prop)
end
section
variable {β : Type} (wl : WLT β) (y : AAg9 β) (b : β) (R : AV → β → Prop) (K : Exit → List AV → List Blk → β → Prop)
end
def BDv9 (p : List Int) : List (List Int) × Int := if ADa9 p.length then (ACz9 p, 0) else ([], 1)
def BJf9 (args : List AV) (K : AV → Prop) : Prop := ∃ (p : List Int) (q : List (List Int)) (e : Int), args = [.d (.sl 1 (AAd9 p))] ∧ (p.length ≤ 9223372036854775807 ∧ (q, e) = BDv9 p) ∧ K (.tup [.d (.sl 1 (AAe9 q)), .d (i64 e)])
theorem BBx9 : ∀ args K, BJf9 args K → ∃ x, PCall Tryz.prog 27 args x ∧ K x := by
 rintro _ K ⟨p, q, e, rfl, ⟨hl, he⟩, h⟩
 have h1 := BIn9 p hl
 rw [BDv9] at he
 split at he
 · rename_i hz
   rw [if_pos hz] at h1
   cases he; exact ⟨_, h1, h⟩
 · rename_i hz
   rw [if_neg hz] at h1
   cases he; exact ⟨_, h1, h⟩
def smpF (i : Nat) : Int := IntKind.wrap .u8 (IntKind.wrap .i64 ((i : Int) * 7))
def smp : List Int := (List.range 300).map smpF
section
variable {β : Type} (wl : WLT β) (y : AAg9 β) (b : β) (R : AV → β → Prop) (K : Exit → List AV → List Blk → β → Prop)
end
section
variable {β : Type} (wl : WLT β) (y : AAg9 β) (b : β) (R : AV → β → Prop) (K : Exit → List AV → List Blk → β → Prop)
end
structure TrT where
 iv : Int
 bg : Int
 fi : Int
 ct : Int
 sd : Int
def trL (t : TrT) : List AV := [.d (i64 t.iv), .d (i64 t.bg), .d (i64 t.fi), .d (i64 t.ct), .d (i64 t.sd)]
def trV (t : TrT) : AV := .agg (trL t)
def trB (t : TrT) : Blk := ⟨trL t, false, false, 0⟩
def noL (n : NotT) : List AV := [.d (i64 n.v), .d (i64 n.n), .d (u64 n.r), .d (i64 n.t)]
def spL (s : SprT) : List AV := [.d (i64 s.no.v), .d (i64 s.no.n), .d (u64 s.no.r), .d (i64 s.no.t), .d (.sl 1 (AAe9 s.ps)), .d (.sl 1 (AAf9 s.qs)), .d (.sl 2 s.rows), .d (.sl 1 (digR s.pf)), .d (i64 s.i1), .d (i64 s.i2), .d (i64 s.i3), .d (i64 s.i4), .d (i64 s.i5)]
def inS (n lo hi : Int) : Bool := decide (lo ≤ n) && decide (n ≤ hi)
section
variable {β : Type} (wl : WLT β) (y : AAg9 β) (b : β) (R : AV → β → Prop) (RS : AV → List Blk → β → Prop) (K : Exit → List AV → List Blk → β → Prop)
theorem in_nf (n lo hi : Int) : wpFn Tryz.prog ⟨[], [], wl, y, false⟩ 100 Tryz.f186 [.d (i64 n), .d (i64 lo), .d (i64 hi)] b R = ( BIf (decide (n ≥ lo)) (R (AV.d (bo (decide (n ≤ hi)))) b) (R (AV.d (bo false)) b)) := by kernel_rfl
end
theorem pcIn (n lo hi : Int) : PCall Tryz.prog 186 [.d (i64 n), .d (i64 lo), .d (i64 hi)] (.d (bo (inS n lo hi))) := by
 refine PCall.ofFn (n := 100) (u := false) mixed AAa9.nil AAb9.nil Tryz.func186 (by rfl) (by rfl) fun Ev bb => ?_
 rw [in_nf]
 have e : inS n lo hi = (decide (n ≥ lo) && decide (n ≤ hi)) := rfl
 rw [e]
 exact BIf.of (fun h => by rw [h]; rfl) fun h => by rw [h]; rfl
def cIn (args : List AV) (K : AV → Prop) : Prop := ∃ (n lo hi : Int), args = [.d (i64 n), .d (i64 lo), .d (i64 hi)] ∧ K (.d (bo (inS n lo hi)))
theorem cIn_ok : ∀ args K, cIn args K → ∃ x, PCall Tryz.prog 186 args x ∧ K x := by
 rintro _ K ⟨n, lo, hi, rfl, h⟩; exact ⟨_, pcIn n lo hi, h⟩
def TIn : List (Nat × (List AV → (AV → Prop) → Prop)) := [(186, cIn)]
theorem TIn_ok : AAa9 Tryz.prog TIn := AAa9.cons cIn_ok AAa9.nil
def AEq9 (x : Int) : Bool := inS x 0 1000000000
def ACh9 (x : Int) : Bool := inS x 0 999999984
section
variable {β : Type} (wl : WLT β) (y : AAg9 β) (b : β) (R : AV → β → Prop) (RS : AV → List Blk → β → Prop) (K : Exit → List AV → List Blk → β → Prop)
theorem BKz9 (n : Int) : wpFn Tryz.prog ⟨TIn, [], wl, y, false⟩ 100 Tryz.f140 [.d (i64 n)] b R = ( ∃ (n0 : Int) (lo1 : Int) (hi2 : Int), [AV.d (i64 n), AV.d (i64 0), AV.d (i64 1000000000)] = [AV.d (i64 n0), AV.d (i64 lo1), AV.d (i64 hi2)] ∧ R (.d (bo (inS n0 lo1 hi2))) b) := by kernel_rfl
theorem BNp9 (n : Int) : wpFn Tryz.prog ⟨TIn, [], wl, y, false⟩ 100 Tryz.f135 [.d (i64 n)] b R = ( ∃ (n0 : Int) (lo1 : Int) (hi2 : Int), [AV.d (i64 n), AV.d (i64 0), AV.d (i64 999999984)] = [AV.d (i64 n0), AV.d (i64 lo1), AV.d (i64 hi2)] ∧ R (.d (bo (inS n0 lo1 hi2))) b) := by kernel_rfl
end
theorem BRt9 (n : Int) : PCall Tryz.prog 140 [.d (i64 n)] (.d (bo (AEq9 n))) := by
 refine PCall.ofFn (n := 100) (u := false) mixed TIn_ok AAb9.nil Tryz.func140 (by rfl) (by rfl) fun Ev bb => ?_
 rw [BKz9]
 exact ⟨_, _, _, rfl, rfl⟩
theorem BSe9 (n : Int) : PCall Tryz.prog 135 [.d (i64 n)] (.d (bo (ACh9 n))) := by
 refine PCall.ofFn (n := 100) (u := false) mixed TIn_ok AAb9.nil Tryz.func135 (by rfl) (by rfl) fun Ev bb => ?_
 rw [BNp9]
 exact ⟨_, _, _, rfl, rfl⟩
def BOd9 (args : List AV) (K : AV → Prop) : Prop := ∃ (n : Int), args = [.d (i64 n)] ∧ K (.d (bo (AEq9 n)))
def BOr9 (args : List AV) (K : AV → Prop) : Prop := ∃ (n : Int), args = [.d (i64 n)] ∧ K (.d (bo (ACh9 n)))
theorem AUt9 : ∀ args K, BOd9 args K → ∃ x, PCall Tryz.prog 140 args x ∧ K x := by
 rintro _ K ⟨n, rfl, h⟩; exact ⟨_, BRt9 n, h⟩
theorem AVb9 : ∀ args K, BOr9 args K → ∃ x, PCall Tryz.prog 135 args x ∧ K x := by
 rintro _ K ⟨n, rfl, h⟩; exact ⟨_, BSe9 n, h⟩
def TIv : List (Nat × (List AV → (AV → Prop) → Prop)) := [(186, cIn), (135, BOr9), (140, BOd9)]
theorem TIv_ok : AAa9 Tryz.prog TIv := AAa9.cons cIn_ok (AAa9.cons AVb9 (AAa9.cons AUt9 AAa9.nil))
def TFi : List (Nat × (List AV → (AV → Prop) → Prop)) := [(153, c58)]
theorem TFi_ok : AAa9 Tryz.prog TFi := AAa9.cons c58_ok AAa9.nil
section
variable {β : Type} (wl : WLT β) (y : AAg9 β) (b : β) (R : AV → β → Prop) (RS : AV → List Blk → β → Prop) (K : Exit → List AV → List Blk → β → Prop)
theorem BAx9 (t : TrT) : wpFn Tryz.prog ⟨TIv, [], wl, y, false⟩ 100 Tryz.f134 [trV t] b R = ( ∃ (n0 : Int) (lo1 : Int) (hi2 : Int), [AV.d (i64 (TrT.iv t)), AV.d (i64 1), AV.d (i64 8)] = [AV.d (i64 n0), AV.d (i64 lo1), AV.d (i64 hi2)] ∧ BIf (!inS n0 lo1 hi2) (R (.d (bo false)) b) (BIf (IntKind.wrap .i64 ((BitVec.toNat (BitVec.ofInt 64 (TrT.iv t) &&& BitVec.ofInt 64 (IntKind.wrap .i64 (TrT.iv t - (1 : Int)))) : Nat) : Int) != (0 : Int)) (R (.d (bo false)) b) (∃ (n3 : Int), [AV.d (i64 (TrT.bg t))] = [AV.d (i64 n3)] ∧ BIf (!ACh9 n3) (R (.d (bo false)) b) (∃ (n4 : Int), [AV.d (i64 (TrT.sd t))] = [AV.d (i64 n4)] ∧ BIf (!AEq9 n4) (R (.d (bo false)) b) (∃ (n5 : Int) (lo6 : Int) (hi7 : Int), [AV.d (i64 (TrT.fi t)), AV.d (i64 (IntKind.wrap .i64 (TrT.bg t + IntKind.wrap .i64 (Int.tdiv (TrT.iv t) (2 : Int))))), AV.d (i64 (IntKind.wrap .i64 (IntKind.wrap .i64 (TrT.bg t + TrT.iv t) - (1 : Int))))] = [AV.d (i64 n5), AV.d (i64 lo6), AV.d (i64 hi7)] ∧ BIf (inS n5 lo6 hi7) (∃ (n8 : Int) (lo9 : Int) (hi10 : Int), [AV.d (i64 (TrT.ct t)), AV.d (i64 0), AV.d (i64 100)] = [AV.d (i64 n8), AV.d (i64 lo9), AV.d (i64 hi10)] ∧ R (.d (bo (inS n8 lo9 hi10))) b) (R (.d (bo false)) b)))))) := by kernel_rfl
theorem BPa9 (s n : Int) : wpFn Tryz.prog ⟨TFi, [], wl, y, false⟩ 100 Tryz.f187 [.d (u64 s), .d (i64 n)] b R = ( BIf (decide (n < (1 : Int))) (R (.d (i64 0)) b) (BIf (decide (n > (1000000000 : Int))) (R (.d (i64 0)) b) (∃ (x0 : Int), [AV.d (u64 s)] = [AV.d (u64 x0)] ∧ BIf (decide (n = (0 : Int)) || false) False (R (.d (i64 (Int.tmod (AJe9 x0) n))) b)))) := by kernel_rfl
end
def ABe9 (t : TrT) : Bool := (decide (t.iv = 1) || decide (t.iv = 2) || decide (t.iv = 4) || decide (t.iv = 8)) && ACh9 t.bg && AEq9 t.sd && (decide (t.bg + t.iv / 2 ≤ t.fi) && decide (t.fi ≤ t.bg + t.iv - 1)) && inS t.ct 0 100
theorem ADo9 {n lo hi : Int} : inS n lo hi = true ↔ lo ≤ n ∧ n ≤ hi := by simp [inS]
theorem BIm9 {n : Int} (h : inS n 1 8 = true) : (IntKind.wrap IntKind.i64 ((BitVec.toNat (BitVec.ofInt 64 n &&& BitVec.ofInt 64 (IntKind.wrap IntKind.i64 (n - 1))) : Nat) : Int) != 0) = !(decide (n = 1) || decide (n = 2) || decide (n = 4) || decide (n = 8)) := by
 rw [ADo9] at h
 obtain ⟨h1, h2⟩ := h
 have : n = 1 ∨ n = 2 ∨ n = 3 ∨ n = 4 ∨ n = 5 ∨ n = 6 ∨ n = 7 ∨ n = 8 := by omega
 rcases this with rfl | rfl | rfl | rfl | rfl | rfl | rfl | rfl <;> rfl
theorem BSr9 {n : Int} (h : inS n 1 8 = false) : (decide (n = 1) || decide (n = 2) || decide (n = 4) || decide (n = 8)) = false := by
 have h' : ¬ (1 ≤ n ∧ n ≤ 8) := fun hc => by rw [ADo9.2 hc] at h; cases h
 simp only [Bool.or_eq_false_iff, decide_eq_false_iff_not]
 omega
theorem ACs9 {t : TrT} : ABe9 t = true ↔ (t.iv = 1 ∨ t.iv = 2 ∨ t.iv = 4 ∨ t.iv = 8) ∧ (0 ≤ t.bg ∧ t.bg ≤ 999999984) ∧ (0 ≤ t.sd ∧ t.sd ≤ 1000000000) ∧ (t.bg + t.iv / 2 ≤ t.fi ∧ t.fi ≤ t.bg + t.iv - 1) ∧ 0 ≤ t.ct ∧ t.ct ≤ 100 := by
 simp only [ABe9, Bool.and_eq_true, Bool.or_eq_true, decide_eq_true_eq, ACh9, AEq9, ADo9, and_assoc, or_assoc]
theorem nbt {x : Bool} (h : (!x) = true) : x = false := by cases x <;> first | rfl | cases h
theorem nbf {x : Bool} (h : (!x) = false) : x = true := by cases x <;> first | rfl | cases h
theorem wr64 {x : Int} (h1 : -9223372036854775808 ≤ x) (h2 : x ≤ 9223372036854775807) : IntKind.wrap .i64 x = x := AAs9 h1 (by omega)
theorem BEu9 (t : TrT) : PCall Tryz.prog 134 [trV t] (.d (bo (ABe9 t))) := by
 refine PCall.ofFn (n := 100) (u := false) mixed TIv_ok AAb9.nil Tryz.func134 (by rfl) (by rfl) fun Ev bb => ?_
 rw [BAx9]
 refine ⟨_, _, _, rfl, BIf.of (fun g => ?_) fun g1 => BIf.of (fun g => ?_) fun g2 => ⟨_, rfl, BIf.of (fun g => ?_) fun g3 => ⟨_, rfl, BIf.of (fun g => ?_) fun g4 => ⟨_, _, _, rfl, ?_⟩⟩⟩⟩
 · have g : inS t.iv 1 8 = false := by simpa using g
   rw [show ABe9 t = false by simp only [ABe9, BSr9 g, Bool.false_and]]
 · have g1 : inS t.iv 1 8 = true := by simpa using g1
   rw [BIm9 g1] at g
   rw [show ABe9 t = false by simp only [ABe9, nbt g, Bool.false_and]]
 · rw [show ABe9 t = false by simp only [ABe9, nbt g, Bool.false_and, Bool.and_false]]
 · rw [show ABe9 t = false by simp only [ABe9, nbt g, Bool.false_and, Bool.and_false]]
 · have g1 : inS t.iv 1 8 = true := by simpa using g1
   rw [BIm9 g1] at g2
   have g3 : ACh9 t.bg = true := by simpa using g3
   have g4 : AEq9 t.sd = true := by simpa using g4
   have g2 : (decide (t.iv = 1) || decide (t.iv = 2) || decide (t.iv = 4) || decide (t.iv = 8)) = true := nbf g2
   have b1 := ADo9.1 g1
   have b3 := ADo9.1 g3
   have e1 : IntKind.wrap IntKind.i64 (t.bg + IntKind.wrap IntKind.i64 (Int.tdiv t.iv 2)) = t.bg + t.iv / 2 := by
     rw [Int.tdiv_eq_ediv_of_nonneg (by omega), wr64 (x := t.iv / 2) (by omega) (by omega), wr64 (by omega) (by omega)]
   have e2 : IntKind.wrap IntKind.i64 (IntKind.wrap IntKind.i64 (t.bg + t.iv) - 1) = t.bg + t.iv - 1 := by
     rw [wr64 (x := t.bg + t.iv) (by omega) (by omega), wr64 (by omega) (by omega)]
   have ev : ABe9 t = (inS t.fi (t.bg + t.iv / 2) (t.bg + t.iv - 1) && inS t.ct 0 100) := by
     simp only [ABe9, g2, g3, g4, Bool.true_and]; rfl
   rw [e1, e2, ev]
   refine BIf.of (fun h => ?_) fun h => ?_
   · rw [h, Bool.true_and]; exact ⟨_, _, _, rfl, rfl⟩
   · rw [h]; rfl
def BCk9 (args : List AV) (K : AV → Prop) : Prop := ∃ (t : TrT), args = [trV t] ∧ K (.d (bo (ABe9 t)))
theorem AWw9 : ∀ args K, BCk9 args K → ∃ x, PCall Tryz.prog 134 args x ∧ K x := by
 rintro _ K ⟨n, rfl, h⟩; exact ⟨_, BEu9 n, h⟩
def AHc9 (s n : Int) : Int := if n < 1 ∨ n > 1000000000 then 0 else Int.tmod (AJe9 s) n
theorem BSk9 (s n : Int) : PCall Tryz.prog 187 [.d (u64 s), .d (i64 n)] (.d (i64 (AHc9 s n))) := by
 refine PCall.ofFn (n := 100) (u := false) mixed TFi_ok AAb9.nil Tryz.func187 (by rfl) (by rfl) fun Ev bb => ?_
 rw [BPa9]
 refine BIf.of (fun h => ?_) fun h1 => BIf.of (fun h => ?_) fun h2 => ⟨_, rfl, BIf.f ?_ ?_⟩
 · rw [AHc9, if_pos (.inl (of_decide_eq_true h))]
 · rw [AHc9, if_pos (.inr (of_decide_eq_true h))]
 · have h1 := of_decide_eq_false h1
   simp; omega
 · have h1 := of_decide_eq_false h1
   have h2 := of_decide_eq_false h2
   rw [AHc9, if_neg (by omega)]
def cBelow (args : List AV) (K : AV → Prop) : Prop := ∃ (s n : Int), args = [.d (u64 s), .d (i64 n)] ∧ K (.d (i64 (AHc9 s n)))
theorem BHf9 : ∀ args K, cBelow args K → ∃ x, PCall Tryz.prog 187 args x ∧ K x := by
 rintro _ K ⟨s, n, rfl, h⟩; exact ⟨_, BSk9 s n, h⟩
def TBe : List (Nat × (List AV → (AV → Prop) → Prop)) := [(187, cBelow)]
theorem TBe_ok : AAa9 Tryz.prog TBe := AAa9.cons BHf9 AAa9.nil
section
variable {β : Type} (wl : WLT β) (y : AAg9 β) (b : β) (R : AV → β → Prop) (RS : AV → List Blk → β → Prop) (K : Exit → List AV → List Blk → β → Prop)
theorem BHj9 (b0 : Blk) (t : TrT) (l f : Int) : wpc Tryz.prog ⟨TBe, [], wl, y, false⟩ 100 (code Tryz.f136) (AAt9 Tryz.f136 [.ptr 1 0, .d (i64 l), .d (i64 f)]) [b0, trB t] b (fnKS Tryz.prog Tryz.f136 RS) = ( ∃ (s0 : Int) (n1 : Int), [AV.d (u64 (IntKind.wrap .u64 (IntKind.wrap .u64 ((1000003 : Int) * IntKind.wrap .u64 (TrT.sd t)) + IntKind.wrap .u64 f))), AV.d (i64 (IntKind.wrap .i64 (l - IntKind.wrap .i64 (Int.tdiv l (2 : Int)))))] = [AV.d (u64 s0), AV.d (i64 n1)] ∧ RS (AV.tup []) [b0, Blk.mk [AV.d (i64 l), AV.d (i64 f), AV.d (i64 (IntKind.wrap .i64 (IntKind.wrap .i64 (f + IntKind.wrap .i64 (Int.tdiv l (2 : Int))) + AHc9 s0 n1))), AV.d (i64 0), AV.d (i64 (TrT.sd t))] false false 0] b) := by kernel_rfl
theorem BHi9 (b0 b1 : Blk) (t : TrT) (l f : Int) : wpc Tryz.prog ⟨TBe, [], wl, y, false⟩ 100 (code Tryz.f136) (AAt9 Tryz.f136 [.ptr 2 0, .d (i64 l), .d (i64 f)]) [b0, b1, trB t] b (fnKS Tryz.prog Tryz.f136 RS) = ( ∃ (s0 : Int) (n1 : Int), [AV.d (u64 (IntKind.wrap .u64 (IntKind.wrap .u64 ((1000003 : Int) * IntKind.wrap .u64 (TrT.sd t)) + IntKind.wrap .u64 f))), AV.d (i64 (IntKind.wrap .i64 (l - IntKind.wrap .i64 (Int.tdiv l (2 : Int)))))] = [AV.d (u64 s0), AV.d (i64 n1)] ∧ RS (AV.tup []) [b0, b1, Blk.mk [AV.d (i64 l), AV.d (i64 f), AV.d (i64 (IntKind.wrap .i64 (IntKind.wrap .i64 (f + IntKind.wrap .i64 (Int.tdiv l (2 : Int))) + AHc9 s0 n1))), AV.d (i64 0), AV.d (i64 (TrT.sd t))] false false 0] b) := by kernel_rfl
end
theorem AHb9 (s : Int) {n : Int} (h1 : 1 ≤ n) (h2 : n ≤ 1000000000) : 0 ≤ AHc9 s n ∧ AHc9 s n < n := by
 have h := AKv9 s
 rw [AHc9, if_neg (by omega), Int.tmod_eq_emod_of_nonneg h.1]
 exact ⟨Int.emod_nonneg _ (by omega), Int.emod_lt_of_pos _ (by omega)⟩
def AFo9 (sd l f : Int) : TrT := ⟨l, f, f + l / 2 + AHc9 (1000003 * sd + f) (l - l / 2), 0, sd⟩
def lenS (l : Int) : Prop := l = 1 ∨ l = 2 ∨ l = 4 ∨ l = 8
theorem AWy9 {sd l f : Int} (hl : lenS l) (hf : ACh9 f = true) (hs : AEq9 sd = true) : ABe9 (AFo9 sd l f) = true := by
 have hf := ADo9.1 hf
 have hs := ADo9.1 hs
 unfold lenS at hl
 have hb := AHb9 (1000003 * sd + f) (n := l - l / 2) (by omega) (by omega)
 rw [ACs9]
 refine ⟨hl, hf, hs, ⟨?_, ?_⟩, by simp [AFo9], by simp [AFo9]⟩ <;> (simp only [AFo9]; omega)
theorem BCx9 {sd l f : Int} (hl : lenS l) (hf : ACh9 f = true) (hs : AEq9 sd = true) :
   IntKind.wrap IntKind.u64 (IntKind.wrap IntKind.u64 (1000003 * IntKind.wrap IntKind.u64 sd) + IntKind.wrap IntKind.u64 f) = 1000003 * sd + f ∧
   IntKind.wrap IntKind.i64 (l - IntKind.wrap IntKind.i64 (Int.tdiv l 2)) = l - l / 2 ∧
   IntKind.wrap IntKind.i64 (IntKind.wrap IntKind.i64 (f + IntKind.wrap IntKind.i64 (Int.tdiv l 2)) + AHc9 (1000003 * sd + f) (l - l / 2)) = f + l / 2 + AHc9 (1000003 * sd + f) (l - l / 2) := by
 have hf := ADo9.1 hf
 have hs := ADo9.1 hs
 unfold lenS at hl
 have hb := AHb9 (1000003 * sd + f) (n := l - l / 2) (by omega) (by omega)
 have e1 : IntKind.wrap IntKind.i64 (Int.tdiv l 2) = l / 2 := by
   rw [Int.tdiv_eq_ediv_of_nonneg (by omega), wr64 (by omega) (by omega)]
 rw [e1]
 refine ⟨?_, wr64 (by omega) (by omega), ?_⟩
 · rw [AFd9 (x := sd) (by omega) (by omega), AFd9 (x := f) (by omega) (by omega), AFd9 (x := 1000003 * sd) (by omega) (by omega), AFd9 (by omega) (by omega)]
 · rw [wr64 (x := f + l / 2) (by omega) (by omega), wr64 (by omega) (by omega)]
theorem ARc9 : Tryz.f136.body = some (code Tryz.f136) := by rfl
theorem BLo9 (b0 : Blk) (t : TrT) (l f : Int) (hl : lenS l) (hf : ACh9 f = true) (hs : AEq9 t.sd = true) : SCall Tryz.prog 136 [.ptr 1 0, .d (i64 l), .d (i64 f)] [b0, trB t] (.tup []) [b0, trB (AFo9 t.sd l f)] := by
 refine SCall.ofWp (n := 100) (u := false) mixed TBe_ok AAb9.nil Tryz.func136 ARc9 (by rfl) fun Ev b => ?_
 rw [BHj9]
 obtain ⟨e1, e2, e3⟩ := BCx9 hl hf hs
 rw [e1, e2]
 refine ⟨_, _, rfl, rfl, ?_⟩
 rw [e3]; rfl
theorem BLn9 (b0 b1 : Blk) (t : TrT) (l f : Int) (hl : lenS l) (hf : ACh9 f = true) (hs : AEq9 t.sd = true) : SCall Tryz.prog 136 [.ptr 2 0, .d (i64 l), .d (i64 f)] [b0, b1, trB t] (.tup []) [b0, b1, trB (AFo9 t.sd l f)] := by
 refine SCall.ofWp (n := 100) (u := false) mixed TBe_ok AAb9.nil Tryz.func136 ARc9 (by rfl) fun Ev b => ?_
 rw [BHi9]
 obtain ⟨e1, e2, e3⟩ := BCx9 hl hf hs
 rw [e1, e2]
 refine ⟨_, _, rfl, rfl, ?_⟩
 rw [e3]; rfl
def BLt9 (args : List AV) (hp : List Blk) (K : AV → List Blk → Prop) : Prop := match hp with
 | [b0, b1] => ∃ (t : TrT) (l f : Int), args = [.ptr 1 0, .d (i64 l), .d (i64 f)] ∧ b1 = trB t ∧ (lenS l ∧ ACh9 f = true ∧ AEq9 t.sd = true) ∧ K (.tup []) [b0, trB (AFo9 t.sd l f)]
 | [b0, b1, b2] => ∃ (t : TrT) (l f : Int), args = [.ptr 2 0, .d (i64 l), .d (i64 f)] ∧ b2 = trB t ∧ (lenS l ∧ ACh9 f = true ∧ AEq9 t.sd = true) ∧ K (.tup []) [b0, b1, trB (AFo9 t.sd l f)]
 | _ => False
theorem BEd9 : ∀ args hp K, BLt9 args hp K → ∃ x hp', SCall Tryz.prog 136 args hp x hp' ∧ K x hp' := by
 intro args hp K h
 unfold BLt9 at h
 split at h
 · obtain ⟨t, l, f, rfl, rfl, ⟨h1, h2, h3⟩, h⟩ := h
   exact ⟨_, _, BLo9 _ t l f h1 h2 h3, h⟩
 · obtain ⟨t, l, f, rfl, rfl, ⟨h1, h2, h3⟩, h⟩ := h
   exact ⟨_, _, BLn9 _ _ t l f h1 h2 h3, h⟩
 · exact h.elim
def TTi : List (Nat × (List AV → (AV → Prop) → Prop)) := [(140, BOd9), (135, BOr9), (134, BCk9)]
theorem BHl9 : AAa9 Tryz.prog TTi := AAa9.cons AUt9 (AAa9.cons AVb9 (AAa9.cons AWw9 AAa9.nil))
def STi : List (Nat × (List AV → List Blk → (AV → List Blk → Prop) → Prop)) := [(136, BLt9)]
theorem BHp9 : AAb9 Tryz.prog STi := AAb9.cons BEd9 AAb9.nil
section
variable {β : Type} (wl : WLT β) (y : AAg9 β) (b : β) (R : AV → β → Prop) (RS : AV → List Blk → β → Prop) (K : Exit → List AV → List Blk → β → Prop)
theorem BRa9 (s f : Int) : wpFn Tryz.prog ⟨TTi, STi, wl, y, false⟩ 100 Tryz.f72 [.d (i64 s), .d (i64 f)] b R = ( ∃ (n0 : Int), [AV.d (i64 s)] = [AV.d (i64 n0)] ∧ BIf (!AEq9 n0) (R (.tup [AV.agg [AV.d (i64 0), AV.d (i64 0), AV.d (i64 0), AV.d (i64 0), AV.d (i64 0)], AV.d (i64 1)]) b) (∃ (n1 : Int), [AV.d (i64 f)] = [AV.d (i64 n1)] ∧ BIf (!ACh9 n1) (R (.tup [AV.agg [AV.d (i64 0), AV.d (i64 0), AV.d (i64 0), AV.d (i64 0), AV.d (i64 0)], AV.d (i64 1)]) b) (∃ (t2 : TrT) (l3 : Int) (f4 : Int), [AV.ptr 1 0, AV.d (i64 1), AV.d (i64 f)] = [AV.ptr 1 0, AV.d (i64 l3), AV.d (i64 f4)] ∧ Blk.mk [AV.d (i64 0), AV.d (i64 0), AV.d (i64 0), AV.d (i64 0), AV.d (i64 s)] false false 0 = Blk.mk (trL t2) false false 0 ∧ ((l3 = (1 : Int) ∨ l3 = (2 : Int) ∨ l3 = (4 : Int) ∨ l3 = (8 : Int)) ∧ ACh9 f4 = true ∧ AEq9 (TrT.sd t2) = true) ∧ R (.tup [AV.agg (trL (AFo9 (TrT.sd t2) l3 f4)), AV.d (i64 0)]) b))) := by kernel_rfl
theorem BDo9 (t : TrT) (f : Int) : wpFn Tryz.prog ⟨TTi, STi, wl, y, false⟩ 100 Tryz.f73 [trV t, .d (i64 f)] b R = ( ∃ (t0 : TrT), [AV.agg (trL t)] = [AV.agg (trL t0)] ∧ BIf (!ABe9 t0) (R (.agg (trL t)) b) (∃ (n1 : Int), [AV.d (i64 f)] = [AV.d (i64 n1)] ∧ BIf (!ACh9 n1) (R (.agg (trL t)) b) (BIf (TrT.iv t == (1 : Int)) (R (.agg (trL t)) b) (∃ (t2 : TrT) (l3 : Int) (f4 : Int), [AV.ptr 2 0, AV.d (i64 1), AV.d (i64 f)] = [AV.ptr 2 0, AV.d (i64 l3), AV.d (i64 f4)] ∧ Blk.mk (trL t) false false 0 = Blk.mk (trL t2) false false 0 ∧ ((l3 = (1 : Int) ∨ l3 = (2 : Int) ∨ l3 = (4 : Int) ∨ l3 = (8 : Int)) ∧ ACh9 f4 = true ∧ AEq9 (TrT.sd t2) = true) ∧ R (.agg (trL (AFo9 (TrT.sd t2) l3 f4))) b)))) := by kernel_rfl
theorem BLc9 (t : TrT) : wpFn Tryz.prog ⟨TTi, STi, wl, y, false⟩ 100 Tryz.f74 [trV t] b R = ( ∃ (t0 : TrT), [AV.agg (trL t)] = [AV.agg (trL t0)] ∧ BIf (ABe9 t0) (∃ (z1 : Int), (z1 = if IntKind.wrap .i64 (TrT.ct t + (1 : Int)) < (100 : Int) then IntKind.wrap .i64 (TrT.ct t + (1 : Int)) else (100 : Int)) ∧ R (.agg [AV.d (i64 (TrT.iv t)), AV.d (i64 (TrT.bg t)), AV.d (i64 (TrT.fi t)), AV.d (i64 z1), AV.d (i64 (TrT.sd t))]) b) (R (.agg (trL t)) b)) := by kernel_rfl
theorem BLb9 (t : TrT) (f : Int) : wpFn Tryz.prog ⟨TTi, STi, wl, y, false⟩ 100 Tryz.f63 [trV t, .d (i64 f)] b R = ( ∃ (t0 : TrT), [AV.agg (trL t)] = [AV.agg (trL t0)] ∧ BIf (!ABe9 t0) (R (.tup [AV.agg (trL t), AV.d (bo false)]) b) (∃ (n1 : Int), [AV.d (i64 f)] = [AV.d (i64 n1)] ∧ BIf (!ACh9 n1) (R (.tup [AV.agg (trL t), AV.d (bo false)]) b) (BIf (decide (f < TrT.bg t)) (R (.tup [AV.agg (trL t), AV.d (bo false)]) b) (BIf (decide (f ≥ IntKind.wrap .i64 (TrT.bg t + TrT.iv t))) (∃ (z2 : Int), (z2 = if IntKind.wrap .i64 ((2 : Int) * TrT.iv t) < (8 : Int) then IntKind.wrap .i64 ((2 : Int) * TrT.iv t) else (8 : Int)) ∧ ∃ (t3 : TrT) (l4 : Int) (f5 : Int), [AV.ptr 2 0, AV.d (i64 z2), AV.d (i64 f)] = [AV.ptr 2 0, AV.d (i64 l4), AV.d (i64 f5)] ∧ Blk.mk (trL t) false false 0 = Blk.mk (trL t3) false false 0 ∧ ((l4 = (1 : Int) ∨ l4 = (2 : Int) ∨ l4 = (4 : Int) ∨ l4 = (8 : Int)) ∧ ACh9 f5 = true ∧ AEq9 (TrT.sd t3) = true) ∧ BIf (f == TrT.fi (AFo9 (TrT.sd t3) l4 f5)) (R (.tup [AV.agg (trL (AFo9 (TrT.sd t3) l4 f5)), AV.d (bo true)]) b) (R (.tup [AV.agg (trL (AFo9 (TrT.sd t3) l4 f5)), AV.d (bo false)]) b)) (BIf (f == TrT.fi t) (R (.tup [AV.agg (trL t), AV.d (bo (decide (TrT.ct t < (2 : Int))))]) b) (R (.tup [AV.agg (trL t), AV.d (bo false)]) b)))))) := by kernel_rfl
end
def zeroT : TrT := ⟨0, 0, 0, 0, 0⟩
def newT (s f : Int) : TrT × Int := if AEq9 s && ACh9 f then (AFo9 s 1 f, 0) else (zeroT, 1)
def AGl9 (t : TrT) (f : Int) : TrT := if ABe9 t && ACh9 f && !(t.iv == 1) then AFo9 t.sd 1 f else t
def hearT (t : TrT) : TrT := if ABe9 t then ⟨t.iv, t.bg, t.fi, min 100 (t.ct + 1), t.sd⟩ else t
def AHp9 (t : TrT) (f : Int) : TrT := if t.bg + t.iv ≤ f then AFo9 t.sd (min 8 (2 * t.iv)) f else t
def tickT (t : TrT) (f : Int) : TrT × Bool := if ABe9 t && ACh9 f && decide (t.bg ≤ f) then (AHp9 t f, f == (AHp9 t f).fi && decide ((AHp9 t f).ct < 2)) else (t, false)
theorem pcTNew (s f : Int) : PCall Tryz.prog 72 [.d (i64 s), .d (i64 f)] (.tup [trV (newT s f).1, .d (i64 (newT s f).2)]) := by
 refine PCall.ofFn (n := 100) (u := false) mixed BHl9 BHp9 Tryz.func72 (by rfl) (by rfl) fun Ev bb => ?_
 rw [BRa9]
 refine ⟨_, rfl, BIf.of (fun g => ?_) fun g1 => ⟨_, rfl, BIf.of (fun g => ?_) fun g2 => ?_⟩⟩
 · rw [newT, nbt g]; rfl
 · rw [newT, nbt g, Bool.and_false]; rfl
 · refine ⟨⟨0, 0, 0, 0, s⟩, _, _, rfl, rfl, ⟨.inl rfl, nbf g2, nbf g1⟩, ?_⟩
   rw [newT, nbf g1, nbf g2]; rfl
def cTNew (args : List AV) (K : AV → Prop) : Prop := ∃ (s f : Int) (z : TrT) (e : Int), args = [.d (i64 s), .d (i64 f)] ∧ (z, e) = newT s f ∧ K (.tup [trV z, .d (i64 e)])
theorem BOf9 : ∀ args K, cTNew args K → ∃ x, PCall Tryz.prog 72 args x ∧ K x := by
 rintro _ K ⟨s, f, z, e, rfl, he, h⟩
 have := pcTNew s f
 rw [← he] at this
 exact ⟨_, this, h⟩
theorem BIf9 {t : TrT} (h : ABe9 t = true) : AEq9 t.sd = true := ADo9.2 (ACs9.1 h).2.2.1
theorem BMf9 (t : TrT) (f : Int) : PCall Tryz.prog 73 [trV t, .d (i64 f)] (trV (AGl9 t f)) := by
 refine PCall.ofFn (n := 100) (u := false) mixed BHl9 BHp9 Tryz.func73 (by rfl) (by rfl) fun Ev bb => ?_
 rw [BDo9]
 refine ⟨t, rfl, BIf.of (fun g => ?_) fun g1 => ⟨_, rfl, BIf.of (fun g => ?_) fun g2 => BIf.of (fun g => ?_) fun g3 => ?_⟩⟩
 · rw [AGl9, nbt g]; rfl
 · rw [AGl9, nbt g, Bool.and_false]; rfl
 · rw [AGl9, g, Bool.not_true, Bool.and_false]; rfl
 · refine ⟨t, _, _, rfl, rfl, ⟨.inl rfl, nbf g2, BIf9 (nbf g1)⟩, ?_⟩
   rw [AGl9, nbf g1, nbf g2, g3]; rfl
def BJe9 (args : List AV) (K : AV → Prop) : Prop := ∃ (t : TrT) (f : Int) (z : TrT), args = [trV t, .d (i64 f)] ∧ z = AGl9 t f ∧ K (trV z)
theorem BBv9 : ∀ args K, BJe9 args K → ∃ x, PCall Tryz.prog 73 args x ∧ K x := by
 rintro _ K ⟨t, f, _, rfl, rfl, h⟩; exact ⟨_, BMf9 t f, h⟩
theorem BRv9 (t : TrT) : PCall Tryz.prog 74 [trV t] (trV (hearT t)) := by
 refine PCall.ofFn (n := 100) (u := false) mixed BHl9 BHp9 Tryz.func74 (by rfl) (by rfl) fun Ev bb => ?_
 rw [BLc9]
 refine ⟨t, rfl, BIf.of (fun g => ⟨_, rfl, ?_⟩) fun g => ?_⟩
 · have h := ACs9.1 g
   rw [hearT, g, if_pos rfl, wr64 (by omega) (by omega)]
   have e : (if t.ct + 1 < 100 then t.ct + 1 else 100) = min 100 (t.ct + 1) := by omega
   rw [e]; rfl
 · rw [hearT, g]; rfl
def BOg9 (args : List AV) (K : AV → Prop) : Prop := ∃ (t z : TrT), args = [trV t] ∧ z = hearT t ∧ K (trV z)
theorem AUv9 : ∀ args K, BOg9 args K → ∃ x, PCall Tryz.prog 74 args x ∧ K x := by
 rintro _ K ⟨t, _, rfl, rfl, h⟩; exact ⟨_, BRv9 t, h⟩
theorem BDn9 {t : TrT} {f : Int} (h : ABe9 t = true) (hf : ACh9 f = true) : IntKind.wrap .i64 (t.bg + t.iv) = t.bg + t.iv ∧ (if IntKind.wrap IntKind.i64 (2 * t.iv) < 8 then IntKind.wrap IntKind.i64 (2 * t.iv) else 8) = min 8 (2 * t.iv) ∧ lenS (min 8 (2 * t.iv)) := by
 have h := ACs9.1 h
 refine ⟨wr64 (by omega) (by omega), ?_, ?_⟩
 · rw [wr64 (by omega) (by omega)]; omega
 · unfold lenS; omega
theorem BRs9 (t : TrT) (f : Int) : PCall Tryz.prog 63 [trV t, .d (i64 f)] (.tup [trV (tickT t f).1, .d (bo (tickT t f).2)]) := by
 refine PCall.ofFn (n := 100) (u := false) mixed BHl9 BHp9 Tryz.func63 (by rfl) (by rfl) fun Ev bb => ?_
 rw [BLb9]
 refine ⟨t, rfl, BIf.of (fun g => ?_) fun g1 => ⟨_, rfl, BIf.of (fun g => ?_) fun g2 => BIf.of (fun g => ?_) fun g3 => ?_⟩⟩
 · rw [tickT, nbt g]; rfl
 · rw [tickT, nbt g, Bool.and_false]; rfl
 · have g := of_decide_eq_true g
   rw [tickT, decide_eq_false (p := t.bg ≤ f) (by omega), Bool.and_false]; rfl
 have g3 := of_decide_eq_false g3
 obtain ⟨e1, e2, e3⟩ := BDn9 (nbf g1) (nbf g2)
 have e : tickT t f = (AHp9 t f, f == (AHp9 t f).fi && decide ((AHp9 t f).ct < 2)) := by rw [tickT, nbf g1, nbf g2, decide_eq_true (p := t.bg ≤ f) (by omega)]; rfl
 rw [e, e1, e2]
 refine BIf.of (fun g => ?_) fun g => ?_
 · have el : AHp9 t f = AFo9 t.sd (min 8 (2 * t.iv)) f := by rw [AHp9, if_pos (by simpa using g)]
   rw [el]
   refine ⟨_, rfl, t, _, _, rfl, rfl, ⟨e3, nbf g2, BIf9 (nbf g1)⟩, BIf.of (fun h => ?_) fun h => ?_⟩
   · rw [h]; rfl
   · rw [h]; rfl
 · have el : AHp9 t f = t := by rw [AHp9, if_neg (by simpa using g)]
   rw [el]
   refine BIf.of (fun h => ?_) fun h => ?_
   · rw [h]; rfl
   · rw [h]; rfl
def cTTick (args : List AV) (K : AV → Prop) : Prop := ∃ (t : TrT) (f : Int) (z : TrT) (e : Bool), args = [trV t, .d (i64 f)] ∧ (z, e) = tickT t f ∧ K (.tup [trV z, .d (bo e)])
theorem BGu9 : ∀ args K, cTTick args K → ∃ x, PCall Tryz.prog 63 args x ∧ K x := by
 rintro _ K ⟨t, f, z, e, rfl, he, h⟩
 have := BRs9 t f
 rw [← he] at this
 exact ⟨_, this, h⟩
section
variable {β : Type} (wl : WLT β) (y : AAg9 β) (b : β) (R : AV → β → Prop) (RS : AV → List Blk → β → Prop) (K : Exit → List AV → List Blk → β → Prop)
end
section
variable {β : Type} (wl : WLT β) (y : AAg9 β) (b : β) (R : AV → β → Prop) (RS : AV → List Blk → β → Prop) (K : Exit → List AV → List Blk → β → Prop)
end
section
variable {β : Type} (wl : WLT β) (y : AAg9 β) (b : β) (R : AV → β → Prop) (RS : AV → List Blk → β → Prop) (K : Exit → List AV → List Blk → β → Prop)
end
structure StT where
 no : NotT
 ps : List (List Int)
 qs : List (List Int)
 rows : List Row
 pf : List Int
 tr : TrT
def StT.sp (s : StT) : SprT := ⟨s.no, s.ps, s.qs, rowsR s.rows, s.pf, s.tr.iv, s.tr.bg, s.tr.fi, s.tr.ct, s.tr.sd⟩
def stD (s : StT) : List Dv := [i64 s.no.v, i64 s.no.n, u64 s.no.r, i64 s.no.t, .sl 1 (AAe9 s.ps), .sl 1 (AAf9 s.qs), .sl 2 (rowsR s.rows), .sl 1 (digR s.pf), i64 s.tr.iv, i64 s.tr.bg, i64 s.tr.fi, i64 s.tr.ct, i64 s.tr.sd]
def stL (s : StT) : List AV := [.d (i64 s.no.v), .d (i64 s.no.n), .d (u64 s.no.r), .d (i64 s.no.t), .d (.sl 1 (AAe9 s.ps)), .d (.sl 1 (AAf9 s.qs)), .d (.sl 2 (rowsR s.rows)), .d (.sl 1 (digR s.pf)), .d (i64 s.tr.iv), .d (i64 s.tr.bg), .d (i64 s.tr.fi), .d (i64 s.tr.ct), .d (i64 s.tr.sd)]
def stV (s : StT) : AV := .agg (stL s)
section
variable {β : Type} (wl : WLT β) (y : AAg9 β) (b : β) (R : AV → β → Prop) (RS : AV → List Blk → β → Prop) (K : Exit → List AV → List Blk → β → Prop)
theorem BRi9 (a n r t : Int) : wpFn Tryz.prog ⟨[], [], wl, y, false⟩ 100 Tryz.f70 [notA a n r t] b R = ( BIf (decide (a ≥ (1 : Int))) (BIf (decide (a ≤ (1000000000 : Int))) (BIf (decide (n ≥ (1 : Int))) (BIf (decide (n ≤ (4096 : Int))) (BIf (decide (t ≥ (0 : Int))) (R (.d (bo (decide (t ≤ (1000000000 : Int))))) b) (R (.d (bo false)) b)) (R (.d (bo false)) b)) (R (.d (bo false)) b)) (R (.d (bo false)) b)) (R (.d (bo false)) b)) := by kernel_rfl
theorem BEb9 (a n r t : Int) : wpFn Tryz.prog ⟨[], [], wl, y, false⟩ 100 Tryz.f71 [notA a n r t] b R = ( R (AV.d (i64 (IntKind.wrap IntKind.i64 (Int.tdiv (IntKind.wrap IntKind.i64 (IntKind.wrap IntKind.i64 (n + (256 : Int)) - (1 : Int))) (256 : Int))))) b) := by kernel_rfl
theorem BEa9 (s : StT) : wpFn Tryz.prog ⟨[], [], wl, y, false⟩ 100 Tryz.f62 [.rptr (stD s)] b R = ( BIf (NotT.v (StT.no s) == (0 : Int) && (NotT.n (StT.no s) == (0 : Int) && (NotT.r (StT.no s) == (0 : Int) && (NotT.t (StT.no s) == (0 : Int) && true)))) (BIf (IntKind.wrap .i64 (IntKind.wrap .i64 (IntKind.wrap .i64 (((List.length (AAe9 (StT.ps s)) : Nat) : Int) + ((List.length (AAf9 (StT.qs s)) : Nat) : Int)) + ((List.length (rowsR (StT.rows s)) : Nat) : Int)) + ((List.length (digR (StT.pf s)) : Nat) : Int)) == (0 : Int)) (BIf (TrT.iv (StT.tr s) == (0 : Int) && (TrT.bg (StT.tr s) == (0 : Int) && (TrT.fi (StT.tr s) == (0 : Int) && (TrT.ct (StT.tr s) == (0 : Int) && (TrT.sd (StT.tr s) == TrT.sd (StT.tr s) && true))))) (BIf (decide (TrT.sd (StT.tr s) ≥ (0 : Int))) (R (.d (bo (decide (TrT.sd (StT.tr s) ≤ (1000000000 : Int))))) b) (R (.d (bo false)) b)) (R (.d (bo false)) b)) (R (.d (bo false)) b)) (R (.d (bo false)) b)) := by kernel_rfl
end
def ABb9 (s : StT) : Prop := (s.ps.length ≤ 1000 ∧ ∀ p ∈ s.ps, p.length ≤ 1000000) ∧ (s.qs.length ≤ 1000 ∧ ∀ q ∈ s.qs, q.length ≤ 1000000) ∧ ATl9 s.rows ∧ s.pf.length ≤ 1000000
def zeroN (n : NotT) : Bool := n.v == 0 && (n.n == 0 && (n.r == 0 && n.t == 0))
def AGn9 (s : StT) : Bool := zeroN s.no && (s.ps.isEmpty && s.qs.isEmpty && s.rows.isEmpty && s.pf.isEmpty) && (s.tr.iv == 0 && (s.tr.bg == 0 && (s.tr.fi == 0 && s.tr.ct == 0))) && AEq9 s.tr.sd
def fullP (s : StT) : Bool := (s.ps.length : Int) == ABi9 s.no.n
def AKb9 (s : StT) : Bool := ABw9 s.sp
def ACt9 (s : StT) : Bool := AGn9 s || (AKb9 s && (ADy9 s.rows && (decide ((s.rows.length : Int) < 16) && ((s.rows.isEmpty || !fullP s) && ((!s.rows.isEmpty || s.pf.isEmpty) && ABe9 s.tr)))))
theorem pcSAnn (a n r t : Int) : PCall Tryz.prog 70 [notA a n r t] (.d (bo (AAm9 a n t))) := by
 refine PCall.ofFn (n := 100) (u := false) mixed AAa9.nil AAb9.nil Tryz.func70 (by rfl) (by rfl) fun Ev bb => ?_
 rw [BRi9]
 have e : AAm9 a n t = (decide (a ≥ 1) && (decide (a ≤ 1000000000) && ((decide (n ≥ 1) && decide (n ≤ 4096)) && (decide (t ≥ 0) && decide (t ≤ 1000000000))))) := rfl
 rw [e]
 refine BIf.of (fun h1 => BIf.of (fun h2 => BIf.of (fun h3 => BIf.of (fun h4 => BIf.of (fun h5 => ?_) fun h5 => ?_) fun h4 => ?_) fun h3 => ?_) fun h2 => ?_) fun h1 => ?_
 · rw [h1, h2, h3, h4, h5]; rfl
 · rw [h5]; simp
 · rw [h4]; simp
 · rw [h3]; simp
 · rw [h2]; simp
 · rw [h1]; rfl
theorem AZy9 (a n r t : Int) : PCall Tryz.prog 71 [notA a n r t] (.d (i64 (ABi9 n))) := by
 refine PCall.ofFn (n := 100) (u := false) mixed AAa9.nil AAb9.nil Tryz.func71 (by rfl) (by rfl) fun Ev bb => ?_
 rw [BEb9]; rfl
def BJk9 (args : List AV) (K : AV → Prop) : Prop := ∃ (a n r t z : Int), args = [notA a n r t] ∧ z = ABi9 n ∧ K (.d (i64 z))
theorem BCc9 : ∀ args K, BJk9 args K → ∃ x, PCall Tryz.prog 71 args x ∧ K x := by
 rintro _ K ⟨a, n, r, t, _, rfl, rfl, h⟩; exact ⟨_, AZy9 a n r t, h⟩
theorem AGe9 {α : Type} (l : List α) : l.isEmpty = decide (l.length = 0) := by cases l <;> simp
theorem sum4 {a b c d : Nat} (h : a ≤ 1000000 ∧ b ≤ 1000000 ∧ c ≤ 1000000 ∧ d ≤ 1000000) : (IntKind.wrap IntKind.i64 (IntKind.wrap IntKind.i64 (IntKind.wrap IntKind.i64 ((a : Int) + (b : Int)) + (c : Int)) + (d : Int)) == 0) = (decide (a = 0) && decide (b = 0) && decide (c = 0) && decide (d = 0)) := by
 rw [wr64 (x := (a : Int) + (b : Int)) (by omega) (by omega), wr64 (x := (a : Int) + (b : Int) + (c : Int)) (by omega) (by omega), wr64 (by omega) (by omega)]
 rw [Bool.eq_iff_iff]
 simp only [beq_iff_eq, Bool.and_eq_true, decide_eq_true_eq]
 omega
theorem BMl9 (s : StT) (hs : ABb9 s) : PCall Tryz.prog 62 [.rptr (stD s)] (.d (bo (AGn9 s))) := by
 refine PCall.ofFn (n := 100) (u := false) mixed AAa9.nil AAb9.nil Tryz.func62 (by rfl) (by rfl) fun Ev bb => ?_
 rw [BEa9, AAh9, AAy9, ABs9, AAw9, sum4 ⟨by have := hs.1.1; omega, by have := hs.2.1.1; omega, by have := hs.2.2.1.1; omega, hs.2.2.2⟩]
 rw [← AGe9, ← AGe9, ← AGe9, ← AGe9]
 have e : AEq9 s.tr.sd = (decide (s.tr.sd ≥ 0) && decide (s.tr.sd ≤ 1000000000)) := rfl
 have e1 : ∀ x : Int, (x == x) = true := fun x => by simp
 rw [AGn9, zeroN, e]
 simp only [Bool.and_true, e1]
 refine BIf.of (fun h1 => BIf.of (fun h2 => BIf.of (fun h3 => BIf.of (fun h4 => ?_) fun h4 => ?_) fun h3 => ?_) fun h2 => ?_) fun h1 => ?_
 · rw [h1, h2, h3, h4]; rfl
 · rw [h4, Bool.false_and, Bool.and_false]
 · rw [h3, Bool.and_false]; rfl
 · rw [h2, Bool.and_false]; rfl
 · rw [h1]; rfl
def AUz9 (args : List AV) (K : AV → Prop) : Prop := ∃ (s : StT) (z : Bool), args = [.rptr (stD s)] ∧ (ABb9 s ∧ z = AGn9 s) ∧ K (.d (bo z))
theorem ALe9 : ∀ args K, AUz9 args K → ∃ x, PCall Tryz.prog 62 args x ∧ K x := by
 rintro _ K ⟨s, _, rfl, ⟨hs, rfl⟩, h⟩; exact ⟨_, BMl9 s hs, h⟩
def TWl : List (Nat × (List AV → (AV → Prop) → Prop)) := [(71, BJk9), (74, BOg9), (53, lessC cPut)]
theorem BPh9 : AAa9 Tryz.prog TWl := AAa9.cons BCc9 (AAa9.cons AUv9 (AAa9.cons (AOc9 cPut_ok) AAa9.nil))
def GB5 : List (Nat × (List AV → List Blk → (AV → List Blk → Prop) → Prop)) := [(1000005, fun _ _ _ => False)]
theorem BPn9 : AAb9 Tryz.prog GB5 := AAb9.cons (fun _ _ _ h => h.elim) AAb9.nil
section
variable {β : Type} (wl : WLT β) (y : AAg9 β) (b : β) (R : AV → β → Prop) (RS : AV → List Blk → β → Prop) (K : Exit → List AV → List Blk → β → Prop)
theorem BDp9 (s : StT) : wpFn Tryz.prog ⟨TWl, [], wl, y, false⟩ 100 Tryz.f121 [.rptr (stD s)] b R = ( ∃ (a0 : Int) (n1 : Int) (r2 : Int) (t3 : Int) (z4 : Int), [AV.agg (noL (StT.no s))] = [AV.agg [AV.d (i64 a0), AV.d (i64 n1), AV.d (u64 r2), AV.d (i64 t3)]] ∧ z4 = ABi9 n1 ∧ R (.d (bo (((List.length (AAe9 (StT.ps s)) : Nat) : Int) == z4))) b) := by kernel_rfl
theorem BDr9 (s : StT) : wpFn Tryz.prog ⟨TWl, [], wl, y, false⟩ 100 Tryz.f133 [.rptr (stD s)] b R = ( BIf (decide (TrT.ct (StT.tr s) ≥ (0 : Int))) (BIf (decide (TrT.ct (StT.tr s) ≤ (100 : Int))) (∃ (t0 : TrT) (z1 : TrT), [AV.agg [AV.d (i64 (TrT.iv (StT.tr s))), AV.d (i64 (TrT.bg (StT.tr s))), AV.d (i64 (TrT.fi (StT.tr s))), AV.d (i64 0), AV.d (i64 (TrT.sd (StT.tr s)))]] = [AV.agg (trL t0)] ∧ z1 = hearT t0 ∧ R (.d (bo !(TrT.iv z1 == TrT.iv (StT.tr s) && (TrT.bg z1 == TrT.bg (StT.tr s) && (TrT.fi z1 == TrT.fi (StT.tr s) && (TrT.ct z1 == (0 : Int) && (TrT.sd z1 == TrT.sd (StT.tr s) && true))))))) b) (R (.d (bo false)) b)) (R (.d (bo false)) b)) := by kernel_rfl
theorem BDs9 (s : StT) : wpFn Tryz.prog ⟨TWl, GB5, wl, y, false⟩ 100 Tryz.f132 [.rptr (stD s)] b R = ( ∃ (args0 : List AV), LeVs [AV.agg (stL s), AV.full 1 (AAd9 (List.replicate 256 0)), AV.d (Dv.s (.slice none 0 0))] args0 ∧ ∃ (s1 : SprT) (p2 : List Int) (q3 : List Int) (z4 : SprT) (e5 : Int), args0 = [AV.agg (spL s1), AV.d (Dv.sl 1 (AAd9 p2)), AV.d (Dv.sl 1 (digR q3))] ∧ ((List.length (SprT.ps s1) ≤ 9223372036854775807 ∧ List.length q3 ≤ 1000000 ∧ ∀ (x : List Int), x ∈ SprT.qs s1 → List.length x ≤ 1000000) ∧ (z4, e5) = putS s1 p2 q3) ∧ R (.d (bo (e5 != (1 : Int)))) b) := by kernel_rfl
end
theorem BMg9 (s : StT) : PCall Tryz.prog 121 [.rptr (stD s)] (.d (bo (fullP s))) := by
 refine PCall.ofFn (n := 100) (u := false) mixed BPh9 AAb9.nil Tryz.func121 (by rfl) (by rfl) fun Ev bb => ?_
 rw [BDp9, AAh9]
 exact ⟨_, _, _, _, _, rfl, rfl, rfl⟩
def BBy9 (args : List AV) (K : AV → Prop) : Prop := ∃ (s : StT) (z : Bool), args = [.rptr (stD s)] ∧ z = fullP s ∧ K (.d (bo z))
theorem AQy9 : ∀ args K, BBy9 args K → ∃ x, PCall Tryz.prog 121 args x ∧ K x := by
 rintro _ K ⟨s, _, rfl, rfl, h⟩; exact ⟨_, BMg9 s, h⟩
theorem BMi9 (s : StT) : PCall Tryz.prog 133 [.rptr (stD s)] (.d (bo (ABe9 s.tr))) := by
 refine PCall.ofFn (n := 100) (u := false) mixed BPh9 AAb9.nil Tryz.func133 (by rfl) (by rfl) fun Ev bb => ?_
 rw [BDr9]
 refine BIf.of (fun g1 => BIf.of (fun g2 => ⟨⟨s.tr.iv, s.tr.bg, s.tr.fi, 0, s.tr.sd⟩, _, rfl, rfl, ?_⟩) fun g2 => ?_) fun g1 => ?_
 · have g1 := of_decide_eq_true g1
   have g2 := of_decide_eq_true g2
   have e : ABe9 s.tr = ABe9 ⟨s.tr.iv, s.tr.bg, s.tr.fi, 0, s.tr.sd⟩ := by rw [Bool.eq_iff_iff, ACs9, ACs9]; simp only; omega
   rw [e]
   cases hv : ABe9 ⟨s.tr.iv, s.tr.bg, s.tr.fi, 0, s.tr.sd⟩
   · simp [hearT, hv]
   · have e1 : ∀ x : Int, (x == x) = true := fun x => by simp
     simp only [hearT, hv, if_true, e1, Bool.true_and]; rfl
 · have g2 := of_decide_eq_false g2
   rw [show ABe9 s.tr = false from Bool.eq_false_iff.2 fun h => by have := ACs9.1 h; omega]
 · have g1 := of_decide_eq_false g1
   rw [show ABe9 s.tr = false from Bool.eq_false_iff.2 fun h => by have := ACs9.1 h; omega]
def BJh9 (args : List AV) (K : AV → Prop) : Prop := ∃ (s : StT) (z : Bool), args = [.rptr (stD s)] ∧ z = ABe9 s.tr ∧ K (.d (bo z))
theorem BBz9 : ∀ args K, BJh9 args K → ∃ x, PCall Tryz.prog 133 args x ∧ K x := by
 rintro _ K ⟨s, _, rfl, rfl, h⟩; exact ⟨_, BMi9 s, h⟩
theorem BRo9 {s : SprT} {p q : List Int} (hp : p.length = 256) : ((putS s p q).2 != 1) = ABw9 s := by
 unfold putS
 cases h : ABw9 s
 · rw [if_pos (.inl rfl)]; rfl
 · rw [if_neg (by simp [hp])]
   split
   · rfl
   · split <;> rfl
theorem BMj9 (s : StT) (hs : ABb9 s) : PCall Tryz.prog 132 [.rptr (stD s)] (.d (bo (AKb9 s))) := by
 refine PCall.ofFn (n := 100) (u := false) mixed BPh9 BPn9 Tryz.func132 (by rfl) (by rfl) fun Ev bb => ?_
 rw [BDs9]
 refine ⟨_, .cons .rfl (.cons .full (.cons (.nil rfl) .nil)), s.sp, List.replicate 256 0, [], (putS s.sp (List.replicate 256 0) []).1, (putS s.sp (List.replicate 256 0) []).2, rfl, ⟨⟨by have := hs.1.1; show s.ps.length ≤ _; omega, by simp, hs.2.1.2⟩, rfl⟩, ?_⟩
 show AV.d (bo ((putS s.sp (List.replicate 256 0) []).2 != 1)) = _
 rw [BRo9 (List.length_replicate ..)]; rfl
def BJi9 (args : List AV) (K : AV → Prop) : Prop := ∃ (s : StT) (z : Bool), args = [.rptr (stD s)] ∧ (ABb9 s ∧ z = AKb9 s) ∧ K (.d (bo z))
theorem BCa9 : ∀ args K, BJi9 args K → ∃ x, PCall Tryz.prog 132 args x ∧ K x := by
 rintro _ K ⟨s, _, rfl, ⟨hs, rfl⟩, h⟩; exact ⟨_, BMj9 s hs, h⟩
def TVd : List (Nat × (List AV → (AV → Prop) → Prop)) := [(62, AUz9), (132, BJi9), (91, c20), (121, BBy9), (133, BJh9)]
theorem TVd_ok : AAa9 Tryz.prog TVd := AAa9.cons ALe9 (AAa9.cons BCa9 (AAa9.cons c20_ok (AAa9.cons AQy9 (AAa9.cons BBz9 AAa9.nil))))
section
variable {β : Type} (wl : WLT β) (y : AAg9 β) (b : β) (R : AV → β → Prop) (RS : AV → List Blk → β → Prop) (K : Exit → List AV → List Blk → β → Prop)
theorem BDq9 (s : StT) : wpFn Tryz.prog ⟨TVd, [], wl, y, false⟩ 100 Tryz.f61 [.rptr (stD s)] b R = ( ∃ (s0 : StT) (z1 : Bool), [AV.rptr (stD s)] = [AV.rptr (stD s0)] ∧ ((ABb9 s0) ∧ z1 = AGn9 s0) ∧ BIf z1 (R (.d (bo true)) b) (∃ (s2 : StT) (z3 : Bool), [AV.rptr (stD s)] = [AV.rptr (stD s2)] ∧ ((ABb9 s2) ∧ z3 = AKb9 s2) ∧ BIf z3 (∃ (l4 : List Row), [AV.d (Dv.sl 2 (rowsR (StT.rows s)))] = [AV.d (Dv.sl 2 (rowsR l4))] ∧ List.length l4 ≤ 9223372036854775807 ∧ BIf (ADy9 l4) (BIf (decide (((List.length (rowsR (StT.rows s)) : Nat) : Int) < (16 : Int))) (BIf (((List.length (rowsR (StT.rows s)) : Nat) : Int) == (0 : Int)) (BIf (decide (((List.length (rowsR (StT.rows s)) : Nat) : Int) > (0 : Int))) (∃ (s5 : StT) (z6 : Bool), [AV.rptr (stD s)] = [AV.rptr (stD s5)] ∧ z6 = ABe9 (StT.tr s5) ∧ R (.d (bo z6)) b) (BIf (((List.length (digR (StT.pf s)) : Nat) : Int) == (0 : Int)) (∃ (s7 : StT) (z8 : Bool), [AV.rptr (stD s)] = [AV.rptr (stD s7)] ∧ z8 = ABe9 (StT.tr s7) ∧ R (.d (bo z8)) b) (R (.d (bo false)) b))) (∃ (s9 : StT) (z10 : Bool), [AV.rptr (stD s)] = [AV.rptr (stD s9)] ∧ z10 = fullP s9 ∧ BIf (!z10) (BIf (decide (((List.length (rowsR (StT.rows s)) : Nat) : Int) > (0 : Int))) (∃ (s11 : StT) (z12 : Bool), [AV.rptr (stD s)] = [AV.rptr (stD s11)] ∧ z12 = ABe9 (StT.tr s11) ∧ R (.d (bo z12)) b) (BIf (((List.length (digR (StT.pf s)) : Nat) : Int) == (0 : Int)) (∃ (s13 : StT) (z14 : Bool), [AV.rptr (stD s)] = [AV.rptr (stD s13)] ∧ z14 = ABe9 (StT.tr s13) ∧ R (.d (bo z14)) b) (R (.d (bo false)) b))) (R (.d (bo false)) b))) (R (.d (bo false)) b)) (R (.d (bo false)) b)) (R (.d (bo false)) b))) := by kernel_rfl
end
theorem BIt9 {α : Type} (l : List α) : ((l.length : Int) == 0) = l.isEmpty := by cases l <;> simp <;> omega
theorem BIs9 {α : Type} (l : List α) : decide ((l.length : Int) > 0) = !l.isEmpty := by cases l <;> simp <;> omega
theorem BMh9 (s : StT) (hs : ABb9 s) : PCall Tryz.prog 61 [.rptr (stD s)] (.d (bo (ACt9 s))) := by
 refine PCall.ofFn (n := 100) (u := false) mixed TVd_ok AAb9.nil Tryz.func61 (by rfl) (by rfl) fun Ev bb => ?_
 rw [BDq9, ABs9, AAw9, BIt9, BIt9, BIs9]
 refine ⟨s, _, rfl, ⟨hs, rfl⟩, BIf.of (fun h => by rw [ACt9, h]; rfl) fun h1 => ⟨s, _, rfl, ⟨hs, rfl⟩, BIf.of (fun h2 => ⟨_, rfl, by have := hs.2.2.1.1; omega, BIf.of (fun h3 => BIf.of (fun h4 => BIf.of (fun h5 => BIf.of (fun h6 => ?_) fun h6 => BIf.of (fun h7 => ?_) fun h7 => ?_) fun h5 => ⟨s, _, rfl, rfl, BIf.of (fun h8 => BIf.of (fun h6 => ?_) fun h6 => BIf.of (fun h7 => ?_) fun h7 => ?_) fun h8 => ?_⟩) fun h4 => ?_) fun h3 => ?_⟩) fun h2 => ?_⟩⟩
 · rw [h5] at h6; cases h6
 · exact ⟨s, _, rfl, rfl, by rw [ACt9, h1, h2, h3, h4, h5, h7]; rfl⟩
 · rw [ACt9, h1, h2, h3, h4, h5, h7]; rfl
 · exact ⟨s, _, rfl, rfl, by rw [ACt9, h1, h2, h3, h4, h5, nbt h8]; rfl⟩
 · rw [h5] at h6; cases h6
 · rw [h5] at h6; cases h6
 · rw [ACt9, h1, h2, h3, h4, h5, nbf h8]; rfl
 · rw [ACt9, h1, h2, h3, h4]; rfl
 · rw [ACt9, h1, h2, h3]; rfl
 · rw [ACt9, h1, h2]; rfl
def AUx9 (args : List AV) (K : AV → Prop) : Prop := ∃ (s : StT) (z : Bool), args = [.rptr (stD s)] ∧ (ABb9 s ∧ z = ACt9 s) ∧ K (.d (bo z))
theorem ALc9 : ∀ args K, AUx9 args K → ∃ x, PCall Tryz.prog 61 args x ∧ K x := by
 rintro _ K ⟨s, _, rfl, ⟨hs, rfl⟩, h⟩; exact ⟨_, BMh9 s hs, h⟩
def TCo : List (Nat × (List AV → (AV → Prop) → Prop)) := [(51, ALg9), (120, BCp9)]
theorem BHo9 : AAa9 Tryz.prog TCo := AAa9.cons AGk9 (AAa9.cons ARb9 AAa9.nil)
noncomputable def lpCo1 : Code := sub [1, 1, 0, 1, 2, 3] (code Tryz.f47)
noncomputable def lpCo2 : Code := sub [1, 1, 1, 0, 1, 2, 3] (code Tryz.f47)
noncomputable def lpCo3 : Code := sub [1, 1, 1, 1, 0, 1, 2, 3] (code Tryz.f47)
def stB (s : StT) : Blk := ⟨stL s, false, false, 0⟩
def outC (s : StT) (a c d : AV) : Blk := ⟨noL s.no ++ [a, c, d, .d (.sl 1 (digR s.pf))] ++ trL s.tr, false, false, 0⟩
def tmCo (g k : Nat) (xs : List (List Dv)) (n i : Int) : List AV := [.bad, .ptr 0 0, .bad, .ptr 1 0] ++ List.replicate (g - 4) .bad ++ [.d (.sl k xs), .d (i64 n), .d (i64 i)] ++ List.replicate (67 - g) .bad
section
variable {β : Type} (wl : WLT β) (y : AAg9 β) (b : β) (R : AV → β → Prop) (RS : AV → List Blk → β → Prop) (K : Exit → List AV → List Blk → β → Prop)
theorem rCo1 (s : StT) (n i : Int) (xs : List (List Dv)) (c5 c6 : AV) : wpc Tryz.prog ⟨TCo, [], wl, y, false⟩ 100 lpCo1 (tmCo 19 1 (AAe9 s.ps) n i) [stB s, outC s (.own 33 1 xs) c5 c6] b (maskT [1, 3, 19, 20, 21] K) = ( BIf (decide (i < n)) (BIf (true && decide ((0 : Int) ≤ i)) (∃ (xs0 : List (List Dv)), (AAe9 (StT.ps s))[Int.toNat i]? = some [Dv.sl 1 xs0] ∧ ∃ (xs3 : List (List Dv)), [AV.d (Dv.sl 1 xs0)] = [AV.d (Dv.sl 1 xs3)] ∧ List.length xs3 ≤ 1000000 ∧ BIf (true && decide ((List.length xs + 1) * 24 ≤ 140737488355328)) (K .normal [bad, AV.ptr 0 0, bad, AV.ptr 1 0, bad, bad, bad, bad, bad, bad, bad, bad, bad, bad, bad, bad, bad, bad, bad, AV.d (Dv.sl 1 (AAe9 (StT.ps s))), AV.d (i64 n), AV.d (i64 (IntKind.wrap .i64 (i + (1 : Int)))), bad, bad, bad, bad, bad, bad, bad, bad, bad, bad, bad, bad, bad, bad, bad, bad, bad, bad, bad, bad, bad, bad, bad, bad, bad, bad, bad, bad, bad, bad, bad, bad, bad, bad, bad, bad, bad, bad, bad, bad, bad, bad, bad, bad, bad, bad, bad, bad] [stB s, Blk.mk [AV.d (i64 (NotT.v (StT.no s))), AV.d (i64 (NotT.n (StT.no s))), AV.d (u64 (NotT.r (StT.no s))), AV.d (i64 (NotT.t (StT.no s))), AV.own 33 1 (xs ++ [[Dv.sl 1 xs3]]), c5, c6, AV.d (Dv.sl 1 (digR (StT.pf s))), AV.d (i64 (TrT.iv (StT.tr s))), AV.d (i64 (TrT.bg (StT.tr s))), AV.d (i64 (TrT.fi (StT.tr s))), AV.d (i64 (TrT.ct (StT.tr s))), AV.d (i64 (TrT.sd (StT.tr s)))] false false 0] b) False) False) (K (Exit.exit 0) [bad, AV.ptr 0 0, bad, AV.ptr 1 0, bad, bad, bad, bad, bad, bad, bad, bad, bad, bad, bad, bad, bad, bad, bad, AV.d (Dv.sl 1 (AAe9 (StT.ps s))), AV.d (i64 n), AV.d (i64 i), bad, bad, bad, bad, bad, bad, bad, bad, bad, bad, bad, bad, bad, bad, bad, bad, bad, bad, bad, bad, bad, bad, bad, bad, bad, bad, bad, bad, bad, bad, bad, bad, bad, bad, bad, bad, bad, bad, bad, bad, bad, bad, bad, bad, bad, bad, bad, bad] [stB s, Blk.mk [AV.d (i64 (NotT.v (StT.no s))), AV.d (i64 (NotT.n (StT.no s))), AV.d (u64 (NotT.r (StT.no s))), AV.d (i64 (NotT.t (StT.no s))), AV.own 33 1 xs, c5, c6, AV.d (Dv.sl 1 (digR (StT.pf s))), AV.d (i64 (TrT.iv (StT.tr s))), AV.d (i64 (TrT.bg (StT.tr s))), AV.d (i64 (TrT.fi (StT.tr s))), AV.d (i64 (TrT.ct (StT.tr s))), AV.d (i64 (TrT.sd (StT.tr s)))] false false 0] b)) := by kernel_rfl
theorem rCo2 (s : StT) (n i : Int) (xs : List (List Dv)) (c5 c6 : AV) : wpc Tryz.prog ⟨TCo, [], wl, y, false⟩ 100 lpCo2 (tmCo 34 1 (AAf9 s.qs) n i) [stB s, outC s c5 (.own 28 1 xs) c6] b (maskT [1, 3, 34, 35, 36] K) = ( BIf (decide (i < n)) (BIf (true && decide ((0 : Int) ≤ i)) (∃ (xs0 : List (List Dv)), (AAf9 (StT.qs s))[Int.toNat i]? = some [Dv.sl 1 xs0] ∧ ∃ (xs3 : List (List Dv)), [AV.d (Dv.sl 1 xs0)] = [AV.d (Dv.sl 1 xs3)] ∧ List.length xs3 ≤ 1000000 ∧ BIf (true && decide ((List.length xs + 1) * 24 ≤ 140737488355328)) (K .normal [bad, AV.ptr 0 0, bad, AV.ptr 1 0, bad, bad, bad, bad, bad, bad, bad, bad, bad, bad, bad, bad, bad, bad, bad, bad, bad, bad, bad, bad, bad, bad, bad, bad, bad, bad, bad, bad, bad, bad, AV.d (Dv.sl 1 (AAf9 (StT.qs s))), AV.d (i64 n), AV.d (i64 (IntKind.wrap .i64 (i + (1 : Int)))), bad, bad, bad, bad, bad, bad, bad, bad, bad, bad, bad, bad, bad, bad, bad, bad, bad, bad, bad, bad, bad, bad, bad, bad, bad, bad, bad, bad, bad, bad, bad, bad, bad] [stB s, Blk.mk [AV.d (i64 (NotT.v (StT.no s))), AV.d (i64 (NotT.n (StT.no s))), AV.d (u64 (NotT.r (StT.no s))), AV.d (i64 (NotT.t (StT.no s))), c5, AV.own 28 1 (xs ++ [[Dv.sl 1 xs3]]), c6, AV.d (Dv.sl 1 (digR (StT.pf s))), AV.d (i64 (TrT.iv (StT.tr s))), AV.d (i64 (TrT.bg (StT.tr s))), AV.d (i64 (TrT.fi (StT.tr s))), AV.d (i64 (TrT.ct (StT.tr s))), AV.d (i64 (TrT.sd (StT.tr s)))] false false 0] b) False) False) (K (Exit.exit 2) [bad, AV.ptr 0 0, bad, AV.ptr 1 0, bad, bad, bad, bad, bad, bad, bad, bad, bad, bad, bad, bad, bad, bad, bad, bad, bad, bad, bad, bad, bad, bad, bad, bad, bad, bad, bad, bad, bad, bad, AV.d (Dv.sl 1 (AAf9 (StT.qs s))), AV.d (i64 n), AV.d (i64 i), bad, bad, bad, bad, bad, bad, bad, bad, bad, bad, bad, bad, bad, bad, bad, bad, bad, bad, bad, bad, bad, bad, bad, bad, bad, bad, bad, bad, bad, bad, bad, bad, bad] [stB s, Blk.mk [AV.d (i64 (NotT.v (StT.no s))), AV.d (i64 (NotT.n (StT.no s))), AV.d (u64 (NotT.r (StT.no s))), AV.d (i64 (NotT.t (StT.no s))), c5, AV.own 28 1 xs, c6, AV.d (Dv.sl 1 (digR (StT.pf s))), AV.d (i64 (TrT.iv (StT.tr s))), AV.d (i64 (TrT.bg (StT.tr s))), AV.d (i64 (TrT.fi (StT.tr s))), AV.d (i64 (TrT.ct (StT.tr s))), AV.d (i64 (TrT.sd (StT.tr s)))] false false 0] b)) := by kernel_rfl
theorem rCo3 (s : StT) (n i : Int) (xs A B : List (List Dv)) : wpc Tryz.prog ⟨TCo, [], wl, y, false⟩ 100 lpCo3 (tmCo 49 2 (rowsR s.rows) n i) [stB s, outC s (.own 33 1 A) (.own 28 1 B) (.own 71 2 xs)] b (maskK 2 [1, 3, 49, 50, 51] K) = ( BIf (decide (i < n)) (BIf (true && decide ((0 : Int) ≤ i)) (∃ (x0 : Int) (xs1 : List (List Dv)), (rowsR (StT.rows s))[Int.toNat i]? = some [i64 x0, Dv.sl 1 xs1] ∧ ∃ (xs4 : List (List Dv)), [AV.d (Dv.sl 1 xs1)] = [AV.d (Dv.sl 1 xs4)] ∧ List.length xs4 ≤ 1000000 ∧ BIf (true && decide ((List.length xs + 1) * 32 ≤ 140737488355328)) (K .normal [bad, AV.ptr 0 0, bad, AV.ptr 1 0, bad, bad, bad, bad, bad, bad, bad, bad, bad, bad, bad, bad, bad, bad, bad, bad, bad, bad, bad, bad, bad, bad, bad, bad, bad, bad, bad, bad, bad, bad, bad, bad, bad, bad, bad, bad, bad, bad, bad, bad, bad, bad, bad, bad, bad, AV.d (Dv.sl 2 (rowsR (StT.rows s))), AV.d (i64 n), AV.d (i64 (IntKind.wrap .i64 (i + (1 : Int)))), bad, bad, bad, bad, bad, bad, bad, bad, bad, bad, bad, bad, bad, bad, bad, bad, bad, bad] [stB s, Blk.mk [AV.d (i64 (NotT.v (StT.no s))), AV.d (i64 (NotT.n (StT.no s))), AV.d (u64 (NotT.r (StT.no s))), AV.d (i64 (NotT.t (StT.no s))), AV.own 33 1 A, AV.own 28 1 B, AV.own 71 2 (xs ++ [[i64 x0, Dv.sl 1 xs4]]), AV.d (Dv.sl 1 (digR (StT.pf s))), AV.d (i64 (TrT.iv (StT.tr s))), AV.d (i64 (TrT.bg (StT.tr s))), AV.d (i64 (TrT.fi (StT.tr s))), AV.d (i64 (TrT.ct (StT.tr s))), AV.d (i64 (TrT.sd (StT.tr s)))] false false 0] b) False) False) (K (Exit.exit 4) [bad, AV.ptr 0 0, bad, AV.ptr 1 0, bad, bad, bad, bad, bad, bad, bad, bad, bad, bad, bad, bad, bad, bad, bad, bad, bad, bad, bad, bad, bad, bad, bad, bad, bad, bad, bad, bad, bad, bad, bad, bad, bad, bad, bad, bad, bad, bad, bad, bad, bad, bad, bad, bad, bad, AV.d (Dv.sl 2 (rowsR (StT.rows s))), AV.d (i64 n), AV.d (i64 i), bad, bad, bad, bad, bad, bad, bad, bad, bad, bad, bad, bad, bad, bad, bad, bad, bad, bad] [stB s, Blk.mk [AV.d (i64 (NotT.v (StT.no s))), AV.d (i64 (NotT.n (StT.no s))), AV.d (u64 (NotT.r (StT.no s))), AV.d (i64 (NotT.t (StT.no s))), AV.own 33 1 A, AV.own 28 1 B, AV.own 71 2 xs, AV.d (Dv.sl 1 (digR (StT.pf s))), AV.d (i64 (TrT.iv (StT.tr s))), AV.d (i64 (TrT.bg (StT.tr s))), AV.d (i64 (TrT.fi (StT.tr s))), AV.d (i64 (TrT.ct (StT.tr s))), AV.d (i64 (TrT.sd (StT.tr s)))] false false 0] b)) := by kernel_rfl
end
theorem APb9 {α : Type} {l : List (List α)} {k : Nat} (h : k < l.length) : l.take (k + 1) = l.take k ++ [nthL l k] := by
 rw [List.take_succ_eq_append_getElem h, nthL]; simp [h]
def nthW (l : List Row) (i : Nat) : Row := l.getD i (0, [])
theorem BAh9 {l : List Row} {k : Nat} (h : k < l.length) : nthW l k ∈ l := by
 rw [nthW, List.getD_eq_getElem?_getD, List.getElem?_eq_getElem h]; exact List.getElem_mem h
theorem AYj9 {l : List Row} {k : Nat} (h : k < l.length) : l.take (k + 1) = l.take k ++ [nthW l k] := by
 rw [List.take_succ_eq_append_getElem h, nthW]; simp [h]
theorem APn9 {l : List Row} {k : Nat} (h : k < l.length) : (rowsR l)[k]? = some [i64 (nthW l k).1, .sl 1 (AAd9 (nthW l k).2)] := by simp [rowsR, rowD, nthW, h]
theorem BEg9 (l : List Row) (x : Row) : rowsR l ++ [[i64 x.1, .sl 1 (AAd9 x.2)]] = rowsR (l ++ [x]) := by simp [rowsR, rowD]
theorem wrapN {j : Nat} (h : j < 1000000) : IntKind.wrap IntKind.i64 ((j : Int) + 1) = ((j + 1 : Nat) : Int) := by
 rw [AAs9 (by omega) (by omega)]; simp
theorem wrCo1 {Ev : Env Tryz.prog} {b : Ev.β} {Q : Exit → St Ev.β → Prop} (s : StT) (hs : ABb9 s) (c5 c6 : AV) (hQ : ∀ i : Int, Q (.exit 0) ⟨tmCo 19 1 (AAe9 s.ps) s.ps.length i, [stB s, outC s (.own 33 1 (AAe9 s.ps)) c5 c6], b⟩) :
   WR Ev lpCo1 (s.ps.length + 1) ⟨tmCo 19 1 (AAe9 s.ps) s.ps.length 0, [stB s, outC s (.own 33 1 (AAe9 [])) c5 c6], b⟩ Q := by
 have hl := hs.1.1
 refine WR.steps (X := ⟨TCo, [], wlW Ev, Ev.Y, false⟩) (k := 100) [1, 3, 19, 20, 21] mixed (CX.Ok.of BHo9 AAb9.nil) (e := .exit 0) (by simp) b (fun j => tmCo 19 1 (AAe9 s.ps) s.ps.length (j : Nat)) (fun j => [stB s, outC s (.own 33 1 (AAe9 (s.ps.take j))) c5 c6]) s.ps.length 0 (fun j _ hj K k1 => ?_) (fun K k1 => ?_) ?_
 · have hj : j < s.ps.length := by omega
   rw [rCo1]
   refine BIf.t (by simp; omega) (BIf.t (by simp) ⟨AAd9 (nthL s.ps j), by rw [Int.toNat_natCast]; exact AIj9 hj, _, rfl, by rw [AAj9]; exact hs.1.2 _ (ADg9 hj), BIf.t (by simp [AAh9]; omega) ?_⟩)
   rw [wrapN (by omega), AKi9, ← APb9 hj]
   exact k1
 · rw [rCo1]
   exact BIf.f (by simp) k1
 · have := hQ s.ps.length
   simpa using this
theorem wrCo2 {Ev : Env Tryz.prog} {b : Ev.β} {Q : Exit → St Ev.β → Prop} (s : StT) (hs : ABb9 s) (c5 c6 : AV) (hQ : ∀ i : Int, Q (.exit 2) ⟨tmCo 34 1 (AAf9 s.qs) s.qs.length i, [stB s, outC s c5 (.own 28 1 (AAf9 s.qs)) c6], b⟩) :
   WR Ev lpCo2 (s.qs.length + 1) ⟨tmCo 34 1 (AAf9 s.qs) s.qs.length 0, [stB s, outC s c5 (.own 28 1 (AAf9 [])) c6], b⟩ Q := by
 have hl := hs.2.1.1
 refine WR.steps (X := ⟨TCo, [], wlW Ev, Ev.Y, false⟩) (k := 100) [1, 3, 34, 35, 36] mixed (CX.Ok.of BHo9 AAb9.nil) (e := .exit 2) (by simp) b (fun j => tmCo 34 1 (AAf9 s.qs) s.qs.length (j : Nat)) (fun j => [stB s, outC s c5 (.own 28 1 (AAf9 (s.qs.take j))) c6]) s.qs.length 0 (fun j _ hj K k1 => ?_) (fun K k1 => ?_) ?_
 · have hj : j < s.qs.length := by omega
   rw [rCo2]
   refine BIf.t (by simp; omega) (BIf.t (by simp) ⟨digR (nthL s.qs j), by rw [Int.toNat_natCast]; exact AHj9 hj, _, rfl, by rw [AAw9]; exact hs.2.1.2 _ (ADg9 hj), BIf.t (by simp [AAy9]; omega) ?_⟩)
   rw [wrapN (by omega), AIi9, ← APb9 hj]
   exact k1
 · rw [rCo2]
   exact BIf.f (by simp) k1
 · have := hQ s.qs.length
   simpa using this
theorem wrCo3 {Ev : Env Tryz.prog} {b : Ev.β} {Q : Exit → St Ev.β → Prop} (s : StT) (hs : ABb9 s) (A B : List (List Dv)) (hQ : ∀ i : Int, Q (.exit 4) ⟨tmCo 49 2 (rowsR s.rows) s.rows.length i, [stB s, outC s (.own 33 1 A) (.own 28 1 B) (.own 71 2 (rowsR s.rows))], b⟩) :
   WR Ev lpCo3 (s.rows.length + 1) ⟨tmCo 49 2 (rowsR s.rows) s.rows.length 0, [stB s, outC s (.own 33 1 A) (.own 28 1 B) (.own 71 2 (rowsR []))], b⟩ Q := by
 have hl := hs.2.2.1.1
 refine WR.stepsM (m := 2) (X := ⟨TCo, [], wlW Ev, Ev.Y, false⟩) (k := 100) [1, 3, 49, 50, 51] mixed (CX.Ok.of BHo9 AAb9.nil) (e := .exit 4) (by simp) b (fun j => tmCo 49 2 (rowsR s.rows) s.rows.length (j : Nat)) (fun j => [stB s, outC s (.own 33 1 A) (.own 28 1 B) (.own 71 2 (rowsR (s.rows.take j)))]) (fun _ => rfl) s.rows.length 0 (fun j _ hj K k1 => ?_) (fun K k1 => ?_) ?_
 · have hj : j < s.rows.length := by omega
   rw [rCo3]
   refine BIf.t (by simp; omega) (BIf.t (by simp) ⟨(nthW s.rows j).1, AAd9 (nthW s.rows j).2, by rw [Int.toNat_natCast]; exact APn9 hj, _, rfl, by rw [AAj9]; have := hs.2.2.1.2 _ (BAh9 hj); omega, BIf.t (by simp [ABs9]; omega) ?_⟩)
   rw [wrapN (by omega), BEg9, ← AYj9 hj]
   exact k1
 · rw [rCo3]
   exact BIf.f (by simp) k1
 · have := hQ s.rows.length
   simpa using this
def wlCo {β : Type} : WLT β := fun c tm hp b K => match cidO c with
 | 4 => ∃ s, ABb9 s ∧ c = .loop lpCo1 ∧ ABc9 [1, 3, 19, 20, 21] 0 tm = tmCo 19 1 (AAe9 s.ps) (AAe9 s.ps).length 0 ∧ hp = [stB s, outC s nilV nilV nilV] ∧ ∀ i : Int, K (.exit 0) (tmCo 19 1 (AAe9 s.ps) s.ps.length i) [stB s, outC s (.own 33 1 (AAe9 s.ps)) nilV nilV] b
 | 9 => ∃ s, ABb9 s ∧ c = .loop lpCo2 ∧ ABc9 [1, 3, 34, 35, 36] 0 tm = tmCo 34 1 (AAf9 s.qs) (AAf9 s.qs).length 0 ∧ hp = [stB s, outC s (.own 33 1 (AAe9 s.ps)) nilV nilV] ∧ ∀ i : Int, K (.exit 2) (tmCo 34 1 (AAf9 s.qs) s.qs.length i) [stB s, outC s (.own 33 1 (AAe9 s.ps)) (.own 28 1 (AAf9 s.qs)) nilV] b
 | 14 => ∃ s, ABb9 s ∧ c = .loop lpCo3 ∧ ABc9 [1, 3, 49, 50, 51] 0 tm = tmCo 49 2 (rowsR s.rows) (rowsR s.rows).length 0 ∧ hp = [stB s, outC s (.own 33 1 (AAe9 s.ps)) (.own 28 1 (AAf9 s.qs)) nilV] ∧ ∀ i : Int, K (.exit 4) (tmCo 49 2 (rowsR s.rows) s.rows.length i) [stB s, outC s (.own 33 1 (AAe9 s.ps)) (.own 28 1 (AAf9 s.qs)) (.own 71 2 (rowsR s.rows))] b
 | _ => False
theorem BQc9 {Ev : Env Tryz.prog} (c : Code) (tm : List AV) (hp : List Blk) (b : Ev.β) (K : Exit → List AV → List Blk → Ev.β → Prop) (h : wlCo c tm hp b K) : W Ev c ⟨tm, hp, b⟩ (fun e s => K e s.tm s.hp s.b) := by
 unfold wlCo at h
 split at h
 · obtain ⟨s, hs, rfl, htm, rfl, hK⟩ := h
   rw [AAh9] at htm
   refine W.cast (htm ▸ AAk9 _ tm 0) (hp' := [stB s, outC s (.own 33 1 (AAe9 [])) nilV nilV]) (LeH.at [stB s] [] (LeL.at [_, _, _, _] _ (LeA.nilOwn rfl))) ?_
   exact W.rounds (wrCo1 (Q := fun e s => K e s.tm s.hp s.b) s hs _ _ hK)
 · obtain ⟨s, hs, rfl, htm, rfl, hK⟩ := h
   rw [AAy9] at htm
   refine W.cast (htm ▸ AAk9 _ tm 0) (hp' := [stB s, outC s (.own 33 1 (AAe9 s.ps)) (.own 28 1 (AAf9 [])) nilV]) (LeH.at [stB s] [] (LeL.at [_, _, _, _, _] _ (LeA.nilOwn rfl))) ?_
   exact W.rounds (wrCo2 (Q := fun e s => K e s.tm s.hp s.b) s hs _ _ hK)
 · obtain ⟨s, hs, rfl, htm, rfl, hK⟩ := h
   rw [ABs9] at htm
   refine W.cast (htm ▸ AAk9 _ tm 0) (hp' := [stB s, outC s (.own 33 1 (AAe9 s.ps)) (.own 28 1 (AAf9 s.qs)) (.own 71 2 (rowsR []))]) (LeH.at [stB s] [] (LeL.at [_, _, _, _, _, _] _ (LeA.nilOwn rfl))) ?_
   exact W.rounds (wrCo3 (Q := fun e s => K e s.tm s.hp s.b) s hs _ _ hK)
 · exact h.elim
section
variable {β : Type} (wl : WLT β) (y : AAg9 β) (b : β) (R : AV → β → Prop) (RS : AV → List Blk → β → Prop) (K : Exit → List AV → List Blk → β → Prop)
theorem BGj9 (s : StT) : wpFnS Tryz.prog ⟨TCo, [], wlCo, y, false⟩ 100 Tryz.f47 [stV s] b RS = ( ∃ (xs0 : List (List Dv)), [AV.d (Dv.sl 1 (digR (StT.pf s)))] = [AV.d (Dv.sl 1 xs0)] ∧ List.length xs0 ≤ 1000000 ∧ ∃ (s1 : StT), (ABb9 s1) ∧ Code.loop lpCo1 = Code.loop lpCo1 ∧ [bad, AV.ptr 0 0, bad, AV.ptr 1 0, bad, bad, bad, bad, bad, bad, bad, bad, bad, bad, bad, bad, bad, bad, bad, AV.d (Dv.sl 1 (AAe9 (StT.ps s))), AV.d (i64 ((List.length (AAe9 (StT.ps s)) : Nat) : Int)), AV.d (i64 0), bad, bad, bad, bad, bad, bad, bad, bad, bad, bad, bad, bad, bad, bad, bad, bad, bad, bad, bad, bad, bad, bad, bad, bad, bad, bad, bad, bad, bad, bad, bad, bad, bad, bad, bad, bad, bad, bad, bad, bad, bad, bad, bad, bad, bad, bad, bad, bad] = [bad, AV.ptr 0 0, bad, AV.ptr 1 0, bad, bad, bad, bad, bad, bad, bad, bad, bad, bad, bad, bad, bad, bad, bad, AV.d (Dv.sl 1 (AAe9 (StT.ps s1))), AV.d (i64 ((List.length (AAe9 (StT.ps s1)) : Nat) : Int)), AV.d (i64 0), bad, bad, bad, bad, bad, bad, bad, bad, bad, bad, bad, bad, bad, bad, bad, bad, bad, bad, bad, bad, bad, bad, bad, bad, bad, bad, bad, bad, bad, bad, bad, bad, bad, bad, bad, bad, bad, bad, bad, bad, bad, bad, bad, bad, bad, bad, bad, bad] ∧ [stB s, Blk.mk [AV.d (i64 (NotT.v (StT.no s))), AV.d (i64 (NotT.n (StT.no s))), AV.d (u64 (NotT.r (StT.no s))), AV.d (i64 (NotT.t (StT.no s))), AV.d (Dv.s (.slice none 0 0)), AV.d (Dv.s (.slice none 0 0)), AV.d (Dv.s (.slice none 0 0)), AV.d (Dv.sl 1 xs0), AV.d (i64 (TrT.iv (StT.tr s))), AV.d (i64 (TrT.bg (StT.tr s))), AV.d (i64 (TrT.fi (StT.tr s))), AV.d (i64 (TrT.ct (StT.tr s))), AV.d (i64 (TrT.sd (StT.tr s)))] false false 0] = [stB s1, Blk.mk [AV.d (i64 (NotT.v (StT.no s1))), AV.d (i64 (NotT.n (StT.no s1))), AV.d (u64 (NotT.r (StT.no s1))), AV.d (i64 (NotT.t (StT.no s1))), AV.d (Dv.s (.slice none 0 0)), AV.d (Dv.s (.slice none 0 0)), AV.d (Dv.s (.slice none 0 0)), AV.d (Dv.sl 1 (digR (StT.pf s1))), AV.d (i64 (TrT.iv (StT.tr s1))), AV.d (i64 (TrT.bg (StT.tr s1))), AV.d (i64 (TrT.fi (StT.tr s1))), AV.d (i64 (TrT.ct (StT.tr s1))), AV.d (i64 (TrT.sd (StT.tr s1)))] false false 0] ∧ ∀ (i : Int), ∃ (s2 : StT), (ABb9 s2) ∧ Code.loop lpCo2 = Code.loop lpCo2 ∧ [bad, AV.ptr 0 0, bad, AV.ptr 1 0, bad, bad, bad, bad, bad, bad, bad, bad, bad, bad, bad, bad, bad, bad, bad, bad, bad, bad, bad, bad, bad, bad, bad, bad, bad, bad, bad, bad, bad, bad, AV.d (Dv.sl 1 (AAf9 (StT.qs s1))), AV.d (i64 ((List.length (AAf9 (StT.qs s1)) : Nat) : Int)), AV.d (i64 0), bad, bad, bad, bad, bad, bad, bad, bad, bad, bad, bad, bad, bad, bad, bad, bad, bad, bad, bad, bad, bad, bad, bad, bad, bad, bad, bad, bad, bad, bad, bad, bad, bad] = [bad, AV.ptr 0 0, bad, AV.ptr 1 0, bad, bad, bad, bad, bad, bad, bad, bad, bad, bad, bad, bad, bad, bad, bad, bad, bad, bad, bad, bad, bad, bad, bad, bad, bad, bad, bad, bad, bad, bad, AV.d (Dv.sl 1 (AAf9 (StT.qs s2))), AV.d (i64 ((List.length (AAf9 (StT.qs s2)) : Nat) : Int)), AV.d (i64 0), bad, bad, bad, bad, bad, bad, bad, bad, bad, bad, bad, bad, bad, bad, bad, bad, bad, bad, bad, bad, bad, bad, bad, bad, bad, bad, bad, bad, bad, bad, bad, bad, bad] ∧ [stB s1, Blk.mk [AV.d (i64 (NotT.v (StT.no s1))), AV.d (i64 (NotT.n (StT.no s1))), AV.d (u64 (NotT.r (StT.no s1))), AV.d (i64 (NotT.t (StT.no s1))), AV.own 33 1 (AAe9 (StT.ps s1)), AV.d (Dv.s (.slice none 0 0)), AV.d (Dv.s (.slice none 0 0)), AV.d (Dv.sl 1 (digR (StT.pf s1))), AV.d (i64 (TrT.iv (StT.tr s1))), AV.d (i64 (TrT.bg (StT.tr s1))), AV.d (i64 (TrT.fi (StT.tr s1))), AV.d (i64 (TrT.ct (StT.tr s1))), AV.d (i64 (TrT.sd (StT.tr s1)))] false false 0] = [stB s2, Blk.mk [AV.d (i64 (NotT.v (StT.no s2))), AV.d (i64 (NotT.n (StT.no s2))), AV.d (u64 (NotT.r (StT.no s2))), AV.d (i64 (NotT.t (StT.no s2))), AV.own 33 1 (AAe9 (StT.ps s2)), AV.d (Dv.s (.slice none 0 0)), AV.d (Dv.s (.slice none 0 0)), AV.d (Dv.sl 1 (digR (StT.pf s2))), AV.d (i64 (TrT.iv (StT.tr s2))), AV.d (i64 (TrT.bg (StT.tr s2))), AV.d (i64 (TrT.fi (StT.tr s2))), AV.d (i64 (TrT.ct (StT.tr s2))), AV.d (i64 (TrT.sd (StT.tr s2)))] false false 0] ∧ ∀ (i : Int), ∃ (s3 : StT), (ABb9 s3) ∧ Code.loop lpCo3 = Code.loop lpCo3 ∧ [bad, AV.ptr 0 0, bad, AV.ptr 1 0, bad, bad, bad, bad, bad, bad, bad, bad, bad, bad, bad, bad, bad, bad, bad, bad, bad, bad, bad, bad, bad, bad, bad, bad, bad, bad, bad, bad, bad, bad, bad, bad, bad, bad, bad, bad, bad, bad, bad, bad, bad, bad, bad, bad, bad, AV.d (Dv.sl 2 (rowsR (StT.rows s2))), AV.d (i64 ((List.length (rowsR (StT.rows s2)) : Nat) : Int)), AV.d (i64 0), bad, bad, bad, bad, bad, bad, bad, bad, bad, bad, bad, bad, bad, bad, bad, bad, bad, bad] = [bad, AV.ptr 0 0, bad, AV.ptr 1 0, bad, bad, bad, bad, bad, bad, bad, bad, bad, bad, bad, bad, bad, bad, bad, bad, bad, bad, bad, bad, bad, bad, bad, bad, bad, bad, bad, bad, bad, bad, bad, bad, bad, bad, bad, bad, bad, bad, bad, bad, bad, bad, bad, bad, bad, AV.d (Dv.sl 2 (rowsR (StT.rows s3))), AV.d (i64 ((List.length (rowsR (StT.rows s3)) : Nat) : Int)), AV.d (i64 0), bad, bad, bad, bad, bad, bad, bad, bad, bad, bad, bad, bad, bad, bad, bad, bad, bad, bad] ∧ [stB s2, Blk.mk [AV.d (i64 (NotT.v (StT.no s2))), AV.d (i64 (NotT.n (StT.no s2))), AV.d (u64 (NotT.r (StT.no s2))), AV.d (i64 (NotT.t (StT.no s2))), AV.own 33 1 (AAe9 (StT.ps s2)), AV.own 28 1 (AAf9 (StT.qs s2)), AV.d (Dv.s (.slice none 0 0)), AV.d (Dv.sl 1 (digR (StT.pf s2))), AV.d (i64 (TrT.iv (StT.tr s2))), AV.d (i64 (TrT.bg (StT.tr s2))), AV.d (i64 (TrT.fi (StT.tr s2))), AV.d (i64 (TrT.ct (StT.tr s2))), AV.d (i64 (TrT.sd (StT.tr s2)))] false false 0] = [stB s3, Blk.mk [AV.d (i64 (NotT.v (StT.no s3))), AV.d (i64 (NotT.n (StT.no s3))), AV.d (u64 (NotT.r (StT.no s3))), AV.d (i64 (NotT.t (StT.no s3))), AV.own 33 1 (AAe9 (StT.ps s3)), AV.own 28 1 (AAf9 (StT.qs s3)), AV.d (Dv.s (.slice none 0 0)), AV.d (Dv.sl 1 (digR (StT.pf s3))), AV.d (i64 (TrT.iv (StT.tr s3))), AV.d (i64 (TrT.bg (StT.tr s3))), AV.d (i64 (TrT.fi (StT.tr s3))), AV.d (i64 (TrT.ct (StT.tr s3))), AV.d (i64 (TrT.sd (StT.tr s3)))] false false 0] ∧ ∀ (i : Int), RS (AV.ptr 2 0) [stB s3, Blk.mk [AV.d (i64 (NotT.v (StT.no s3))), AV.d (i64 (NotT.n (StT.no s3))), AV.d (u64 (NotT.r (StT.no s3))), AV.d (i64 (NotT.t (StT.no s3))), AV.own 33 1 (AAe9 (StT.ps s3)), AV.own 28 1 (AAf9 (StT.qs s3)), AV.own 71 2 (rowsR (StT.rows s3)), AV.d (Dv.sl 1 (digR (StT.pf s3))), AV.d (i64 (TrT.iv (StT.tr s3))), AV.d (i64 (TrT.bg (StT.tr s3))), AV.d (i64 (TrT.fi (StT.tr s3))), AV.d (i64 (TrT.ct (StT.tr s3))), AV.d (i64 (TrT.sd (StT.tr s3)))] false false 0, stB s3] b) := by kernel_rfl
end
noncomputable def lpEq : Code := sub [1, 1, 0, 1, 2, 3] (code Tryz.f122)
def tmEq (a c : List (List Dv)) (n i : Int) : List AV := [.d (.sl 1 a), .d (.sl 1 c)] ++ List.replicate 10 .bad ++ [.d (i64 n), .d (i64 i)] ++ List.replicate 12 .bad
section
variable {β : Type} (wl : WLT β) (y : AAg9 β) (b : β) (R : AV → β → Prop) (RS : AV → List Blk → β → Prop) (K : Exit → List AV → List Blk → β → Prop)
theorem rEq (a c : List (List Dv)) (n i : Int) : wpc Tryz.prog ⟨[], [], wl, y, false⟩ 100 lpEq (tmEq a c n i) [] b (maskT [0, 1, 4, 12, 13] K) = ( BIf (decide (i < n)) (BIf (true && decide ((0 : Int) ≤ i)) (∃ (x0 : Int), a[Int.toNat i]? = some [u64 x0] ∧ BIf (true && decide ((0 : Int) ≤ i)) (∃ (x3 : Int), c[Int.toNat i]? = some [u64 x3] ∧ BIf (x0 != x3) (K .ret [AV.d (Dv.sl 1 a), AV.d (Dv.sl 1 c), bad, bad, AV.d (bo false), bad, bad, bad, bad, bad, bad, bad, AV.d (i64 n), AV.d (i64 i), bad, bad, bad, bad, bad, bad, bad, bad, bad, bad, bad, bad] [] b) (K .normal [AV.d (Dv.sl 1 a), AV.d (Dv.sl 1 c), bad, bad, bad, bad, bad, bad, bad, bad, bad, bad, AV.d (i64 n), AV.d (i64 (IntKind.wrap .i64 (i + (1 : Int)))), bad, bad, bad, bad, bad, bad, bad, bad, bad, bad, bad, bad] [] b)) False) False) (K (Exit.exit 0) [AV.d (Dv.sl 1 a), AV.d (Dv.sl 1 c), bad, bad, bad, bad, bad, bad, bad, bad, bad, bad, AV.d (i64 n), AV.d (i64 i), bad, bad, bad, bad, bad, bad, bad, bad, bad, bad, bad, bad] [] b)) := by kernel_rfl
end
theorem wrEq {Ev : Env Tryz.prog} {b : Ev.β} {Q : Exit → St Ev.β → Prop} (a c : List Int) (hl : a.length = c.length) (hb : a.length ≤ 9223372036854775807) (h1 : a = c → ∀ i : Int, Q (.exit 0) ⟨tmEq (digR a) (digR c) a.length i, [], b⟩) (h2 : a ≠ c → ∀ i : Int, Q .ret ⟨(tmEq (digR a) (digR c) a.length i).set 4 (.d (bo false)), [], b⟩) :
   WR Ev lpEq (a.length + 1) ⟨tmEq (digR a) (digR c) a.length (0 : Nat), [], b⟩ Q := by
 refine WR.scan (X := ⟨[], [], wlW Ev, Ev.Y, false⟩) (k := 100) [0, 1, 4, 12, 13] mixed (CX.Ok.of AAa9.nil AAb9.nil) a.length (fun i => nth a i != nth c i) (fun i => tmEq (digR a) (digR c) a.length (i : Nat)) (fun i => (tmEq (digR a) (digR c) a.length (i : Nat)).set 4 (.d (bo false))) [] 0 (fun i hi K k1 k2 => ?_) (fun K k1 => ?_) (fun h => h1 ?_ _) fun h i => h2 ?_ _
 · rw [rEq]
   refine BIf.t (by simp <;> omega) (BIf.t (by simp) ⟨nth a i, by rw [Int.toNat_natCast]; exact AMx9 hi, BIf.t (by simp) ⟨nth c i, by rw [Int.toNat_natCast]; exact AMx9 (by omega), BIf.of (fun g => k1 g) fun g => ?_⟩⟩)
   rw [ABj9 hi hb]; exact k2 g
 · rw [rEq]
   exact BIf.f (by simp) k1
 · rw [AXc9 hl] at h; simpa using h
 · rw [AXc9 hl] at h; simpa using h
def wlEq {β : Type} : WLT β := fun t tm hp b K => ∃ (a c : List Int) (z : Bool), t = .loop lpEq ∧ ABc9 [0, 1, 12, 13] 0 tm = tmEq (digR a) (digR c) (digR a).length 0 ∧ hp = [] ∧ ((a.length = c.length ∧ a.length ≤ 9223372036854775807) ∧ z = decide (a = c)) ∧
 BIf z (∀ i : Int, K (.exit 0) (tmEq (digR a) (digR c) a.length i) [] b) (∀ i : Int, K .ret ((tmEq (digR a) (digR c) a.length i).set 4 (.d (bo false))) [] b)
theorem BQb9 {Ev : Env Tryz.prog} (c : Code) (tm : List AV) (hp : List Blk) (b : Ev.β) (K : Exit → List AV → List Blk → Ev.β → Prop) (h : wlEq c tm hp b K) : W Ev c ⟨tm, hp, b⟩ (fun e s => K e s.tm s.hp s.b) := by
 obtain ⟨a, d, z, rfl, htm, rfl, ⟨⟨hl, hb⟩, hz⟩, hK⟩ := h
 rw [AAw9] at htm
 refine W.cast (htm ▸ AAk9 _ tm 0) (LeH.refl _) ?_
 exact W.rounds (wrEq (Q := fun e s => K e s.tm s.hp s.b) a d hl hb (fun h => by rw [hz, decide_eq_true h] at hK; exact hK) fun h => by rw [hz, decide_eq_false h] at hK; exact hK)
section
variable {β : Type} (wl : WLT β) (y : AAg9 β) (b : β) (R : AV → β → Prop)
theorem BNu9 (a c : List (List Dv)) : wpFn Tryz.prog ⟨[], [], wlEq, y, false⟩ 100 Tryz.f122 [.d (.sl 1 a), .d (.sl 1 c)] b R = ( BIf (((List.length a : Nat) : Int) != ((List.length c : Nat) : Int)) (R (.d (bo false)) b) (∃ (a0 : List Int) (c1 : List Int) (z2 : Bool), Code.loop lpEq = Code.loop lpEq ∧ [AV.d (Dv.sl 1 a), AV.d (Dv.sl 1 c), bad, bad, bad, bad, bad, bad, bad, bad, bad, bad, AV.d (i64 ((List.length a : Nat) : Int)), AV.d (i64 0), bad, bad, bad, bad, bad, bad, bad, bad, bad, bad, bad, bad] = [AV.d (Dv.sl 1 (digR a0)), AV.d (Dv.sl 1 (digR c1)), bad, bad, bad, bad, bad, bad, bad, bad, bad, bad, AV.d (i64 ((List.length (digR a0) : Nat) : Int)), AV.d (i64 0), bad, bad, bad, bad, bad, bad, bad, bad, bad, bad, bad, bad] ∧ ([] : List Blk) = [] ∧ ((List.length a0 = List.length c1 ∧ List.length a0 ≤ 9223372036854775807) ∧ z2 = decide (a0 = c1)) ∧ BIf z2 (∀ (i : Int), R (.d (bo true)) b) (∀ (i : Int), R (.d (bo false)) b))) := by kernel_rfl
end
theorem BSf9 (a c : List Int) (ha : a.length ≤ 9223372036854775807) : PCall Tryz.prog 122 [.d (.sl 1 (digR a)), .d (.sl 1 (digR c))] (.d (bo (decide (a = c)))) := by
 refine PCall.ofFnW (n := 100) (u := false) (fun _ => wlEq) mixed AAa9.nil AAb9.nil (fun Ev => BQb9) Tryz.func122 (by rfl) (by rfl) fun Ev bb => ?_
 rw [BNu9, AAw9, AAw9]
 refine BIf.of (fun g => ?_) fun g => ⟨a, c, _, rfl, by rw [AAw9], rfl, ⟨⟨by simp at g; omega, ha⟩, rfl⟩, BIf.of (fun h i => by rw [h]) fun h i => by rw [h]⟩
 rw [decide_eq_false fun h => by rw [h] at g; simp at g]
def cEqual (args : List AV) (K : AV → Prop) : Prop := ∃ (a c : List Int) (z : Bool), args = [.d (.sl 1 (digR a)), .d (.sl 1 (digR c))] ∧ (a.length ≤ 9223372036854775807 ∧ z = decide (a = c)) ∧ K (.d (bo z))
theorem BHb9 : ∀ args K, cEqual args K → ∃ x, PCall Tryz.prog 122 args x ∧ K x := by
 rintro _ K ⟨a, c, _, rfl, ⟨hl, rfl⟩, h⟩; exact ⟨_, BSf9 a c hl, h⟩
theorem BMr9 (s : StT) (hs : ABb9 s) : FCall Tryz.prog 47 [stV s] (.ptr 2 0) [stB s, outC s (.own 33 1 (AAe9 s.ps)) (.own 28 1 (AAf9 s.qs)) (.own 71 2 (rowsR s.rows)), stB s] := by
 refine FCall.ofFnF (n := 100) (u := false) (fun _ => wlCo) mixed BHo9 AAb9.nil (fun Ev => BQc9) Tryz.func47 (by rfl) (by rfl) (by rfl) fun Ev bb => ?_
 rw [BGj9]
 exact ⟨_, rfl, by rw [AAw9]; exact hs.2.2.2, s, hs, rfl, rfl, rfl, fun i => ⟨s, hs, rfl, rfl, rfl, fun i => ⟨s, hs, rfl, rfl, rfl, fun i => ⟨.rfl, rfl⟩⟩⟩⟩
def ATm9 (args : List AV) (hp : List Blk) (K : AV → List Blk → Prop) : Prop := ∃ (s : StT), args = [stV s] ∧ ABb9 s ∧
 K (.ptr (hp.length + 2) 0) (hp ++ [stB s, outC s (.own 33 1 (AAe9 s.ps)) (.own 28 1 (AAf9 s.qs)) (.own 71 2 (rowsR s.rows)), stB s])
theorem AKe9 : ∀ args hp K, ATm9 args hp K → ∃ x hp', SCall Tryz.prog 47 args hp x hp' ∧ K x hp' := by
 rintro _ hp K ⟨s, rfl, hs, h⟩; exact ⟨_, _, (BMr9 s hs).toS rfl hp, h⟩
structure BlkT where
 n : Int
 s : Int
 d : List Int
 pf : List Int
def bkL (x : BlkT) : List AV := [.d (i64 x.n), .d (i64 x.s), .d (.sl 1 (AAd9 x.d)), .d (.sl 1 (digR x.pf))]
def bkV (x : BlkT) : AV := .agg (bkL x)
def TRf : List (Nat × (List AV → (AV → Prop) → Prop)) := [(61, AUx9), (62, AUz9), (121, BBy9), (122, cEqual)]
theorem TRf_ok : AAa9 Tryz.prog TRf := AAa9.cons ALc9 (AAa9.cons ALe9 (AAa9.cons AQy9 (AAa9.cons BHb9 AAa9.nil)))
section
variable {β : Type} (wl : WLT β) (y : AAg9 β) (b : β) (R : AV → β → Prop) (RS : AV → List Blk → β → Prop) (K : Exit → List AV → List Blk → β → Prop)
theorem AZg9 (s : StT) (x : BlkT) : wpFn Tryz.prog ⟨TRf, [], wl, y, false⟩ 100 Tryz.f48 [.rptr (stD s), bkV x] b R = ( ∃ (s0 : StT) (z1 : Bool), [AV.rptr (stD s)] = [AV.rptr (stD s0)] ∧ ((ABb9 s0) ∧ z1 = ACt9 s0) ∧ BIf (!z1) (R (.d (i64 1)) b) (BIf (decide (BlkT.n x < (0 : Int))) (R (.d (i64 1)) b) (BIf (decide (BlkT.n x ≥ (16 : Int))) (R (.d (i64 1)) b) (BIf (decide (BlkT.s x < (0 : Int))) (R (.d (i64 1)) b) (BIf (decide (BlkT.s x > (1000000000 : Int))) (R (.d (i64 1)) b) (BIf (((List.length (AAd9 (BlkT.d x)) : Nat) : Int) != (16 : Int)) (R (.d (i64 1)) b) (∃ (s2 : StT) (z3 : Bool), [AV.rptr (stD s)] = [AV.rptr (stD s2)] ∧ ((ABb9 s2) ∧ z3 = AGn9 s2) ∧ BIf z3 (R (.d (i64 4)) b) (∃ (s4 : StT) (z5 : Bool), [AV.rptr (stD s)] = [AV.rptr (stD s4)] ∧ z5 = fullP s4 ∧ BIf z5 (R (.d (i64 10)) b) (BIf (decide (BlkT.n x < ((List.length (AAe9 (StT.ps s)) : Nat) : Int))) (R (.d (i64 14)) b) (BIf (decide (BlkT.n x > ((List.length (AAe9 (StT.ps s)) : Nat) : Int))) (R (.d (i64 6)) b) (BIf (decide (((List.length (rowsR (StT.rows s)) : Nat) : Int) > (0 : Int))) (∃ (a6 : List Int) (c7 : List Int) (z8 : Bool), [AV.d (Dv.sl 1 (digR (BlkT.pf x))), AV.d (Dv.sl 1 (digR (StT.pf s)))] = [AV.d (Dv.sl 1 (digR a6)), AV.d (Dv.sl 1 (digR c7))] ∧ (List.length a6 ≤ 9223372036854775807 ∧ z8 = decide (a6 = c7)) ∧ BIf (!z8) (R (.d (i64 12)) b) (R (.d (i64 0)) b)) (R (.d (i64 0)) b)))))))))))) := by kernel_rfl
theorem BPe9 (b0 b1 b2 b3 b4 : Blk) (s : StT) (e : Int) : wpc Tryz.prog ⟨[], [], wl, y, false⟩ 100 (code Tryz.f50) (AAt9 Tryz.f50 [.ptr 5 0, .d (i64 e)]) [b0, b1, b2, b3, b4, stB s] b (fnKS Tryz.prog Tryz.f50 RS) = ( RS (AV.tup [AV.agg [AV.d (i64 (NotT.v (StT.no s))), AV.d (i64 (NotT.n (StT.no s))), AV.d (u64 (NotT.r (StT.no s))), AV.d (i64 (NotT.t (StT.no s))), AV.d (Dv.sl 1 (AAe9 (StT.ps s))), AV.d (Dv.sl 1 (AAf9 (StT.qs s))), AV.d (Dv.s (.slice none 0 0)), AV.d (Dv.s (.slice none 0 0)), AV.d (i64 (TrT.iv (StT.tr s))), AV.d (i64 (TrT.bg (StT.tr s))), AV.d (i64 (TrT.fi (StT.tr s))), AV.d (i64 (TrT.ct (StT.tr s))), AV.d (i64 (TrT.sd (StT.tr s)))], AV.d (i64 e)]) [b0, b1, b2, b3, b4, Blk.mk [AV.d (i64 (NotT.v (StT.no s))), AV.d (i64 (NotT.n (StT.no s))), AV.d (u64 (NotT.r (StT.no s))), AV.d (i64 (NotT.t (StT.no s))), AV.d (Dv.sl 1 (AAe9 (StT.ps s))), AV.d (Dv.sl 1 (AAf9 (StT.qs s))), AV.d (Dv.s (.slice none 0 0)), AV.d (Dv.s (.slice none 0 0)), AV.d (i64 (TrT.iv (StT.tr s))), AV.d (i64 (TrT.bg (StT.tr s))), AV.d (i64 (TrT.fi (StT.tr s))), AV.d (i64 (TrT.ct (StT.tr s))), AV.d (i64 (TrT.sd (StT.tr s)))] false false 0, Blk.mk [AV.d (i64 (NotT.v (StT.no s))), AV.d (i64 (NotT.n (StT.no s))), AV.d (u64 (NotT.r (StT.no s))), AV.d (i64 (NotT.t (StT.no s))), AV.d (Dv.sl 1 (AAe9 (StT.ps s))), AV.d (Dv.sl 1 (AAf9 (StT.qs s))), AV.d (Dv.s (.slice none 0 0)), AV.d (Dv.s (.slice none 0 0)), AV.d (i64 (TrT.iv (StT.tr s))), AV.d (i64 (TrT.bg (StT.tr s))), AV.d (i64 (TrT.fi (StT.tr s))), AV.d (i64 (TrT.ct (StT.tr s))), AV.d (i64 (TrT.sd (StT.tr s)))] false false 0] b) := by kernel_rfl
theorem BPd9 (b0 b1 b2 b3 b4 b6 : Blk) (s : StT) (e : Int) : wpc Tryz.prog ⟨[], [], wl, y, false⟩ 100 (code Tryz.f50) (AAt9 Tryz.f50 [.ptr 5 0, .d (i64 e)]) [b0, b1, b2, b3, b4, stB s, b6] b (fnKS Tryz.prog Tryz.f50 RS) = ( RS (AV.tup [AV.agg [AV.d (i64 (NotT.v (StT.no s))), AV.d (i64 (NotT.n (StT.no s))), AV.d (u64 (NotT.r (StT.no s))), AV.d (i64 (NotT.t (StT.no s))), AV.d (Dv.sl 1 (AAe9 (StT.ps s))), AV.d (Dv.sl 1 (AAf9 (StT.qs s))), AV.d (Dv.s (.slice none 0 0)), AV.d (Dv.s (.slice none 0 0)), AV.d (i64 (TrT.iv (StT.tr s))), AV.d (i64 (TrT.bg (StT.tr s))), AV.d (i64 (TrT.fi (StT.tr s))), AV.d (i64 (TrT.ct (StT.tr s))), AV.d (i64 (TrT.sd (StT.tr s)))], AV.d (i64 e)]) [b0, b1, b2, b3, b4, Blk.mk [AV.d (i64 (NotT.v (StT.no s))), AV.d (i64 (NotT.n (StT.no s))), AV.d (u64 (NotT.r (StT.no s))), AV.d (i64 (NotT.t (StT.no s))), AV.d (Dv.sl 1 (AAe9 (StT.ps s))), AV.d (Dv.sl 1 (AAf9 (StT.qs s))), AV.d (Dv.s (.slice none 0 0)), AV.d (Dv.s (.slice none 0 0)), AV.d (i64 (TrT.iv (StT.tr s))), AV.d (i64 (TrT.bg (StT.tr s))), AV.d (i64 (TrT.fi (StT.tr s))), AV.d (i64 (TrT.ct (StT.tr s))), AV.d (i64 (TrT.sd (StT.tr s)))] false false 0, b6, Blk.mk [AV.d (i64 (NotT.v (StT.no s))), AV.d (i64 (NotT.n (StT.no s))), AV.d (u64 (NotT.r (StT.no s))), AV.d (i64 (NotT.t (StT.no s))), AV.d (Dv.sl 1 (AAe9 (StT.ps s))), AV.d (Dv.sl 1 (AAf9 (StT.qs s))), AV.d (Dv.s (.slice none 0 0)), AV.d (Dv.s (.slice none 0 0)), AV.d (i64 (TrT.iv (StT.tr s))), AV.d (i64 (TrT.bg (StT.tr s))), AV.d (i64 (TrT.fi (StT.tr s))), AV.d (i64 (TrT.ct (StT.tr s))), AV.d (i64 (TrT.sd (StT.tr s)))] false false 0] b) := by kernel_rfl
end
def badB (x : BlkT) : Bool := decide (x.n < 0) || (decide (x.n ≥ 16) || (decide (x.s < 0) || (decide (x.s > 1000000000) || ((x.d.length : Int) != 16))))
def ABn9 (s : StT) (x : BlkT) : Int :=
 if (!ACt9 s || badB x) = true then 1 else if AGn9 s = true then 4 else if fullP s = true then 10 else if x.n < s.ps.length then 14 else if x.n > s.ps.length then 6 else if (!s.rows.isEmpty && !decide (x.pf = s.pf)) = true then 12 else 0
theorem BEp9 (s : StT) (x : BlkT) (hs : ABb9 s) (hx : x.pf.length ≤ 1000000) : PCall Tryz.prog 48 [.rptr (stD s), bkV x] (.d (i64 (ABn9 s x))) := by
 refine PCall.ofFn (n := 100) (u := false) mixed TRf_ok AAb9.nil Tryz.func48 (by rfl) (by rfl) fun Ev bb => ?_
 rw [AZg9, AAh9, ABs9, AAj9, BIs9]
 have bad : (!ACt9 s || badB x) = true → ABn9 s x = 1 := fun h => by rw [ABn9, if_pos h]
 refine ⟨s, _, rfl, ⟨hs, rfl⟩, BIf.of (fun h => by rw [bad (by rw [h]; rfl)]) fun h1 => BIf.of (fun h => by rw [bad (by rw [badB, h]; simp)]) fun h2 => BIf.of (fun h => by rw [bad (by rw [badB, h]; simp)]) fun h3 => BIf.of (fun h => by rw [bad (by rw [badB, h]; simp)]) fun h4 => BIf.of (fun h => by rw [bad (by rw [badB, h]; simp)]) fun h5 => BIf.of (fun h => by rw [bad (by rw [badB, h]; simp)]) fun h6 => ?_⟩
 have hb : ¬ (!ACt9 s || badB x) = true := by rw [h1, badB, h2, h3, h4, h5, h6]; decide
 refine ⟨s, _, rfl, ⟨hs, rfl⟩, BIf.of (fun h => by rw [ABn9, if_neg hb, if_pos h]) fun g1 => ⟨s, _, rfl, rfl, BIf.of (fun h => by rw [ABn9, if_neg hb, if_neg (by rw [g1]; decide), if_pos h]) fun g2 => BIf.of (fun h => ?_) fun g3 => BIf.of (fun h => ?_) fun g4 => BIf.of (fun g5 => ⟨_, _, _, rfl, ⟨by omega, rfl⟩, BIf.of (fun h => ?_) fun g6 => ?_⟩) fun g5 => ?_⟩⟩
 all_goals rw [ABn9, if_neg hb, if_neg (by rw [g1]; decide), if_neg (by rw [g2]; decide)]
 · rw [if_pos (of_decide_eq_true h)]
 · rw [if_neg (of_decide_eq_false g3), if_pos (of_decide_eq_true h)]
 · rw [if_neg (of_decide_eq_false g3), if_neg (of_decide_eq_false g4), if_pos (by rw [g5, h]; rfl)]
 · rw [if_neg (of_decide_eq_false g3), if_neg (of_decide_eq_false g4), if_neg (by rw [g6, Bool.and_false]; decide)]
 · rw [if_neg (of_decide_eq_false g3), if_neg (of_decide_eq_false g4), if_neg (by rw [g5, Bool.false_and]; decide)]
def BCd9 (args : List AV) (K : AV → Prop) : Prop := ∃ (s : StT) (x : BlkT) (z : Int), args = [.rptr (stD s), bkV x] ∧ ((ABb9 s ∧ x.pf.length ≤ 1000000) ∧ z = ABn9 s x) ∧ K (.d (i64 z))
theorem AWs9 : ∀ args K, BCd9 args K → ∃ x, PCall Tryz.prog 48 args x ∧ K x := by
 rintro _ K ⟨s, x, _, rfl, ⟨⟨hs, hx⟩, rfl⟩, h⟩; exact ⟨_, BEp9 s x hs hx, h⟩
def anL (s : StT) : List AV := noL s.no ++ [.d (.sl 1 (AAe9 s.ps)), .d (.sl 1 (AAf9 s.qs)), .d (.s (.slice none 0 0)), .d (.s (.slice none 0 0))] ++ trL s.tr
def anewS (s : StT) : StT := ⟨s.no, s.ps, s.qs, [], [], s.tr⟩
theorem AVg9 : Tryz.f50.body = some (code Tryz.f50) := by rfl
theorem BRh9 (b0 b1 b2 b3 b4 : Blk) (s : StT) (e : Int) : SCall Tryz.prog 50 [.ptr 5 0, .d (i64 e)] [b0, b1, b2, b3, b4, stB s] (.tup [.agg (anL s), .d (i64 e)]) [b0, b1, b2, b3, b4, ⟨anL s, false, false, 0⟩, ⟨anL s, false, false, 0⟩] := by
 refine SCall.ofWp (n := 100) (u := false) mixed AAa9.nil AAb9.nil Tryz.func50 AVg9 (by rfl) fun Ev b => ?_
 rw [BPe9]
 exact ⟨rfl, rfl⟩
theorem BRg9 (b0 b1 b2 b3 b4 b6 : Blk) (s : StT) (e : Int) : SCall Tryz.prog 50 [.ptr 5 0, .d (i64 e)] [b0, b1, b2, b3, b4, stB s, b6] (.tup [.agg (anL s), .d (i64 e)]) [b0, b1, b2, b3, b4, ⟨anL s, false, false, 0⟩, b6, ⟨anL s, false, false, 0⟩] := by
 refine SCall.ofWp (n := 100) (u := false) mixed AAa9.nil AAb9.nil Tryz.func50 AVg9 (by rfl) fun Ev b => ?_
 rw [BPd9]
 exact ⟨rfl, rfl⟩
def sAnew (args : List AV) (hp : List Blk) (K : AV → List Blk → Prop) : Prop := match hp with
 | [b0, b1, b2, b3, b4, b5] => ∃ (s : StT) (e : Int), args = [.ptr 5 0, .d (i64 e)] ∧ b5 = stB s ∧ K (.tup [.agg (anL s), .d (i64 e)]) [b0, b1, b2, b3, b4, ⟨anL s, false, false, 0⟩, ⟨anL s, false, false, 0⟩]
 | [b0, b1, b2, b3, b4, b5, b6] => ∃ (s : StT) (e : Int), args = [.ptr 5 0, .d (i64 e)] ∧ b5 = stB s ∧ K (.tup [.agg (anL s), .d (i64 e)]) [b0, b1, b2, b3, b4, ⟨anL s, false, false, 0⟩, b6, ⟨anL s, false, false, 0⟩]
 | _ => False
theorem BLu9 : ∀ args hp K, sAnew args hp K → ∃ x hp', SCall Tryz.prog 50 args hp x hp' ∧ K x hp' := by
 intro args hp K h
 unfold sAnew at h
 split at h
 · obtain ⟨s, e, rfl, rfl, h⟩ := h
   exact ⟨_, _, BRh9 _ _ _ _ _ s e, h⟩
 · obtain ⟨s, e, rfl, rfl, h⟩ := h
   exact ⟨_, _, BRg9 _ _ _ _ _ _ s e, h⟩
 · exact h.elim
def BKe9 : StT := ⟨⟨0, 0, 0, 0⟩, [], [], [], [], ⟨0, 0, 0, 0, 0⟩⟩
def putT (s : StT) (p q : List Int) : StT × Int :=
 if AKb9 s = false ∨ p.length ≠ 256 then (BKe9, 1) else if (s.ps.length : Int) = ABi9 s.no.n then (BKe9, 10) else if ABq9 s.sp s.ps.length p q = false then (BKe9, 12)
 else (⟨s.no, s.ps ++ [p], s.qs ++ [q], [], [], s.tr⟩, 0)
theorem BIl9 (s : StT) (p q : List Int) : spV (putS s.sp p q).1 = stV (putT s p q).1 ∧ (putS s.sp p q).2 = (putT s p q).2 := by
 unfold putS putT AKb9
 by_cases h1 : ABw9 s.sp = false ∨ p.length ≠ 256
 · rw [if_pos h1, if_pos h1]; exact ⟨rfl, rfl⟩
 · rw [if_neg h1, if_neg h1]
   by_cases h2 : (s.ps.length : Int) = ABi9 s.no.n
   · rw [if_pos (show (s.sp.ps.length : Int) = ABi9 s.sp.no.n from h2), if_pos h2]; exact ⟨rfl, rfl⟩
   · rw [if_neg (show ¬ (s.sp.ps.length : Int) = ABi9 s.sp.no.n from h2), if_neg h2]
     by_cases h3 : ABq9 s.sp s.ps.length p q = false
     · rw [if_pos (show ABq9 s.sp s.sp.ps.length p q = false from h3), if_pos h3]; exact ⟨rfl, rfl⟩
     · rw [if_neg (show ¬ ABq9 s.sp s.sp.ps.length p q = false from h3), if_neg h3]; exact ⟨rfl, rfl⟩
def okPut (s : StT) (q : List Int) : Prop := s.ps.length ≤ 9223372036854775807 ∧ q.length ≤ 1000000 ∧ ∀ x ∈ s.qs, x.length ≤ 1000000
theorem pcPutT (s : StT) (p q : List Int) (h : okPut s q) : PCall Tryz.prog 53 [stV s, .d (.sl 1 (AAd9 p)), .d (.sl 1 (digR q))] (.tup [stV (putT s p q).1, .d (i64 (putT s p q).2)]) := by
 have := pcPut s.sp p q h.1 h.2.1 h.2.2
 rw [(BIl9 s p q).1, (BIl9 s p q).2] at this
 exact this
def cPutT (args : List AV) (K : AV → Prop) : Prop := ∃ (s : StT) (p q : List Int) (z : StT) (e : Int), args = [stV s, .d (.sl 1 (AAd9 p)), .d (.sl 1 (digR q))] ∧ (okPut s q ∧ (z, e) = putT s p q) ∧ K (.tup [stV z, .d (i64 e)])
theorem BOl9 : ∀ args K, cPutT args K → ∃ x, PCall Tryz.prog 53 args x ∧ K x := by
 rintro _ K ⟨s, p, q, z, e, rfl, ⟨h1, he⟩, h⟩
 have := pcPutT s p q h1
 rw [← he] at this
 exact ⟨_, this, h⟩
def cRecB (args : List AV) (K : AV → Prop) : Prop := ∃ (l : List Row) (x : BlkT) (z : List Row) (n : Bool) (e : Int), args = [.d (.sl 2 (rowsR l)), bkV x] ∧ (2 * l.length ≤ 1000000 ∧ (z, n, e) = recS l x.n x.s x.d) ∧ K (.tup [.d (.sl 2 (rowsR z)), .d (bo n), .d (i64 e)])
theorem BOk9 : ∀ args K, cRecB args K → ∃ x, PCall Tryz.prog 49 args x ∧ K x := by
 rintro _ K ⟨l, x, z, n, e, rfl, ⟨h1, he⟩, h⟩
 have := BEq9 l x.n x.s x.d (digR x.pf) h1
 rw [← he] at this
 exact ⟨_, this, h⟩
def cPageB (args : List AV) (K : AV → Prop) : Prop := ∃ (l : List Row) (z : List Int) (e : Bool), args = [.d (.sl 2 (rowsR l))] ∧ (l.length ≤ 9223372036854775807 ∧ (z, e) = AEl9 l) ∧ K (.tup [.d (.sl 1 (AAd9 z)), .d (bo e)])
theorem BGz9 : ∀ args K, cPageB args K → ∃ x, PCall Tryz.prog 52 args x ∧ K x := by
 rintro _ K ⟨l, z, e, rfl, ⟨h1, he⟩, h⟩
 have := pcPage l h1
 rw [← he] at this
 exact ⟨_, this, h⟩
def TRc : List (Nat × (List AV → (AV → Prop) → Prop)) := [(49, cRecB), (51, ALg9), (52, cPageB), (53, cPutT)]
theorem TRc_ok : AAa9 Tryz.prog TRc := AAa9.cons BOk9 (AAa9.cons AGk9 (AAa9.cons BGz9 (AAa9.cons BOl9 AAa9.nil)))
def SRc : List (Nat × (List AV → List Blk → (AV → List Blk → Prop) → Prop)) := [(47, ATm9), (48, lendC BCd9), (50, sAnew)]
theorem SRc_ok : AAb9 Tryz.prog SRc := AAb9.cons AKe9 (AAb9.cons (AOd9 AWs9) (AAb9.cons BLu9 AAb9.nil))
section
variable {β : Type} (wl : WLT β) (y : AAg9 β) (b : β) (R : AV → β → Prop) (RS : AV → List Blk → β → Prop) (K : Exit → List AV → List Blk → β → Prop)
theorem AVt9 (s : StT) (x : BlkT) : wpFn Tryz.prog ⟨TRc, SRc, wl, y, false⟩ 100 Tryz.f15 [stV s, bkV x] b R = ( ∃ (s0 : StT), [stV s] = [stV s0] ∧ (ABb9 s0) ∧ ∃ (s1 : StT) (x2 : BlkT) (z3 : Int), [AV.rptr (stD s0), bkV x] = [AV.rptr (stD s1), bkV x2] ∧ (((ABb9 s1) ∧ List.length (BlkT.pf x2) ≤ 1000000) ∧ z3 = ABn9 s1 x2) ∧ BIf (z3 != (0 : Int)) (R (.tup [stV s0, AV.d (i64 z3)]) b) (∃ (l4 : List Row) (x5 : BlkT) (z6 : List Row) (n7 : Bool) (e8 : Int), [AV.d (Dv.sl 2 (rowsR (StT.rows s0))), bkV x] = [AV.d (Dv.sl 2 (rowsR l4)), bkV x5] ∧ (2 * List.length l4 ≤ 1000000 ∧ (z6, n7, e8) = recS l4 (BlkT.n x5) (BlkT.s x5) (BlkT.d x5)) ∧ BIf (e8 != (0 : Int)) (∃ (s9 : StT) (e10 : Int), [AV.ptr 5 0, AV.d (i64 e8)] = [AV.ptr 5 0, AV.d (i64 e10)] ∧ stB s0 = stB s9 ∧ R (.tup [AV.agg [AV.d (i64 (NotT.v (StT.no s9))), AV.d (i64 (NotT.n (StT.no s9))), AV.d (u64 (NotT.r (StT.no s9))), AV.d (i64 (NotT.t (StT.no s9))), AV.d (Dv.sl 1 (AAe9 (StT.ps s9))), AV.d (Dv.sl 1 (AAf9 (StT.qs s9))), AV.d (Dv.s (.slice none 0 0)), AV.d (Dv.s (.slice none 0 0)), AV.d (i64 (TrT.iv (StT.tr s9))), AV.d (i64 (TrT.bg (StT.tr s9))), AV.d (i64 (TrT.fi (StT.tr s9))), AV.d (i64 (TrT.ct (StT.tr s9))), AV.d (i64 (TrT.sd (StT.tr s9)))], AV.d (i64 e10)]) b) (∃ (xs11 : List (List Dv)), [AV.d (Dv.sl 1 (digR (BlkT.pf x)))] = [AV.d (Dv.sl 1 xs11)] ∧ List.length xs11 ≤ 1000000 ∧ ∃ (l12 : List Row) (z13 : List Int) (e14 : Bool), [AV.d (Dv.sl 2 (rowsR z6))] = [AV.d (Dv.sl 2 (rowsR l12))] ∧ (List.length l12 ≤ 9223372036854775807 ∧ (z13, e14) = AEl9 l12) ∧ BIf (!e14) (R (.tup [AV.agg [AV.d (i64 (NotT.v (StT.no s0))), AV.d (i64 (NotT.n (StT.no s0))), AV.d (u64 (NotT.r (StT.no s0))), AV.d (i64 (NotT.t (StT.no s0))), AV.d (Dv.sl 1 (AAe9 (StT.ps s0))), AV.d (Dv.sl 1 (AAf9 (StT.qs s0))), AV.d (Dv.sl 2 (rowsR z6)), AV.d (Dv.sl 1 xs11), AV.d (i64 (TrT.iv (StT.tr s0))), AV.d (i64 (TrT.bg (StT.tr s0))), AV.d (i64 (TrT.fi (StT.tr s0))), AV.d (i64 (TrT.ct (StT.tr s0))), AV.d (i64 (TrT.sd (StT.tr s0)))], AV.d (i64 0)]) b) (∃ (s15 : StT) (p16 : List Int) (q17 : List Int) (z18 : StT) (e19 : Int), [AV.agg [AV.d (i64 (NotT.v (StT.no s0))), AV.d (i64 (NotT.n (StT.no s0))), AV.d (u64 (NotT.r (StT.no s0))), AV.d (i64 (NotT.t (StT.no s0))), AV.d (Dv.sl 1 (AAe9 (StT.ps s0))), AV.d (Dv.sl 1 (AAf9 (StT.qs s0))), AV.d (Dv.sl 2 (rowsR z6)), AV.d (Dv.sl 1 xs11), AV.d (i64 (TrT.iv (StT.tr s0))), AV.d (i64 (TrT.bg (StT.tr s0))), AV.d (i64 (TrT.fi (StT.tr s0))), AV.d (i64 (TrT.ct (StT.tr s0))), AV.d (i64 (TrT.sd (StT.tr s0)))], AV.d (Dv.sl 1 (AAd9 z13)), AV.d (Dv.sl 1 (digR (BlkT.pf x)))] = [stV s15, AV.d (Dv.sl 1 (AAd9 p16)), AV.d (Dv.sl 1 (digR q17))] ∧ ((List.length (StT.ps s15) ≤ 9223372036854775807 ∧ List.length q17 ≤ 1000000 ∧ ∀ (x : List Int), x ∈ StT.qs s15 → List.length x ≤ 1000000) ∧ (z18, e19) = putT s15 p16 q17) ∧ BIf (e19 != (0 : Int)) (∃ (s20 : StT) (e21 : Int), [AV.ptr 5 0, AV.d (i64 12)] = [AV.ptr 5 0, AV.d (i64 e21)] ∧ Blk.mk [AV.d (i64 (NotT.v (StT.no s0))), AV.d (i64 (NotT.n (StT.no s0))), AV.d (u64 (NotT.r (StT.no s0))), AV.d (i64 (NotT.t (StT.no s0))), AV.d (Dv.sl 1 (AAe9 (StT.ps s0))), AV.d (Dv.sl 1 (AAf9 (StT.qs s0))), AV.d (Dv.sl 2 (rowsR z6)), AV.d (Dv.sl 1 xs11), AV.d (i64 (TrT.iv (StT.tr s0))), AV.d (i64 (TrT.bg (StT.tr s0))), AV.d (i64 (TrT.fi (StT.tr s0))), AV.d (i64 (TrT.ct (StT.tr s0))), AV.d (i64 (TrT.sd (StT.tr s0)))] false false 0 = stB s20 ∧ R (.tup [AV.agg [AV.d (i64 (NotT.v (StT.no s20))), AV.d (i64 (NotT.n (StT.no s20))), AV.d (u64 (NotT.r (StT.no s20))), AV.d (i64 (NotT.t (StT.no s20))), AV.d (Dv.sl 1 (AAe9 (StT.ps s20))), AV.d (Dv.sl 1 (AAf9 (StT.qs s20))), AV.d (Dv.s (.slice none 0 0)), AV.d (Dv.s (.slice none 0 0)), AV.d (i64 (TrT.iv (StT.tr s20))), AV.d (i64 (TrT.bg (StT.tr s20))), AV.d (i64 (TrT.fi (StT.tr s20))), AV.d (i64 (TrT.ct (StT.tr s20))), AV.d (i64 (TrT.sd (StT.tr s20)))], AV.d (i64 e21)]) b) (R (.tup [stV z18, AV.d (i64 0)]) b))))) := by kernel_rfl
end
set_option maxHeartbeats 1000000
def ALu9 (s : StT) (x : BlkT) : StT := ⟨s.no, s.ps, s.qs, (recS s.rows x.n x.s x.d).1, x.pf, s.tr⟩
def recvT (s : StT) (x : BlkT) : StT × Int :=
 if ABn9 s x ≠ 0 then (s, ABn9 s x) else if (recS s.rows x.n x.s x.d).2.2 ≠ 0 then (anewS s, (recS s.rows x.n x.s x.d).2.2)
 else if (AEl9 (recS s.rows x.n x.s x.d).1).2 = false then (ALu9 s x, 0)
 else if (putT (ALu9 s x) (AEl9 (recS s.rows x.n x.s x.d).1).1 x.pf).2 ≠ 0 then (anewS s, 12) else ((putT (ALu9 s x) (AEl9 (recS s.rows x.n x.s x.d).1).1 x.pf).1, 0)
theorem anLe (s : StT) (e : Int) : LeV (.tup [.agg (anL s), .d (i64 e)]) (.tup [stV (anewS s), .d (i64 e)]) :=
 LeV.tups (.cons (LeV.aggs (.cons .rfl (.cons .rfl (.cons .rfl (.cons .rfl (.cons .rfl (.cons .rfl (.cons (.nil rfl) (.cons (.nil rfl) (LeVs.refl _)))))))))) (.cons .rfl .nil))
theorem AZx9 (s : StT) (x : BlkT) (hs : ABb9 s) (hx : x.pf.length ≤ 1000000) : PCall Tryz.prog 15 [stV s, bkV x] (.tup [stV (recvT s x).1, .d (i64 (recvT s x).2)]) := by
 refine PCall.ofFnV (n := 100) (u := false) (fun _ => wlNo _) mixed TRc_ok SRc_ok (fun Ev => AGp9 Ev) Tryz.func15 (by rfl) (by rfl) fun Ev bb => ?_
 rw [AVt9]
 have hl := hs.2.2.1.1
 refine ⟨s, rfl, hs, s, x, _, rfl, ⟨⟨hs, hx⟩, rfl⟩, BIf.of (fun h => ?_) fun g1 => ?_⟩
 · rw [recvT, if_pos (by simpa using h)]; exact .rfl
 have g1 : ABn9 s x = 0 := by simpa using g1
 refine ⟨s.rows, x, (recS s.rows x.n x.s x.d).1, (recS s.rows x.n x.s x.d).2.1, (recS s.rows x.n x.s x.d).2.2, rfl, ⟨by omega, rfl⟩, BIf.of (fun h => ?_) fun g2 => ?_⟩
 · refine ⟨s, _, rfl, rfl, ?_⟩
   rw [recvT, if_neg (by rw [g1]; simp), if_pos (by simpa using h)]
   exact anLe s _
 have g2 : (recS s.rows x.n x.s x.d).2.2 = 0 := by simpa using g2
 have hr := BRn9 s.rows x.n x.s x.d
 refine ⟨_, rfl, by rw [AAw9]; exact hx, (recS s.rows x.n x.s x.d).1, (AEl9 (recS s.rows x.n x.s x.d).1).1, (AEl9 (recS s.rows x.n x.s x.d).1).2, rfl, ⟨by omega, rfl⟩, BIf.of (fun h => ?_) fun g3 => ?_⟩
 · rw [recvT, if_neg (by rw [g1]; simp), if_neg (by rw [g2]; simp), if_pos (nbt h)]
   exact .rfl
 have g3 := nbf g3
 refine ⟨ALu9 s x, _, x.pf, (putT (ALu9 s x) (AEl9 (recS s.rows x.n x.s x.d).1).1 x.pf).1, (putT (ALu9 s x) (AEl9 (recS s.rows x.n x.s x.d).1).1 x.pf).2, rfl, ⟨⟨by have := hs.1.1; show s.ps.length ≤ _; omega, hx, hs.2.1.2⟩, rfl⟩, BIf.of (fun h => ?_) fun g4 => ?_⟩
 · refine ⟨ALu9 s x, _, rfl, rfl, ?_⟩
   rw [recvT, if_neg (by rw [g1]; simp), if_neg (by rw [g2]; simp), if_neg (by rw [g3]; simp), if_pos (by simpa using h)]
   exact anLe (ALu9 s x) 12
 · rw [recvT, if_neg (by rw [g1]; simp), if_neg (by rw [g2]; simp), if_neg (by rw [g3]; simp), if_neg (by simpa using g4)]
   exact .rfl
def AOl9 (args : List AV) (K : AV → Prop) : Prop := ∃ (s : StT) (x : BlkT) (z : StT) (e : Int), args = [stV s, bkV x] ∧ ((ABb9 s ∧ x.pf.length ≤ 1000000) ∧ (z, e) = recvT s x) ∧ K (.tup [stV z, .d (i64 e)])
theorem ALd9 : ∀ args K, AOl9 args K → ∃ x, PCall Tryz.prog 15 args x ∧ K x := by
 rintro _ K ⟨s, x, z, e, rfl, ⟨⟨h1, h2⟩, he⟩, h⟩
 have := AZx9 s x h1 h2
 rw [← he] at this
 exact ⟨_, this, h⟩
def noV (n : NotT) : AV := .agg (noL n)
def cAnnN (args : List AV) (K : AV → Prop) : Prop := ∃ (n : NotT) (z : Bool), args = [noV n] ∧ z = AAm9 n.v n.n n.t ∧ K (.d (bo z))
theorem BOv9 : ∀ args K, cAnnN args K → ∃ x, PCall Tryz.prog 70 args x ∧ K x := by
 rintro _ K ⟨n, _, rfl, rfl, h⟩; exact ⟨_, pcSAnn n.v n.n n.r n.t, h⟩
def cCntN (args : List AV) (K : AV → Prop) : Prop := ∃ (n : NotT) (z : Int), args = [noV n] ∧ z = ABi9 n.n ∧ K (.d (i64 z))
theorem BOu9 : ∀ args K, cCntN args K → ∃ x, PCall Tryz.prog 71 args x ∧ K x := by
 rintro _ K ⟨n, _, rfl, rfl, h⟩; exact ⟨_, AZy9 n.v n.n n.r n.t, h⟩
def THr : List (Nat × (List AV → (AV → Prop) → Prop)) := [(70, cAnnN), (71, cCntN), (72, cTNew), (73, BJe9), (74, BOg9)]
theorem THr_ok : AAa9 Tryz.prog THr := AAa9.cons BOv9 (AAa9.cons BOu9 (AAa9.cons BOf9 (AAa9.cons BBv9 (AAa9.cons AUv9 AAa9.nil))))
def SHr : List (Nat × (List AV → List Blk → (AV → List Blk → Prop) → Prop)) := [(47, ATm9), (61, lendC AUx9)]
theorem SHr_ok : AAb9 Tryz.prog SHr := AAb9.cons AKe9 (AAb9.cons (AOd9 ALc9) AAb9.nil)
section
variable {β : Type} (wl : WLT β) (y : AAg9 β) (b : β) (R : AV → β → Prop) (RS : AV → List Blk → β → Prop) (K : Exit → List AV → List Blk → β → Prop)
theorem BLk9 (s : StT) (n : NotT) (p f : Int) : wpFn Tryz.prog ⟨THr, SHr, wl, y, false⟩ 100 Tryz.f21 [stV s, noV n, .d (i64 p), .d (i64 f)] b R = ( ∃ (s0 : StT), [stV s] = [stV s0] ∧ (ABb9 s0) ∧ ∃ (s1 : StT) (z2 : Bool), [AV.rptr (stD s0)] = [AV.rptr (stD s1)] ∧ ((ABb9 s1) ∧ z2 = ACt9 s1) ∧ BIf (!z2) (R (stV s0) b) (BIf (!(NotT.v n == (0 : Int) && (NotT.n n == (0 : Int) && (NotT.r n == (0 : Int) && (NotT.t n == (0 : Int) && true))))) (∃ (n3 : NotT) (z4 : Bool), [noV n] = [noV n3] ∧ z4 = AAm9 (NotT.v n3) (NotT.n n3) (NotT.t n3) ∧ BIf (!z4) (R (stV s0) b) (BIf (decide (p < (0 : Int))) (R (stV s0) b) (∃ (n5 : NotT) (z6 : Int), [noV n] = [noV n5] ∧ z6 = ABi9 (NotT.n n5) ∧ BIf (decide (p > z6)) (R (stV s0) b) (BIf (decide (f < (0 : Int))) (R (stV s0) b) (BIf (decide (f > (999999984 : Int))) (R (stV s0) b) (BIf (!(NotT.v n == (0 : Int) && (NotT.n n == (0 : Int) && (NotT.r n == (0 : Int) && (NotT.t n == (0 : Int) && true))))) (BIf (decide (NotT.v n > NotT.v (StT.no s0))) (∃ (s7 : Int) (f8 : Int) (z9 : TrT) (e10 : Int), [AV.d (i64 (TrT.sd (StT.tr s0))), AV.d (i64 f)] = [AV.d (i64 s7), AV.d (i64 f8)] ∧ (z9, e10) = newT s7 f8 ∧ R (.agg [AV.d (i64 (NotT.v n)), AV.d (i64 (NotT.n n)), AV.d (u64 (NotT.r n)), AV.d (i64 (NotT.t n)), AV.d (Dv.s (.slice none 0 0)), AV.d (Dv.s (.slice none 0 0)), AV.d (Dv.s (.slice none 0 0)), AV.d (Dv.s (.slice none 0 0)), AV.d (i64 (TrT.iv z9)), AV.d (i64 (TrT.bg z9)), AV.d (i64 (TrT.fi z9)), AV.d (i64 (TrT.ct z9)), AV.d (i64 (TrT.sd z9))]) b) (BIf (decide (NotT.v n < NotT.v (StT.no s0))) (∃ (t11 : TrT) (f12 : Int) (z13 : TrT), [AV.agg (trL (StT.tr s0)), AV.d (i64 f)] = [trV t11, AV.d (i64 f12)] ∧ z13 = AGl9 t11 f12 ∧ R (.agg [AV.d (i64 (NotT.v (StT.no s0))), AV.d (i64 (NotT.n (StT.no s0))), AV.d (u64 (NotT.r (StT.no s0))), AV.d (i64 (NotT.t (StT.no s0))), AV.d (Dv.sl 1 (AAe9 (StT.ps s0))), AV.d (Dv.sl 1 (AAf9 (StT.qs s0))), AV.d (Dv.sl 2 (rowsR (StT.rows s0))), AV.d (Dv.sl 1 (digR (StT.pf s0))), AV.d (i64 (TrT.iv z13)), AV.d (i64 (TrT.bg z13)), AV.d (i64 (TrT.fi z13)), AV.d (i64 (TrT.ct z13)), AV.d (i64 (TrT.sd z13))]) b) (BIf (NotT.v n == NotT.v (StT.no s0) && (NotT.n n == NotT.n (StT.no s0) && (NotT.r n == NotT.r (StT.no s0) && (NotT.t n == NotT.t (StT.no s0) && true)))) (BIf (p != ((List.length (AAe9 (StT.ps s0)) : Nat) : Int)) (∃ (t14 : TrT) (f15 : Int) (z16 : TrT), [AV.agg (trL (StT.tr s0)), AV.d (i64 f)] = [trV t14, AV.d (i64 f15)] ∧ z16 = AGl9 t14 f15 ∧ R (.agg [AV.d (i64 (NotT.v (StT.no s0))), AV.d (i64 (NotT.n (StT.no s0))), AV.d (u64 (NotT.r (StT.no s0))), AV.d (i64 (NotT.t (StT.no s0))), AV.d (Dv.sl 1 (AAe9 (StT.ps s0))), AV.d (Dv.sl 1 (AAf9 (StT.qs s0))), AV.d (Dv.sl 2 (rowsR (StT.rows s0))), AV.d (Dv.sl 1 (digR (StT.pf s0))), AV.d (i64 (TrT.iv z16)), AV.d (i64 (TrT.bg z16)), AV.d (i64 (TrT.fi z16)), AV.d (i64 (TrT.ct z16)), AV.d (i64 (TrT.sd z16))]) b) (BIf (NotT.v n == NotT.v (StT.no s0) && (NotT.n n == NotT.n (StT.no s0) && (NotT.r n == NotT.r (StT.no s0) && (NotT.t n == NotT.t (StT.no s0) && true)))) (∃ (t17 : TrT) (z18 : TrT), [AV.agg (trL (StT.tr s0))] = [trV t17] ∧ z18 = hearT t17 ∧ R (.agg [AV.d (i64 (NotT.v (StT.no s0))), AV.d (i64 (NotT.n (StT.no s0))), AV.d (u64 (NotT.r (StT.no s0))), AV.d (i64 (NotT.t (StT.no s0))), AV.d (Dv.sl 1 (AAe9 (StT.ps s0))), AV.d (Dv.sl 1 (AAf9 (StT.qs s0))), AV.d (Dv.sl 2 (rowsR (StT.rows s0))), AV.d (Dv.sl 1 (digR (StT.pf s0))), AV.d (i64 (TrT.iv z18)), AV.d (i64 (TrT.bg z18)), AV.d (i64 (TrT.fi z18)), AV.d (i64 (TrT.ct z18)), AV.d (i64 (TrT.sd z18))]) b) (R (stV s0) b))) (BIf (NotT.v n == NotT.v (StT.no s0) && (NotT.n n == NotT.n (StT.no s0) && (NotT.r n == NotT.r (StT.no s0) && (NotT.t n == NotT.t (StT.no s0) && true)))) (∃ (t19 : TrT) (z20 : TrT), [AV.agg (trL (StT.tr s0))] = [trV t19] ∧ z20 = hearT t19 ∧ R (.agg [AV.d (i64 (NotT.v (StT.no s0))), AV.d (i64 (NotT.n (StT.no s0))), AV.d (u64 (NotT.r (StT.no s0))), AV.d (i64 (NotT.t (StT.no s0))), AV.d (Dv.sl 1 (AAe9 (StT.ps s0))), AV.d (Dv.sl 1 (AAf9 (StT.qs s0))), AV.d (Dv.sl 2 (rowsR (StT.rows s0))), AV.d (Dv.sl 1 (digR (StT.pf s0))), AV.d (i64 (TrT.iv z20)), AV.d (i64 (TrT.bg z20)), AV.d (i64 (TrT.fi z20)), AV.d (i64 (TrT.ct z20)), AV.d (i64 (TrT.sd z20))]) b) (R (stV s0) b))))) (BIf (decide (NotT.v n > NotT.v (StT.no s0))) (∃ (s21 : Int) (f22 : Int) (z23 : TrT) (e24 : Int), [AV.d (i64 (TrT.sd (StT.tr s0))), AV.d (i64 f)] = [AV.d (i64 s21), AV.d (i64 f22)] ∧ (z23, e24) = newT s21 f22 ∧ R (.agg [AV.d (i64 (NotT.v n)), AV.d (i64 (NotT.n n)), AV.d (u64 (NotT.r n)), AV.d (i64 (NotT.t n)), AV.d (Dv.s (.slice none 0 0)), AV.d (Dv.s (.slice none 0 0)), AV.d (Dv.s (.slice none 0 0)), AV.d (Dv.s (.slice none 0 0)), AV.d (i64 (TrT.iv z23)), AV.d (i64 (TrT.bg z23)), AV.d (i64 (TrT.fi z23)), AV.d (i64 (TrT.ct z23)), AV.d (i64 (TrT.sd z23))]) b) (BIf (decide (NotT.v n < NotT.v (StT.no s0))) (∃ (t25 : TrT) (f26 : Int) (z27 : TrT), [AV.agg (trL (StT.tr s0)), AV.d (i64 f)] = [trV t25, AV.d (i64 f26)] ∧ z27 = AGl9 t25 f26 ∧ R (.agg [AV.d (i64 (NotT.v (StT.no s0))), AV.d (i64 (NotT.n (StT.no s0))), AV.d (u64 (NotT.r (StT.no s0))), AV.d (i64 (NotT.t (StT.no s0))), AV.d (Dv.sl 1 (AAe9 (StT.ps s0))), AV.d (Dv.sl 1 (AAf9 (StT.qs s0))), AV.d (Dv.sl 2 (rowsR (StT.rows s0))), AV.d (Dv.sl 1 (digR (StT.pf s0))), AV.d (i64 (TrT.iv z27)), AV.d (i64 (TrT.bg z27)), AV.d (i64 (TrT.fi z27)), AV.d (i64 (TrT.ct z27)), AV.d (i64 (TrT.sd z27))]) b) (R (stV s0) b))))))))) (BIf (decide (p < (0 : Int))) (R (stV s0) b) (∃ (n28 : NotT) (z29 : Int), [noV n] = [noV n28] ∧ z29 = ABi9 (NotT.n n28) ∧ BIf (decide (p > z29)) (R (stV s0) b) (BIf (decide (f < (0 : Int))) (R (stV s0) b) (BIf (decide (f > (999999984 : Int))) (R (stV s0) b) (BIf (!(NotT.v n == (0 : Int) && (NotT.n n == (0 : Int) && (NotT.r n == (0 : Int) && (NotT.t n == (0 : Int) && true))))) (BIf (decide (NotT.v n > NotT.v (StT.no s0))) (∃ (s30 : Int) (f31 : Int) (z32 : TrT) (e33 : Int), [AV.d (i64 (TrT.sd (StT.tr s0))), AV.d (i64 f)] = [AV.d (i64 s30), AV.d (i64 f31)] ∧ (z32, e33) = newT s30 f31 ∧ R (.agg [AV.d (i64 (NotT.v n)), AV.d (i64 (NotT.n n)), AV.d (u64 (NotT.r n)), AV.d (i64 (NotT.t n)), AV.d (Dv.s (.slice none 0 0)), AV.d (Dv.s (.slice none 0 0)), AV.d (Dv.s (.slice none 0 0)), AV.d (Dv.s (.slice none 0 0)), AV.d (i64 (TrT.iv z32)), AV.d (i64 (TrT.bg z32)), AV.d (i64 (TrT.fi z32)), AV.d (i64 (TrT.ct z32)), AV.d (i64 (TrT.sd z32))]) b) (BIf (decide (NotT.v n < NotT.v (StT.no s0))) (∃ (t34 : TrT) (f35 : Int) (z36 : TrT), [AV.agg (trL (StT.tr s0)), AV.d (i64 f)] = [trV t34, AV.d (i64 f35)] ∧ z36 = AGl9 t34 f35 ∧ R (.agg [AV.d (i64 (NotT.v (StT.no s0))), AV.d (i64 (NotT.n (StT.no s0))), AV.d (u64 (NotT.r (StT.no s0))), AV.d (i64 (NotT.t (StT.no s0))), AV.d (Dv.sl 1 (AAe9 (StT.ps s0))), AV.d (Dv.sl 1 (AAf9 (StT.qs s0))), AV.d (Dv.sl 2 (rowsR (StT.rows s0))), AV.d (Dv.sl 1 (digR (StT.pf s0))), AV.d (i64 (TrT.iv z36)), AV.d (i64 (TrT.bg z36)), AV.d (i64 (TrT.fi z36)), AV.d (i64 (TrT.ct z36)), AV.d (i64 (TrT.sd z36))]) b) (BIf (NotT.v n == NotT.v (StT.no s0) && (NotT.n n == NotT.n (StT.no s0) && (NotT.r n == NotT.r (StT.no s0) && (NotT.t n == NotT.t (StT.no s0) && true)))) (BIf (p != ((List.length (AAe9 (StT.ps s0)) : Nat) : Int)) (∃ (t37 : TrT) (f38 : Int) (z39 : TrT), [AV.agg (trL (StT.tr s0)), AV.d (i64 f)] = [trV t37, AV.d (i64 f38)] ∧ z39 = AGl9 t37 f38 ∧ R (.agg [AV.d (i64 (NotT.v (StT.no s0))), AV.d (i64 (NotT.n (StT.no s0))), AV.d (u64 (NotT.r (StT.no s0))), AV.d (i64 (NotT.t (StT.no s0))), AV.d (Dv.sl 1 (AAe9 (StT.ps s0))), AV.d (Dv.sl 1 (AAf9 (StT.qs s0))), AV.d (Dv.sl 2 (rowsR (StT.rows s0))), AV.d (Dv.sl 1 (digR (StT.pf s0))), AV.d (i64 (TrT.iv z39)), AV.d (i64 (TrT.bg z39)), AV.d (i64 (TrT.fi z39)), AV.d (i64 (TrT.ct z39)), AV.d (i64 (TrT.sd z39))]) b) (BIf (NotT.v n == NotT.v (StT.no s0) && (NotT.n n == NotT.n (StT.no s0) && (NotT.r n == NotT.r (StT.no s0) && (NotT.t n == NotT.t (StT.no s0) && true)))) (∃ (t40 : TrT) (z41 : TrT), [AV.agg (trL (StT.tr s0))] = [trV t40] ∧ z41 = hearT t40 ∧ R (.agg [AV.d (i64 (NotT.v (StT.no s0))), AV.d (i64 (NotT.n (StT.no s0))), AV.d (u64 (NotT.r (StT.no s0))), AV.d (i64 (NotT.t (StT.no s0))), AV.d (Dv.sl 1 (AAe9 (StT.ps s0))), AV.d (Dv.sl 1 (AAf9 (StT.qs s0))), AV.d (Dv.sl 2 (rowsR (StT.rows s0))), AV.d (Dv.sl 1 (digR (StT.pf s0))), AV.d (i64 (TrT.iv z41)), AV.d (i64 (TrT.bg z41)), AV.d (i64 (TrT.fi z41)), AV.d (i64 (TrT.ct z41)), AV.d (i64 (TrT.sd z41))]) b) (R (stV s0) b))) (BIf (NotT.v n == NotT.v (StT.no s0) && (NotT.n n == NotT.n (StT.no s0) && (NotT.r n == NotT.r (StT.no s0) && (NotT.t n == NotT.t (StT.no s0) && true)))) (∃ (t42 : TrT) (z43 : TrT), [AV.agg (trL (StT.tr s0))] = [trV t42] ∧ z43 = hearT t42 ∧ R (.agg [AV.d (i64 (NotT.v (StT.no s0))), AV.d (i64 (NotT.n (StT.no s0))), AV.d (u64 (NotT.r (StT.no s0))), AV.d (i64 (NotT.t (StT.no s0))), AV.d (Dv.sl 1 (AAe9 (StT.ps s0))), AV.d (Dv.sl 1 (AAf9 (StT.qs s0))), AV.d (Dv.sl 2 (rowsR (StT.rows s0))), AV.d (Dv.sl 1 (digR (StT.pf s0))), AV.d (i64 (TrT.iv z43)), AV.d (i64 (TrT.bg z43)), AV.d (i64 (TrT.fi z43)), AV.d (i64 (TrT.ct z43)), AV.d (i64 (TrT.sd z43))]) b) (R (stV s0) b))))) (BIf (decide (NotT.v n > NotT.v (StT.no s0))) (∃ (s44 : Int) (f45 : Int) (z46 : TrT) (e47 : Int), [AV.d (i64 (TrT.sd (StT.tr s0))), AV.d (i64 f)] = [AV.d (i64 s44), AV.d (i64 f45)] ∧ (z46, e47) = newT s44 f45 ∧ R (.agg [AV.d (i64 (NotT.v n)), AV.d (i64 (NotT.n n)), AV.d (u64 (NotT.r n)), AV.d (i64 (NotT.t n)), AV.d (Dv.s (.slice none 0 0)), AV.d (Dv.s (.slice none 0 0)), AV.d (Dv.s (.slice none 0 0)), AV.d (Dv.s (.slice none 0 0)), AV.d (i64 (TrT.iv z46)), AV.d (i64 (TrT.bg z46)), AV.d (i64 (TrT.fi z46)), AV.d (i64 (TrT.ct z46)), AV.d (i64 (TrT.sd z46))]) b) (BIf (decide (NotT.v n < NotT.v (StT.no s0))) (∃ (t48 : TrT) (f49 : Int) (z50 : TrT), [AV.agg (trL (StT.tr s0)), AV.d (i64 f)] = [trV t48, AV.d (i64 f49)] ∧ z50 = AGl9 t48 f49 ∧ R (.agg [AV.d (i64 (NotT.v (StT.no s0))), AV.d (i64 (NotT.n (StT.no s0))), AV.d (u64 (NotT.r (StT.no s0))), AV.d (i64 (NotT.t (StT.no s0))), AV.d (Dv.sl 1 (AAe9 (StT.ps s0))), AV.d (Dv.sl 1 (AAf9 (StT.qs s0))), AV.d (Dv.sl 2 (rowsR (StT.rows s0))), AV.d (Dv.sl 1 (digR (StT.pf s0))), AV.d (i64 (TrT.iv z50)), AV.d (i64 (TrT.bg z50)), AV.d (i64 (TrT.fi z50)), AV.d (i64 (TrT.ct z50)), AV.d (i64 (TrT.sd z50))]) b) (R (stV s0) b)))))))))) := by kernel_rfl
end
def eqN (a c : NotT) : Bool := a.v == c.v && (a.n == c.n && (a.r == c.r && a.t == c.t))
theorem BJb9 {a c : NotT} : eqN a c = true ↔ a = c := by
 obtain ⟨a1, a2, a3, a4⟩ := a
 obtain ⟨c1, c2, c3, c4⟩ := c
 simp [eqN]
def AGm9 (s : StT) (n : NotT) (p f : Int) : Bool := ACt9 s && (zeroN n || AAm9 n.v n.n n.t) && decide (0 ≤ p) && decide (p ≤ ABi9 n.n) && ACh9 f
def ACn9 (s : StT) (t : TrT) : StT := ⟨s.no, s.ps, s.qs, s.rows, s.pf, t⟩
def hearS (s : StT) (n : NotT) (p f : Int) : StT :=
 if AGm9 s n p f = false then s else if n.v > s.no.v then ⟨n, [], [], [], [], (newT s.tr.sd f).1⟩
 else if n.v < s.no.v then ACn9 s (AGl9 s.tr f) else if (!zeroN n && eqN n s.no) = true then (if p ≠ s.ps.length then ACn9 s (AGl9 s.tr f) else ACn9 s (hearT s.tr)) else s
theorem BRy9 (s : StT) (n : NotT) (p f : Int) (hs : ABb9 s) : PCall Tryz.prog 21 [stV s, noV n, .d (i64 p), .d (i64 f)] (stV (hearS s n p f)) := by
 refine PCall.ofFnV (n := 100) (u := false) (fun _ => wlNo _) mixed THr_ok SHr_ok (fun Ev => AGp9 Ev) Tryz.func21 (by rfl) (by rfl) fun Ev bb => ?_
 rw [BLk9]
 refine ⟨s, rfl, hs, s, _, rfl, ⟨hs, rfl⟩, ?_⟩
 have hz : (NotT.v n == (0 : Int) && (NotT.n n == (0 : Int) && (NotT.r n == (0 : Int) && (NotT.t n == (0 : Int) && true)))) = zeroN n := by simp only [zeroN, Bool.and_true]
 have he : (NotT.v n == NotT.v (StT.no s) && (NotT.n n == NotT.n (StT.no s) && (NotT.r n == NotT.r (StT.no s) && (NotT.t n == NotT.t (StT.no s) && true)))) = eqN n s.no := by simp only [eqN, Bool.and_true]
 rw [hz, he, AAh9]
 have bad : AGm9 s n p f = false → LeV (stV s) (stV (hearS s n p f)) := fun h => by rw [hearS, if_pos h]; exact .rfl
 have bV : (!ACt9 s) = true → LeV (stV s) (stV (hearS s n p f)) := fun h => bad (by rw [AGm9, nbt h]; rfl)
 have bP : decide (p < 0) = true → LeV (stV s) (stV (hearS s n p f)) := fun h => bad (by rw [AGm9, decide_eq_false (p := 0 ≤ p) (by have := of_decide_eq_true h; omega)]; simp)
 have bC : decide (p > ABi9 n.n) = true → LeV (stV s) (stV (hearS s n p f)) := fun h => bad (by rw [AGm9, decide_eq_false (p := p ≤ ABi9 n.n) (by have := of_decide_eq_true h; omega)]; simp)
 have bF0 : decide (f < 0) = true → LeV (stV s) (stV (hearS s n p f)) := fun h => bad (by rw [AGm9, show ACh9 f = false from Bool.eq_false_iff.2 fun h' => by have := ADo9.1 h'; have := of_decide_eq_true h; omega]; simp)
 have bF1 : decide (f > 999999984) = true → LeV (stV s) (stV (hearS s n p f)) := fun h => bad (by rw [AGm9, show ACh9 f = false from Bool.eq_false_iff.2 fun h' => by have := ADo9.1 h'; have := of_decide_eq_true h; omega]; simp)
 have good : (!ACt9 s) = false → (zeroN n || AAm9 n.v n.n n.t) = true → decide (p < 0) = false → decide (p > ABi9 n.n) = false → decide (f < 0) = false → decide (f > 999999984) = false → ¬ AGm9 s n p f = false := by
   intro h1 h2 h3 h4 h5 h6
   have h3 := of_decide_eq_false h3
   have h4 := of_decide_eq_false h4
   have h5 := of_decide_eq_false h5
   have h6 := of_decide_eq_false h6
   rw [AGm9, nbf h1, h2, decide_eq_true (p := 0 ≤ p) (by omega), decide_eq_true (p := p ≤ ABi9 n.n) (by omega), show ACh9 f = true from ADo9.2 (by omega)]
   decide
 have newer : ¬ AGm9 s n p f = false → decide (n.v > s.no.v) = true → LeV (AV.agg [AV.d (i64 n.v), AV.d (i64 n.n), AV.d (u64 n.r), AV.d (i64 n.t), AV.d (Dv.s (Value.slice none 0 0)), AV.d (Dv.s (Value.slice none 0 0)), AV.d (Dv.s (Value.slice none 0 0)), AV.d (Dv.s (Value.slice none 0 0)), AV.d (i64 (newT s.tr.sd f).1.iv), AV.d (i64 (newT s.tr.sd f).1.bg), AV.d (i64 (newT s.tr.sd f).1.fi), AV.d (i64 (newT s.tr.sd f).1.ct), AV.d (i64 (newT s.tr.sd f).1.sd)]) (stV (hearS s n p f)) := by
   intro h1 h2
   rw [hearS, if_neg h1, if_pos (of_decide_eq_true h2)]
   exact LeV.aggs (.cons .rfl (.cons .rfl (.cons .rfl (.cons .rfl (.cons (.nil rfl) (.cons (.nil rfl) (.cons (.nil rfl) (.cons (.nil rfl) (LeVs.refl _)))))))))
 have older : ¬ AGm9 s n p f = false → decide (n.v > s.no.v) = false → decide (n.v < s.no.v) = true → hearS s n p f = ACn9 s (AGl9 s.tr f) := by
   intro h1 h2 h3
   rw [hearS, if_neg h1, if_neg (of_decide_eq_false h2), if_pos (of_decide_eq_true h3)]
 have rest : ¬ AGm9 s n p f = false → decide (n.v > s.no.v) = false → decide (n.v < s.no.v) = false → hearS s n p f = if (!zeroN n && eqN n s.no) = true then (if p ≠ s.ps.length then ACn9 s (AGl9 s.tr f) else ACn9 s (hearT s.tr)) else s := by
   intro h1 h2 h3
   rw [hearS, if_neg h1, if_neg (of_decide_eq_false h2), if_neg (of_decide_eq_false h3)]
 cases hzz : zeroN n <;> cases hee : eqN n s.no <;> simp only [Bool.not_true, Bool.not_false, BPo9, BHs9] <;> simp only [hzz, hee] at good rest
 · refine BIf.of bV fun g1 => ⟨n, _, rfl, rfl, BIf.of (fun h => bad (by rw [AGm9, hzz, nbt h]; simp)) fun g2 => BIf.of bP fun g3 => ⟨n, _, rfl, rfl, BIf.of bC fun g4 => BIf.of bF0 fun g5 => BIf.of bF1 fun g6 => ?_⟩⟩
   have g := good g1 (by rw [nbf g2]; rfl) g3 g4 g5 g6
   refine BIf.of (fun h => ⟨_, _, _, _, rfl, rfl, newer g h⟩) fun g7 => BIf.of (fun h => ⟨s.tr, _, _, rfl, rfl, ?_⟩) fun g8 => ?_
   · rw [older g g7 h]; exact .rfl
   · rw [rest g g7 g8]; exact .rfl
 · refine BIf.of bV fun g1 => ⟨n, _, rfl, rfl, BIf.of (fun h => bad (by rw [AGm9, hzz, nbt h]; simp)) fun g2 => BIf.of bP fun g3 => ⟨n, _, rfl, rfl, BIf.of bC fun g4 => BIf.of bF0 fun g5 => BIf.of bF1 fun g6 => ?_⟩⟩
   have g := good g1 (by rw [nbf g2]; rfl) g3 g4 g5 g6
   refine BIf.of (fun h => ⟨_, _, _, _, rfl, rfl, newer g h⟩) fun g7 => BIf.of (fun h => ⟨s.tr, _, _, rfl, rfl, ?_⟩) fun g8 => BIf.of (fun h => ⟨s.tr, _, _, rfl, rfl, ?_⟩) fun h => ⟨s.tr, _, rfl, rfl, ?_⟩
   · rw [older g g7 h]; exact .rfl
   · rw [rest g g7 g8, if_pos (c := (!false && true) = true) rfl, if_pos (by simpa using h)]; exact .rfl
   · rw [rest g g7 g8, if_pos (c := (!false && true) = true) rfl, if_neg (by simpa using h)]; exact .rfl
 · refine BIf.of bV fun g1 => BIf.of bP fun g3 => ⟨n, _, rfl, rfl, BIf.of bC fun g4 => BIf.of bF0 fun g5 => BIf.of bF1 fun g6 => ?_⟩
   have g := good g1 rfl g3 g4 g5 g6
   refine BIf.of (fun h => ⟨_, _, _, _, rfl, rfl, newer g h⟩) fun g7 => BIf.of (fun h => ⟨s.tr, _, _, rfl, rfl, ?_⟩) fun g8 => ?_
   · rw [older g g7 h]; exact .rfl
   · rw [rest g g7 g8]; exact .rfl
 · refine BIf.of bV fun g1 => BIf.of bP fun g3 => ⟨n, _, rfl, rfl, BIf.of bC fun g4 => BIf.of bF0 fun g5 => BIf.of bF1 fun g6 => ?_⟩
   have g := good g1 rfl g3 g4 g5 g6
   refine BIf.of (fun h => ⟨_, _, _, _, rfl, rfl, newer g h⟩) fun g7 => BIf.of (fun h => ⟨s.tr, _, _, rfl, rfl, ?_⟩) fun g8 => ?_
   · rw [older g g7 h]; exact .rfl
   · rw [rest g g7 g8]; exact .rfl
def BOi9 (args : List AV) (K : AV → Prop) : Prop := ∃ (s : StT) (n : NotT) (p f : Int) (z : StT), args = [stV s, noV n, .d (i64 p), .d (i64 f)] ∧ (ABb9 s ∧ z = hearS s n p f) ∧ K (stV z)
theorem AUy9 : ∀ args K, BOi9 args K → ∃ x, PCall Tryz.prog 21 args x ∧ K x := by
 rintro _ K ⟨s, n, p, f, _, rfl, ⟨h1, rfl⟩, h⟩; exact ⟨_, BRy9 s n p f h1, h⟩
structure NearT where
 x0 : Int
 x1 : Int
 x2 : Int
 x3 : Int
 x4 : Int
 x5 : Int
 x6 : Int
 x7 : Int
 x8 : Int
 x9 : Int
 x10 : Int
 x11 : Int
 s12 : List (List Dv)
 s13 : List (List Dv)
 s14 : List (List Dv)
 s15 : List (List Dv)
 b16 : Bool
 s17 : List (List Dv)
 s18 : List (List Dv)
 s19 : List (List Dv)
 no : NotT
 pg : Int
 x25 : Int
 x26 : Int
 x27 : Int
 s28 : List (List Dv)
 s29 : List (List Dv)
 b30 : Bool
def nearD (x : NearT) : List Dv := [i64 x.x0, i64 x.x1, i64 x.x2, i64 x.x3, i64 x.x4, i64 x.x5, i64 x.x6, i64 x.x7, i64 x.x8, i64 x.x9, i64 x.x10, i64 x.x11, .sl 4 x.s12, .sl 5 x.s13, .sl 3 x.s14, .sl 4 x.s15, bo x.b16, .sl 8 x.s17, .sl 8 x.s18, .sl 1 x.s19, i64 x.no.v, i64 x.no.n, u64 x.no.r, i64 x.no.t, i64 x.pg, i64 x.x25, i64 x.x26, i64 x.x27, .sl 1 x.s28, .sl 1 x.s29, bo x.b30]
def nearR (l : List NearT) : List (List Dv) := l.map nearD
theorem BFe9 (l : List NearT) : (nearR l).length = l.length := by simp [nearR]
def tmLk (s : StT) (near : List (List Dv)) (n i : Int) : List AV := [.yl, .rptr [.sl 31 near], .rptr [.pt (stD s)], .bad, .bad, .bad, .d (.sl 31 near), .d (i64 n), .d (i64 i)] ++ List.replicate 21 .bad
noncomputable def lpLk : Code := sub [1, 2, 3] (code Tryz.f137)
section
variable {β : Type} (wl : WLT β) (y : AAg9 β) (b : β) (R : AV → β → Prop) (RS : AV → List Blk → β → Prop) (K : Exit → List AV → List Blk → β → Prop)
theorem BAu9 (s : StT) (near : List (List Dv)) : wpFn Tryz.prog ⟨[], [], wl, y, false⟩ 100 Tryz.f64 [.rptr (stD s), .d (.sl 31 near)] b R = ( R (AV.fn (Fn.func 137) [] [AV.rptr [Dv.sl 31 near], AV.rptr [Dv.pt (stD s)]]) b) := by kernel_rfl
theorem rLk (s : StT) (near : List (List Dv)) (n i : Int) : wpc Tryz.prog ⟨[], [], wl, y, false⟩ 100 lpLk (tmLk s near n i) [] b (maskK 0 [0, 1, 2, 6, 7, 8] K) = ( BIf (decide (i < n)) (BIf (true && decide ((0 : Int) ≤ i)) (∃ (x0 : Int) (x1 : Int) (x2 : Int) (x3 : Int) (x4 : Int) (x5 : Int) (x6 : Int) (x7 : Int) (x8 : Int) (x9 : Int) (x10 : Int) (x11 : Int) (xs12 : List (List Dv)) (xs13 : List (List Dv)) (xs14 : List (List Dv)) (xs15 : List (List Dv)) (b16 : Bool) (xs17 : List (List Dv)) (xs18 : List (List Dv)) (xs19 : List (List Dv)) (x20 : Int) (x21 : Int) (x22 : Int) (x23 : Int) (x24 : Int) (x25 : Int) (x26 : Int) (x27 : Int) (xs28 : List (List Dv)) (xs29 : List (List Dv)) (b30 : Bool), near[Int.toNat i]? = some [i64 x0, i64 x1, i64 x2, i64 x3, i64 x4, i64 x5, i64 x6, i64 x7, i64 x8, i64 x9, i64 x10, i64 x11, Dv.sl 4 xs12, Dv.sl 5 xs13, Dv.sl 3 xs14, Dv.sl 4 xs15, bo b16, Dv.sl 8 xs17, Dv.sl 8 xs18, Dv.sl 1 xs19, i64 x20, i64 x21, u64 x22, i64 x23, i64 x24, i64 x25, i64 x26, i64 x27, Dv.sl 1 xs28, Dv.sl 1 xs29, bo b30] ∧ BIf (x20 == NotT.v (StT.no s) && (x21 == NotT.n (StT.no s) && (x22 == NotT.r (StT.no s) && (x23 == NotT.t (StT.no s) && true)))) (y b [AV.d (i64 x24)] fun (cont33 : Bool) (b34 : β) => BIf (!cont33) (K .ret [AV.yl, AV.rptr [Dv.sl 31 near], AV.rptr [Dv.pt (stD s)], bad, bad, bad, AV.d (Dv.sl 31 near), AV.d (i64 n), AV.d (i64 i), bad, bad, bad, bad, bad, bad, bad, bad, bad, bad, bad, bad, bad, bad, bad, bad, bad, bad, bad, bad, bad] [] b34) (K .normal [AV.yl, AV.rptr [Dv.sl 31 near], AV.rptr [Dv.pt (stD s)], bad, bad, bad, AV.d (Dv.sl 31 near), AV.d (i64 n), AV.d (i64 (IntKind.wrap .i64 (i + (1 : Int)))), bad, bad, bad, bad, bad, bad, bad, bad, bad, bad, bad, bad, bad, bad, bad, bad, bad, bad, bad, bad, bad] [] b34)) (K .normal [AV.yl, AV.rptr [Dv.sl 31 near], AV.rptr [Dv.pt (stD s)], bad, bad, bad, AV.d (Dv.sl 31 near), AV.d (i64 n), AV.d (i64 (IntKind.wrap .i64 (i + (1 : Int)))), bad, bad, bad, bad, bad, bad, bad, bad, bad, bad, bad, bad, bad, bad, bad, bad, bad, bad, bad, bad, bad] [] b)) False) (K (Exit.exit 0) [AV.yl, AV.rptr [Dv.sl 31 near], AV.rptr [Dv.pt (stD s)], bad, bad, bad, AV.d (Dv.sl 31 near), AV.d (i64 n), AV.d (i64 i), bad, bad, bad, bad, bad, bad, bad, bad, bad, bad, bad, bad, bad, bad, bad, bad, bad, bad, bad, bad, bad] [] b)) := by kernel_rfl
end
theorem BSs9 {l rest : List NearT} {x : NearT} {k : Nat} (hd : l.drop k = x :: rest) : (nearR l)[k]? = some (nearD x) := by
 obtain ⟨h1, h2, _⟩ := ABv9 hd
 simp [nearR, h2]
def lackL (s : StT) (l : List NearT) : List (List AV) := (l.filter fun x => eqN x.no s.no).map fun x => [.d (i64 x.pg)]
theorem wrLk {Ev : Env Tryz.prog} {Q : Exit → St Ev.β → Prop} (s : StT) (l : List NearT) (hl : l.length ≤ 1000000) : ∀ (rest : List NearT) (k : Nat) (b : Ev.β), l.drop k = rest →
   YList Ev.Y (lackL s rest) b (fun b' => ∀ i : Int, Q (.exit 0) ⟨tmLk s (nearR l) l.length i, [], b'⟩ ∧ Q .ret ⟨tmLk s (nearR l) l.length i, [], b'⟩) → WR Ev lpLk (rest.length + 1) ⟨tmLk s (nearR l) l.length k, [], b⟩ Q
 | [], k, b, hd, h => by
   have hk := ADn9 hd
   refine WR.ofMask [0, 1, 2, 6, 7, 8] mixed (CX.Ok.of (u := false) AAa9.nil AAb9.nil) (k := 100) ?_
   refine Eq.mpr (rLk _ _ _ _ s (nearR l) l.length k) ?_
   refine BIf.f (by simp; omega) ?_
   exact (h k).1
 | x :: rest, k, b, hd, h => by
   obtain ⟨hk, h2, hd'⟩ := ABv9 hd
   refine WR.ofMask [0, 1, 2, 6, 7, 8] mixed (CX.Ok.of (u := false) AAa9.nil AAb9.nil) (k := 100) ?_
   refine Eq.mpr (rLk _ _ _ _ s (nearR l) l.length k) ?_
   have e1 : IntKind.wrap IntKind.i64 ((k : Int) + 1) = ((k + 1 : Nat) : Int) := wrapN (by omega)
   rw [e1, Int.toNat_natCast]
   refine BIf.t (by simp; omega) (BIf.t (by simp) ⟨x.x0, x.x1, x.x2, x.x3, x.x4, x.x5, x.x6, x.x7, x.x8, x.x9, x.x10, x.x11, x.s12, x.s13, x.s14, x.s15, x.b16, x.s17, x.s18, x.s19, x.no.v, x.no.n, x.no.r, x.no.t, x.pg, x.x25, x.x26, x.x27, x.s28, x.s29, x.b30, BSs9 hd, ?_⟩)
   have he : (x.no.v == s.no.v && (x.no.n == s.no.n && (x.no.r == s.no.r && (x.no.t == s.no.t && true)))) = eqN x.no s.no := by simp only [eqN, Bool.and_true]
   rw [he]
   refine BIf.of (fun g => ?_) fun g => ?_
   · have hL : lackL s (x :: rest) = [.d (i64 x.pg)] :: lackL s rest := by simp [lackL, g]
     rw [hL] at h
     refine Ev.Ymono h fun c b' h => ?_
     cases c with
     | true => exact BIf.f rfl (wrLk s l hl rest (k + 1) b' hd' h)
     | false => exact BIf.t rfl (h _).2
   · have hL : lackL s (x :: rest) = lackL s rest := by simp [lackL, g]
     rw [hL] at h
     exact wrLk s l hl rest (k + 1) b hd' h
def wlLk {β : Type} (Y : AAg9 β) : WLT β := fun c tm hp b K => ∃ (s : StT) (l : List NearT), c = .loop lpLk ∧ ABc9 [0, 1, 2, 6, 7, 8] 0 tm = tmLk s (nearR l) (nearR l).length 0 ∧ hp = [] ∧ l.length ≤ 1000000 ∧ YList Y (lackL s l) b (fun b' => ∀ i : Int, K (.exit 0) (tmLk s (nearR l) l.length i) [] b' ∧ K .ret (tmLk s (nearR l) l.length i) [] b')
theorem BPz9 {Ev : Env Tryz.prog} (c : Code) (tm : List AV) (hp : List Blk) (b : Ev.β) (K : Exit → List AV → List Blk → Ev.β → Prop) (h : wlLk Ev.Y c tm hp b K) : W Ev c ⟨tm, hp, b⟩ (fun e s => K e s.tm s.hp s.b) := by
 obtain ⟨s, l, rfl, htm, rfl, hl, hK⟩ := h
 rw [BFe9] at htm
 refine W.cast (htm ▸ AAk9 _ tm 0) (LeH.refl _) ?_
 exact W.rounds (wrLk (Q := fun e s => K e s.tm s.hp s.b) s l hl l 0 b rfl hK)
section
variable {β : Type} (wl : WLT β) (y : AAg9 β) (b : β) (R : AV → β → Prop) (Q : β → Prop)
theorem lk_nf (s : StT) (near : List (List Dv)) : wpc Tryz.prog ⟨[], [], wlLk y, y, false⟩ 100 (code Tryz.f137) (AAt9 Tryz.f137 [.yl, .rptr [.sl 31 near], .rptr [.pt (stD s)]]) [] b (fnK Tryz.prog Tryz.f137 fun _ b => Q b) = (
 ∃ (s0 : StT) (l1 : List NearT), Code.loop lpLk = .loop lpLk ∧ tmLk s near near.length 0 = tmLk s0 (nearR l1) (nearR l1).length 0 ∧ ([] : List Blk) = [] ∧ l1.length ≤ 1000000 ∧ YList y (lackL s0 l1) b fun b' => ∀ _ : Int, Q b' ∧ Q b') := by kernel_rfl
end
theorem icLk (s : StT) (l : List NearT) (hl : l.length ≤ 1000000) : ICall Tryz.prog 137 [.yl, .rptr [.sl 31 (nearR l)], .rptr [.pt (stD s)]] (fun Y b Q => YList Y (lackL s l) b Q) := by
 refine ICall.ofW (c := code Tryz.f137) Tryz.func137 (by rfl) (by rfl) fun Ev b Q h => ?_
 have h1 : wpc Tryz.prog ⟨[], [], wlLk Ev.Y, Ev.Y, false⟩ 100 (code Tryz.f137) (AAt9 Tryz.f137 [.yl, .rptr [.sl 31 (nearR l)], .rptr [.pt (stD s)]]) [] b (fnK Tryz.prog Tryz.f137 fun _ b => Q b) := by
   rw [lk_nf]
   exact ⟨s, l, rfl, rfl, rfl, hl, YList.mono (fun b h _ => ⟨h, h⟩) _ _ h⟩
 refine AAp9 mixed (CX.Ok.ofWl AAa9.nil AAb9.nil BPz9) h1 fun e tm hp b hK => ?_
 obtain ⟨g1, ys, g2, z, g3, g4⟩ := ACf9 hK
 exact ⟨g1, ys, g2, g4⟩
theorem BEt9 (s : StT) (near : List (List Dv)) : PCall Tryz.prog 64 [.rptr (stD s), .d (.sl 31 near)] (.fn (.func 137) [] [.rptr [.sl 31 near], .rptr [.pt (stD s)]]) := by
 refine PCall.ofFn (n := 100) (u := false) mixed AAa9.nil AAb9.nil Tryz.func64 (by rfl) (by rfl) fun Ev bb => ?_
 rw [BAu9]
def BCj9 (args : List AV) (K : AV → Prop) : Prop := ∃ (s : StT) (near : List (List Dv)), args = [.rptr (stD s), .d (.sl 31 near)] ∧ K (.fn (.func 137) [] [.rptr [.sl 31 near], .rptr [.pt (stD s)]])
theorem AWv9 : ∀ args K, BCj9 args K → ∃ x, PCall Tryz.prog 64 args x ∧ K x := by
 rintro _ K ⟨s, l, rfl, h⟩; exact ⟨_, BEt9 s l, h⟩
def cEncB (args : List AV) (K : AV → Prop) : Prop := ∃ (p : List Int) (n s : Int) (d : List Int), args = [.d (.sl 1 (AAd9 p)), .d (i64 n), .d (i64 s)] ∧ (encOk p n s = true ∧ d = encS p s) ∧ K (.tup [.agg [.d (i64 n), .d (i64 s), .d (.sl 1 (AAd9 d)), nilV], .d (i64 0)])
theorem ASp9 : ∀ args K, cEncB args K → ∃ x, PCall Tryz.prog 34 args x ∧ K x := by
 rintro _ K ⟨p, n, s, d, rfl, ⟨h1, rfl⟩, h⟩
 have := BMq9 p n s
 rw [encA, if_pos h1] at this
 exact ⟨_, this, h⟩
def TSv : List (Nat × (List AV → (AV → Prop) → Prop)) := [(63, cTTick), (64, BCj9), (34, cEncB), (51, ALg9)]
theorem TSv_ok : AAa9 Tryz.prog TSv := AAa9.cons BGu9 (AAa9.cons AWv9 (AAa9.cons ASp9 (AAa9.cons AGk9 AAa9.nil)))
def SSv : List (Nat × (List AV → List Blk → (AV → List Blk → Prop) → Prop)) := [(47, ATm9), (61, lendC AUx9), (62, lendC AUz9)]
theorem SSv_ok : AAb9 Tryz.prog SSv := AAb9.cons AKe9 (AAb9.cons (AOd9 ALc9) (AAb9.cons (AOd9 ALe9) AAb9.nil))
noncomputable def rfSv : Code := sub [1, 1, 1, 1, 1, 1, 0, 1, 2] (code Tryz.f17)
theorem AYr9 : rfSv = .rangeFunc (.tmp 61) #[62] (AAo9 rfSv) (ABk9 rfSv) := by kernel_rfl
def tmSv (s : StT) (near : List (List Dv)) (f : Int) (e : Bool) : List AV := [.bad, .bad, .d (i64 f), .ptr 0 0, .bad, .bad, .ptr 1 0, .ptr 2 0, .d (bo false), .ptr 5 0, .ptr 6 0, .d (bo e), .ptr 7 0] ++ List.replicate 48 .bad ++ [.fn (.func 137) [] [.rptr [.sl 31 near], .rptr [.pt (stD s)]]] ++ List.replicate 60 .bad
def nil0 : AV := .d (.s (.slice none 0 0))
def zB13 : Blk := ⟨[.d (i64 0), .d (i64 0), .d (u64 0), .d (i64 0), nil0, nil0, nil0, nil0, .d (i64 0), .d (i64 0), .d (i64 0), .d (i64 0), .d (i64 0)], false, false, 0⟩
def zB4 : Blk := ⟨[.d (i64 0), .d (i64 0), nil0, nil0], false, false, 0⟩
def hpSv (s : StT) (t : TrT) (p : Int) : List Blk := [stB s, zB13, zB4, stB s, outC s (.own 33 1 (AAe9 s.ps)) (.own 28 1 (AAf9 s.qs)) (.own 71 2 (rowsR s.rows)), ⟨stL (ACn9 s t), true, false, 0⟩, trB t, ⟨[.d (i64 p)], false, false, 0⟩]
def minS (p x : Int) : Int := if x < p then x else p
section
variable {β : Type} (wl : WLT β) (y : AAg9 β) (b : β) (R : AV → β → Prop) (Kh : Exit → List Blk → β → Prop)
theorem BLd9 (s s1 : StT) (t : TrT) (near : List (List Dv)) (f p x : Int) (e : Bool) : wpcY Tryz.prog ⟨TSv, SSv, wl, y, false⟩ 100 #[62] (AAo9 rfSv) (ABk9 rfSv) (tmSv s1 near f e) [.d (i64 x)] (hpSv s t p) b (takeK 8 Kh) = (
 ∃ z : Int, z = minS p x ∧ Kh .normal (hpSv s t z) b) := by kernel_rfl
end
def AHo9 (l : List Int) (p : Int) : Int := l.foldl minS p
def lackP (s : StT) (l : List NearT) : List Int := (l.filter fun x => eqN x.no s.no).map (·.pg)
theorem BNk9 (s : StT) (l : List NearT) : lackL s l = (lackP s l).map fun p => [.d (i64 p)] := by simp [lackL, lackP]
theorem BIg9 {Ev : Env Tryz.prog} {b : Ev.β} {Q : Exit → St Ev.β → Prop} (s s1 : StT) (t : TrT) (near : List (List Dv)) (f : Int) (e : Bool) : ∀ (l : List Int) (p : Int),
   Q .normal ⟨tmSv s1 near f e, hpSv s t (AHo9 l p), b⟩ →
   YList (YBody Ev (tmSv s1 near f e) #[62] (AAo9 rfSv) (ABk9 rfSv) 8) (l.map fun p => [.d (i64 p)]) (hpSv s t p, b, none) (ADe9 (tmSv s1 near f e) Q)
 | [], p, h => h
 | x :: l, p, h => by
   refine YList.step (X := ⟨TSv, SSv, wlW Ev, Ev.Y, false⟩) (k := 100) mixed (CX.Ok.of TSv_ok SSv_ok) rfl ?_
   show wpcY _ _ _ _ _ _ _ [.d (i64 _)] (hpSv _ _ _) b (takeK 8 _)
   rw [BLd9]
   exact ⟨_, rfl, BIg9 s s1 t near f e l (minS p x) h⟩
def wlSv {β : Type} : WLT β := fun c tm hp b K => ∃ (s : StT) (t : TrT) (l : List NearT) (f p : Int) (e : Bool) (z : Int), c = rfSv ∧ ABc9 [2, 3, 6, 7, 8, 9, 10, 11, 12, 61] 0 tm = tmSv (ACn9 s t) (nearR l) f e ∧ hp = hpSv s t p ∧ (l.length ≤ 1000000 ∧ z = AHo9 (lackP (ACn9 s t) l) p) ∧
 K .normal (tmSv (ACn9 s t) (nearR l) f e) (hpSv s t z) b
theorem BPu9 {Ev : Env Tryz.prog} (c : Code) (tm : List AV) (hp : List Blk) (b : Ev.β) (K : Exit → List AV → List Blk → Ev.β → Prop) (h : wlSv c tm hp b K) : W Ev c ⟨tm, hp, b⟩ (fun e s => K e s.tm s.hp s.b) := by
 obtain ⟨s, t, l, f, p, e, z, rfl, htm, rfl, ⟨hl, rfl⟩, hK⟩ := h
 refine W.cast (htm ▸ AAk9 [2, 3, 6, 7, 8, 9, 10, 11, 12, 61] tm 0) (LeH.refl _) ?_
 rw [AYr9]
 refine W.range (s := ⟨tmSv (ACn9 s t) (nearR l) f e, _, b⟩) (k := 137) (first := []) (caps := [.rptr [.sl 31 (nearR l)], .rptr [.pt (stD (ACn9 s t))]]) rfl rfl rfl (icLk (ACn9 s t) l hl) ?_
 rw [BNk9]
 exact BIg9 s (ACn9 s t) t (nearR l) f e _ p hK
section
variable {β : Type} (wl : WLT β) (y : AAg9 β) (b : β) (R : AV → β → Prop) (Kh : Exit → List Blk → β → Prop)
theorem BDt9 (s : StT) (near : List (List Dv)) (f : Int) : wpFn Tryz.prog ⟨TSv, SSv, wlSv, y, false⟩ 100 Tryz.f17 [stV s, .d (.sl 31 near), .d (i64 f)] b R = ( ∃ (s0 : StT), [stV s] = [stV s0] ∧ (ABb9 s0) ∧ ∃ (s1 : StT) (z2 : Bool), [AV.rptr (stD s0)] = [AV.rptr (stD s1)] ∧ ((ABb9 s1) ∧ z2 = ACt9 s1) ∧ BIf (!z2) (R (.tup [stV s0, AV.agg [AV.d (i64 0), AV.d (i64 0), AV.d (Dv.s (.slice none 0 0)), AV.d (Dv.s (.slice none 0 0))], AV.d (bo false)]) b) (∃ (s3 : StT) (z4 : Bool), [AV.rptr (stD s0)] = [AV.rptr (stD s3)] ∧ ((ABb9 s3) ∧ z4 = AGn9 s3) ∧ BIf z4 (R (.tup [stV s0, AV.agg [AV.d (i64 0), AV.d (i64 0), AV.d (Dv.s (.slice none 0 0)), AV.d (Dv.s (.slice none 0 0))], AV.d (bo false)]) b) (BIf (decide (f < (0 : Int))) (R (.tup [stV s0, AV.agg [AV.d (i64 0), AV.d (i64 0), AV.d (Dv.s (.slice none 0 0)), AV.d (Dv.s (.slice none 0 0))], AV.d (bo false)]) b) (BIf (decide (f > (999999984 : Int))) (R (.tup [stV s0, AV.agg [AV.d (i64 0), AV.d (i64 0), AV.d (Dv.s (.slice none 0 0)), AV.d (Dv.s (.slice none 0 0))], AV.d (bo false)]) b) (∃ (t5 : TrT) (f6 : Int) (z7 : TrT) (e8 : Bool), [AV.agg (trL (StT.tr s0)), AV.d (i64 f)] = [trV t5, AV.d (i64 f6)] ∧ (z7, e8) = tickT t5 f6 ∧ ∃ (s9 : StT) (near10 : List (List Dv)), [AV.rptr [i64 (NotT.v (StT.no s0)), i64 (NotT.n (StT.no s0)), u64 (NotT.r (StT.no s0)), i64 (NotT.t (StT.no s0)), Dv.sl 1 (AAe9 (StT.ps s0)), Dv.sl 1 (AAf9 (StT.qs s0)), Dv.sl 2 (rowsR (StT.rows s0)), Dv.sl 1 (digR (StT.pf s0)), i64 (TrT.iv z7), i64 (TrT.bg z7), i64 (TrT.fi z7), i64 (TrT.ct z7), i64 (TrT.sd z7)], AV.d (Dv.sl 31 near)] = [AV.rptr (stD s9), AV.d (Dv.sl 31 near10)] ∧ ∃ (s11 : StT) (t12 : TrT) (l13 : List NearT) (f14 : Int) (p15 : Int) (e16 : Bool) (z17 : Int), rfSv = rfSv ∧ [bad, bad, AV.d (i64 f), AV.ptr 0 0, bad, bad, AV.ptr 1 0, AV.ptr 2 0, AV.d (bo false), AV.ptr 5 0, AV.ptr 6 0, AV.d (bo e8), AV.ptr 7 0, bad, bad, bad, bad, bad, bad, bad, bad, bad, bad, bad, bad, bad, bad, bad, bad, bad, bad, bad, bad, bad, bad, bad, bad, bad, bad, bad, bad, bad, bad, bad, bad, bad, bad, bad, bad, bad, bad, bad, bad, bad, bad, bad, bad, bad, bad, bad, bad, AV.fn (Fn.func 137) [] [AV.rptr [Dv.sl 31 near10], AV.rptr [Dv.pt (stD s9)]], bad, bad, bad, bad, bad, bad, bad, bad, bad, bad, bad, bad, bad, bad, bad, bad, bad, bad, bad, bad, bad, bad, bad, bad, bad, bad, bad, bad, bad, bad, bad, bad, bad, bad, bad, bad, bad, bad, bad, bad, bad, bad, bad, bad, bad, bad, bad, bad, bad, bad, bad, bad, bad, bad, bad, bad, bad, bad, bad, bad] = [bad, bad, AV.d (i64 f14), AV.ptr 0 0, bad, bad, AV.ptr 1 0, AV.ptr 2 0, AV.d (bo false), AV.ptr 5 0, AV.ptr 6 0, AV.d (bo e16), AV.ptr 7 0, bad, bad, bad, bad, bad, bad, bad, bad, bad, bad, bad, bad, bad, bad, bad, bad, bad, bad, bad, bad, bad, bad, bad, bad, bad, bad, bad, bad, bad, bad, bad, bad, bad, bad, bad, bad, bad, bad, bad, bad, bad, bad, bad, bad, bad, bad, bad, bad, AV.fn (Fn.func 137) [] [AV.rptr [Dv.sl 31 (nearR l13)], AV.rptr [Dv.pt (stD (ACn9 s11 t12))]], bad, bad, bad, bad, bad, bad, bad, bad, bad, bad, bad, bad, bad, bad, bad, bad, bad, bad, bad, bad, bad, bad, bad, bad, bad, bad, bad, bad, bad, bad, bad, bad, bad, bad, bad, bad, bad, bad, bad, bad, bad, bad, bad, bad, bad, bad, bad, bad, bad, bad, bad, bad, bad, bad, bad, bad, bad, bad, bad, bad] ∧ [stB s, Blk.mk [AV.d (i64 0), AV.d (i64 0), AV.d (u64 0), AV.d (i64 0), AV.d (Dv.s (.slice none 0 0)), AV.d (Dv.s (.slice none 0 0)), AV.d (Dv.s (.slice none 0 0)), AV.d (Dv.s (.slice none 0 0)), AV.d (i64 0), AV.d (i64 0), AV.d (i64 0), AV.d (i64 0), AV.d (i64 0)] false false 0, Blk.mk [AV.d (i64 0), AV.d (i64 0), AV.d (Dv.s (.slice none 0 0)), AV.d (Dv.s (.slice none 0 0))] false false 0, stB s0, Blk.mk [AV.d (i64 (NotT.v (StT.no s0))), AV.d (i64 (NotT.n (StT.no s0))), AV.d (u64 (NotT.r (StT.no s0))), AV.d (i64 (NotT.t (StT.no s0))), AV.own 33 1 (AAe9 (StT.ps s0)), AV.own 28 1 (AAf9 (StT.qs s0)), AV.own 71 2 (rowsR (StT.rows s0)), AV.d (Dv.sl 1 (digR (StT.pf s0))), AV.d (i64 (TrT.iv (StT.tr s0))), AV.d (i64 (TrT.bg (StT.tr s0))), AV.d (i64 (TrT.fi (StT.tr s0))), AV.d (i64 (TrT.ct (StT.tr s0))), AV.d (i64 (TrT.sd (StT.tr s0)))] false false 0, Blk.mk [AV.d (i64 (NotT.v (StT.no s0))), AV.d (i64 (NotT.n (StT.no s0))), AV.d (u64 (NotT.r (StT.no s0))), AV.d (i64 (NotT.t (StT.no s0))), AV.d (Dv.sl 1 (AAe9 (StT.ps s0))), AV.d (Dv.sl 1 (AAf9 (StT.qs s0))), AV.d (Dv.sl 2 (rowsR (StT.rows s0))), AV.d (Dv.sl 1 (digR (StT.pf s0))), AV.d (i64 (TrT.iv z7)), AV.d (i64 (TrT.bg z7)), AV.d (i64 (TrT.fi z7)), AV.d (i64 (TrT.ct z7)), AV.d (i64 (TrT.sd z7))] true false 0, Blk.mk (trL z7) false false 0, cell (i64 ((List.length (AAe9 (StT.ps s0)) : Nat) : Int))] = [stB s11, Blk.mk [AV.d (i64 0), AV.d (i64 0), AV.d (u64 0), AV.d (i64 0), AV.d (Dv.s (.slice none 0 0)), AV.d (Dv.s (.slice none 0 0)), AV.d (Dv.s (.slice none 0 0)), AV.d (Dv.s (.slice none 0 0)), AV.d (i64 0), AV.d (i64 0), AV.d (i64 0), AV.d (i64 0), AV.d (i64 0)] false false 0, Blk.mk [AV.d (i64 0), AV.d (i64 0), AV.d (Dv.s (.slice none 0 0)), AV.d (Dv.s (.slice none 0 0))] false false 0, stB s11, Blk.mk [AV.d (i64 (NotT.v (StT.no s11))), AV.d (i64 (NotT.n (StT.no s11))), AV.d (u64 (NotT.r (StT.no s11))), AV.d (i64 (NotT.t (StT.no s11))), AV.own 33 1 (AAe9 (StT.ps s11)), AV.own 28 1 (AAf9 (StT.qs s11)), AV.own 71 2 (rowsR (StT.rows s11)), AV.d (Dv.sl 1 (digR (StT.pf s11))), AV.d (i64 (TrT.iv (StT.tr s11))), AV.d (i64 (TrT.bg (StT.tr s11))), AV.d (i64 (TrT.fi (StT.tr s11))), AV.d (i64 (TrT.ct (StT.tr s11))), AV.d (i64 (TrT.sd (StT.tr s11)))] false false 0, Blk.mk (stL (ACn9 s11 t12)) true false 0, Blk.mk (trL t12) false false 0, cell (i64 p15)] ∧ (List.length l13 ≤ 1000000 ∧ z17 = AHo9 (lackP (ACn9 s11 t12) l13) p15) ∧ BIf (!e16) (R (.tup [AV.agg (stL (ACn9 s11 t12)), AV.agg [AV.d (i64 0), AV.d (i64 0), AV.d (Dv.s (.slice none 0 0)), AV.d (Dv.s (.slice none 0 0))], AV.d (bo false)]) b) (BIf (decide (z17 < (0 : Int))) (R (.tup [AV.agg (stL (ACn9 s11 t12)), AV.agg [AV.d (i64 0), AV.d (i64 0), AV.d (Dv.s (.slice none 0 0)), AV.d (Dv.s (.slice none 0 0))], AV.d (bo false)]) b) (BIf (decide (z17 ≥ ((List.length (AAe9 (StT.ps (ACn9 s11 t12))) : Nat) : Int))) (R (.tup [AV.agg (stL (ACn9 s11 t12)), AV.agg [AV.d (i64 0), AV.d (i64 0), AV.d (Dv.s (.slice none 0 0)), AV.d (Dv.s (.slice none 0 0))], AV.d (bo false)]) b) (BIf (true && decide ((0 : Int) ≤ z17)) (∃ (xs18 : List (List Dv)), (AAe9 (StT.ps (ACn9 s11 t12)))[Int.toNat z17]? = some [Dv.sl 1 xs18] ∧ ∃ (p21 : List Int) (n22 : Int) (s23 : Int) (d24 : List Int), [AV.d (Dv.sl 1 xs18), AV.d (i64 z17), AV.d (i64 (Int.tmod (IntKind.wrap .i64 (IntKind.wrap .i64 ((64 : Int) * f14) + Int.tmod (TrT.sd t12) (64 : Int))) (1000000001 : Int)))] = [AV.d (Dv.sl 1 (AAd9 p21)), AV.d (i64 n22), AV.d (i64 s23)] ∧ (encOk p21 n22 s23 = true ∧ d24 = encS p21 s23) ∧ BIf (true && decide ((0 : Int) ≤ z17)) (∃ (xs25 : List (List Dv)), (AAf9 (StT.qs (ACn9 s11 t12)))[Int.toNat z17]? = some [Dv.sl 1 xs25] ∧ ∃ (xs28 : List (List Dv)), [AV.d (Dv.sl 1 xs25)] = [AV.d (Dv.sl 1 xs28)] ∧ List.length xs28 ≤ 1000000 ∧ R (.tup [AV.agg (stL (ACn9 s11 t12)), AV.agg [AV.d (i64 n22), AV.d (i64 s23), AV.d (Dv.sl 1 (AAd9 d24)), AV.d (Dv.sl 1 xs28)], AV.d (bo true)]) b) False) False)))))))) := by kernel_rfl
end
theorem AYm9 {s : StT} (h : AKb9 s = true) : (s.ps.length : Int) ≤ ABi9 s.no.n ∧ ABi9 s.no.n ≤ 16 ∧ 1 ≤ ABi9 s.no.n ∧ s.qs.length = s.ps.length ∧ (∀ p ∈ s.ps, p.length = 256) ∧ AAm9 s.no.v s.no.n s.no.t = true := by
 obtain ⟨f1, f2, f3, f4, f5⟩ := AId9 h
 obtain ⟨k, hk, hk1, hk2⟩ := AFe9 f4
 have hk : s.no.n = (k : Int) := hk
 have hc := AGj9 (n := k) (by omega)
 have h' := h
 simp only [AKb9, ABw9, Bool.and_eq_true] at h'
 have h2 : (s.ps.length : Int) ≤ ABi9 s.no.n := by have := h'.2.1; simp at this; exact this
 rw [hk, hc] at h2 ⊢
 exact ⟨h2, by omega, by omega, f2, f3, by rw [← hk]; exact f5⟩
theorem AVq9 {s : StT} (h : ACt9 s = true) (he : AGn9 s = false) : AKb9 s = true ∧ ADy9 s.rows = true ∧ (s.rows.length : Int) < 16 ∧ (s.rows.isEmpty || !fullP s) = true ∧ (!s.rows.isEmpty || s.pf.isEmpty) = true ∧ ABe9 s.tr = true := by
 rw [ACt9, he, Bool.false_or] at h
 simp only [Bool.and_eq_true, decide_eq_true_eq] at h
 exact ⟨h.1, h.2.1, h.2.2.1, h.2.2.2.1, h.2.2.2.2.1, h.2.2.2.2.2⟩
theorem BNj9 (t : TrT) (f : Int) : (AHp9 t f).sd = t.sd := by
 unfold AHp9; split <;> rfl
theorem BQy9 (t : TrT) (f : Int) : (tickT t f).1.sd = t.sd := by
 unfold tickT
 split
 · exact BNj9 t f
 · rfl
def BKf9 : BlkT := ⟨0, 0, [], []⟩
def seedF (f sd : Int) : Int := (64 * f + sd % 64) % 1000000001
def AGr9 (s : StT) (f : Int) : Bool := ACt9 s && !AGn9 s && ACh9 f
def AEt9 (s : StT) (l : List NearT) (f : Int) : StT × BlkT × Bool :=
 if AGr9 s f = false then (s, BKf9, false)
 else if (tickT s.tr f).2 = false ∨ AHo9 (lackP s l) s.ps.length < 0 ∨ AHo9 (lackP s l) s.ps.length ≥ s.ps.length then (ACn9 s (tickT s.tr f).1, BKf9, false)
 else (ACn9 s (tickT s.tr f).1, ⟨AHo9 (lackP s l) s.ps.length, seedF f s.tr.sd, encS (nthL s.ps (AHo9 (lackP s l) s.ps.length).toNat) (seedF f s.tr.sd), nthL s.qs (AHo9 (lackP s l) s.ps.length).toNat⟩, true)
theorem zbLe (x : AV) (e : Bool) : LeV (.tup [x, AV.agg [AV.d (i64 0), AV.d (i64 0), AV.d (Dv.s (Value.slice none 0 0)), AV.d (Dv.s (Value.slice none 0 0))], .d (bo e)]) (.tup [x, bkV BKf9, .d (bo e)]) :=
 LeV.tups (.cons .rfl (.cons (LeV.aggs (.cons .rfl (.cons .rfl (.cons (.nil rfl) (.cons (.nil rfl) .nil))))) (.cons .rfl .nil)))
theorem BMk9 (s : StT) (l : List NearT) (f : Int) (hs : ABb9 s) (hl : l.length ≤ 1000000) : PCall Tryz.prog 17 [stV s, .d (.sl 31 (nearR l)), .d (i64 f)] (.tup [stV (AEt9 s l f).1, bkV (AEt9 s l f).2.1, .d (bo (AEt9 s l f).2.2)]) := by
 refine PCall.ofFnV (n := 100) (u := false) (fun _ => wlSv) mixed TSv_ok SSv_ok (fun Ev => BPu9) Tryz.func17 (by rfl) (by rfl) fun Ev bb => ?_
 rw [BDt9]
 have bad : AGr9 s f = false → LeV (.tup [stV s, AV.agg [AV.d (i64 0), AV.d (i64 0), AV.d (Dv.s (Value.slice none 0 0)), AV.d (Dv.s (Value.slice none 0 0))], .d (bo false)]) (.tup [stV (AEt9 s l f).1, bkV (AEt9 s l f).2.1, .d (bo (AEt9 s l f).2.2)]) := fun h => by
   rw [AEt9, if_pos h]; exact zbLe _ _
 refine ⟨s, rfl, hs, s, _, rfl, ⟨hs, rfl⟩, BIf.of (fun h => bad (by rw [AGr9, nbt h]; rfl)) fun g1 => ⟨s, _, rfl, ⟨hs, rfl⟩, BIf.of (fun h => bad (by rw [AGr9, h]; simp)) fun g2 => BIf.of (fun h => bad ?_) fun g3 => BIf.of (fun h => bad ?_) fun g4 => ?_⟩⟩
 · rw [AGr9, show ACh9 f = false from Bool.eq_false_iff.2 fun h' => by have := ADo9.1 h'; have := of_decide_eq_true h; omega, Bool.and_false]
 · rw [AGr9, show ACh9 f = false from Bool.eq_false_iff.2 fun h' => by have := ADo9.1 h'; have := of_decide_eq_true h; omega, Bool.and_false]
 have g3 := of_decide_eq_false g3
 have g4 := of_decide_eq_false g4
 have hv := nbf g1
 have hok : ¬ AGr9 s f = false := by rw [AGr9, hv, g2, show ACh9 f = true from ADo9.2 (by omega)]; decide
 obtain ⟨a1, a2, a3, a4, a5, a6⟩ := AVq9 hv g2
 obtain ⟨b1, b2, b3, b4, b5, b6⟩ := AYm9 a1
 have hsd := (ACs9.1 a6).2.2.1
 refine ⟨s.tr, f, (tickT s.tr f).1, (tickT s.tr f).2, rfl, rfl, ACn9 s (tickT s.tr f).1, _, rfl, s, (tickT s.tr f).1, l, f, s.ps.length, (tickT s.tr f).2, AHo9 (lackP s l) s.ps.length, rfl, rfl, by rw [AAh9]; rfl, ⟨hl, rfl⟩, BIf.of (fun h => ?_) fun g5 => BIf.of (fun h => ?_) fun g6 => BIf.of (fun h => ?_) fun g7 => ?_⟩
 · rw [AEt9, if_neg hok, if_pos (.inl (nbt h))]; exact zbLe _ _
 · rw [AEt9, if_neg hok, if_pos (.inr (.inl (of_decide_eq_true h)))]; exact zbLe _ _
 · rw [AEt9, if_neg hok, if_pos (.inr (.inr (by have := of_decide_eq_true h; rw [AAh9] at this; exact this)))]; exact zbLe _ _
 have g5 := nbf g5
 have g6 := of_decide_eq_false g6
 have g7 := of_decide_eq_false g7
 rw [AAh9] at g7
 have g7 : ¬ AHo9 (lackP s l) (s.ps.length : Int) ≥ s.ps.length := g7
 generalize hp : AHo9 (lackP s l) (s.ps.length : Int) = p at g6 g7 ⊢
 have hpl : p.toNat < s.ps.length := by omega
 have hpq : p.toNat < s.qs.length := by omega
 have hseed : Int.tmod (IntKind.wrap IntKind.i64 (IntKind.wrap IntKind.i64 (64 * f) + Int.tmod (tickT s.tr f).1.sd 64)) 1000000001 = seedF f s.tr.sd := by
   rw [BQy9, Int.tmod_eq_emod_of_nonneg (a := s.tr.sd) hsd.1, wr64 (x := 64 * f) (by omega) (by omega), wr64 (by omega) (by omega), Int.tmod_eq_emod_of_nonneg (by omega)]; rfl
 have hsr : 0 ≤ seedF f s.tr.sd ∧ seedF f s.tr.sd ≤ 1000000000 := by unfold seedF; omega
 refine BIf.t (by simp; omega) ⟨AAd9 (nthL s.ps p.toNat), AIj9 hpl, nthL s.ps p.toNat, p, seedF f s.tr.sd, _, by rw [hseed], ⟨?_, rfl⟩, BIf.t (by simp; omega) ⟨digR (nthL s.qs p.toNat), AHj9 hpq, _, rfl, by rw [AAw9]; exact hs.2.1.2 _ (ADg9 hpq), ?_⟩⟩
 · rw [encOk, b5 _ (ADg9 hpl), AGc9.2 hsr, Bool.and_true]
   simp [pageS]; omega
 · rw [AEt9, if_neg hok, hp, if_neg (by rw [g5]; simp; omega)]; exact .rfl
def BJj9 (args : List AV) (K : AV → Prop) : Prop := ∃ (s : StT) (l : List NearT) (f : Int) (z : StT) (x : BlkT) (e : Bool), args = [stV s, .d (.sl 31 (nearR l)), .d (i64 f)] ∧ ((ABb9 s ∧ l.length ≤ 1000000) ∧ (z, x, e) = AEt9 s l f) ∧ K (.tup [stV z, bkV x, .d (bo e)])
theorem BCb9 : ∀ args K, BJj9 args K → ∃ x, PCall Tryz.prog 17 args x ∧ K x := by
 rintro _ K ⟨s, l, f, z, x, e, rfl, ⟨⟨h1, h2⟩, he⟩, h⟩
 have := BMk9 s l f h1 h2
 rw [← he] at this
 exact ⟨_, this, h⟩
section
variable {β : Type} (wl : WLT β) (y : AAg9 β) (b : β) (R : AV → β → Prop) (RS : AV → List Blk → β → Prop) (K : Exit → List AV → List Blk → β → Prop)
end
section
variable {β : Type} (wl : WLT β) (y : AAg9 β) (b : β) (R : AV → β → Prop) (RS : AV → List Blk → β → Prop) (K : Exit → List AV → List Blk → β → Prop)
end
section
variable {β : Type} (wl : WLT β) (y : AAg9 β) (b : β) (R : AV → β → Prop) (RS : AV → List Blk → β → Prop) (K : Exit → List AV → List Blk → β → Prop)
end
section
variable {β : Type} (wl : WLT β) (y : AAg9 β) (b : β) (R : AV → β → Prop) (RS : AV → List Blk → β → Prop) (K : Exit → List AV → List Blk → β → Prop)
end
section
variable {β : Type} (wl : WLT β) (y : AAg9 β) (b : β) (R : AV → β → Prop)
end
section
variable {β : Type} (wl : WLT β) (y : AAg9 β) (b : β) (R : AV → β → Prop) (RS : AV → List Blk → β → Prop) (K : Exit → List AV → List Blk → β → Prop)
end
section
variable {β : Type} (wl : WLT β) (y : AAg9 β) (b : β) (R : AV → β → Prop) (RS : AV → List Blk → β → Prop) (K : Exit → List AV → List Blk → β → Prop)
end
section
variable {β : Type} (wl : WLT β) (y : AAg9 β) (b : β) (R : AV → β → Prop) (RS : AV → List Blk → β → Prop) (K : Exit → List AV → List Blk → β → Prop)
end
section
variable {β : Type} (wl : WLT β) (y : AAg9 β) (b : β) (R : AV → β → Prop) (RS : AV → List Blk → β → Prop) (K : Exit → List AV → List Blk → β → Prop)
end
section
variable {β : Type} (wl : WLT β) (y : AAg9 β) (b : β) (R : AV → β → Prop) (RS : AV → List Blk → β → Prop) (K : Exit → List AV → List Blk → β → Prop)
end
set_option maxHeartbeats 0
set_option maxRecDepth 100000
section
variable {β : Type} (wl : WLT β) (y : AAg9 β) (b : β) (R : AV → β → Prop) (K : Exit → List AV → List Blk → β → Prop)
end
set_option maxRecDepth 20000
def hp0 : List Int := padS (smp.take 256)
def hp1 : List Int := padS (smp.drop 256)
def hR : Int := (rootS [hp0, hp1]).1
def hN : NotT := ⟨3, 300, hR, 50⟩
def hs0 : SprT := ⟨hN, [], [], [], [], 0, 0, 0, 0, 0⟩
def hs1 : SprT := ⟨hN, [hp0], [[leafS hp1]], [], [], 0, 0, 0, 0, 0⟩
def hs2 : SprT := ⟨hN, [hp0, hp1], [[leafS hp1], [leafS hp0]], [], [], 0, 0, 0, 0, 0⟩
def hX : Int := IntKind.wrap IntKind.u64 ((BitVec.toNat (BitVec.ofInt 64 (leafS hp0) ^^^ BitVec.ofInt 64 (1 : Int)) : Nat) : Int)
set_option maxRecDepth 100000
section
variable {β : Type} (wl : WLT β) (y : AAg9 β) (b : β) (R : AV → β → Prop) (K : Exit → List AV → List Blk → β → Prop)
end
set_option maxRecDepth 20000
theorem APi9 : ∀ (n : Nat) (p : List Int), p.length ≤ n → ∃ z, ((ACo9 256 n p).map padS).flatten = p ++ List.replicate z 0
 | 0, p, h => by
   have : p = [] := List.length_eq_zero_iff.1 (by omega)
   subst this; exact ⟨0, rfl⟩
 | n + 1, p, h => by
   rw [ACo9]
   cases hp : p with
   | nil => exact ⟨0, rfl⟩
   | cons a l =>
     rw [if_neg (by simp), ← hp, List.map_cons, List.flatten_cons]
     have hl : 1 ≤ p.length := by rw [hp]; simp
     obtain ⟨z, hz⟩ := APi9 n (p.drop 256) (by simp; omega)
     rw [hz]
     by_cases h256 : 256 ≤ p.length
     · refine ⟨z, ?_⟩
       have : padS (p.take 256) = p.take 256 := by
         have e : (p.take 256).length = 256 := by simp; omega
         rw [padS, e]; simp
       rw [this, ← List.append_assoc, List.take_append_drop]
     · refine ⟨(256 - p.length) + z, ?_⟩
       rw [List.take_of_length_le (by omega), List.drop_of_length_le (by omega), List.nil_append, padS, List.append_assoc, List.replicate_append_replicate]
theorem BHk9 (z : Nat) : (List.replicate z (0 : Int)).all (· == 0) = true := List.all_eq_true.2 fun x hx => by rw [(List.mem_replicate.1 hx).2]; rfl
theorem ATk9 {p : List Int} : ABd9 (ACz9 p) = false := by
 rw [ABd9, List.any_eq_false]
 intro q hq
 rw [ADc9] at hq
 obtain ⟨i, _, rfl⟩ := List.mem_map.1 hq
 have := ANx9 (ANv9 p i)
 simp; omega
theorem AJj9 (p : List Int) : (ACz9 p).length = (p.length + 255) / 256 := by rw [ADc9]; simp
theorem BAw9 {p : List Int} {n : Nat} (hn : ADa9 (n : Int) = true) (hc : (n + 255) / 256 = (p.length + 255) / 256) :
   joinS (ACz9 p) n = if (p.drop n).all (· == 0) then ((p ++ List.replicate (n - p.length) 0).take n, 0) else ([], 12) := by
 obtain ⟨k, hk, h1, h2⟩ := AFe9 hn
 have hk : n = k := by omega
 subst hk
 obtain ⟨z, hz⟩ := APi9 p.length p (Nat.le_refl _)
 have hz : (ACz9 p).flatten = p ++ List.replicate z 0 := hz
 have hg : ((!ADa9 (n : Int)) || ((((ACz9 p).length : Int) != ABi9 n) || ABd9 (ACz9 p))) = false := by
   rw [hn, ATk9, AJj9, AGj9 (by omega), hc]; simp
 have hs := ANp9 (ps := ACz9 p) ATk9
 rw [hz, AJj9] at hs
 rw [joinS, if_neg (by rw [hg]; simp), Int.toNat_natCast, hz]
 simp only [List.length_append, List.length_replicate] at hs
 have hd : (p ++ List.replicate z 0).drop n = p.drop n ++ List.replicate (z - (n - p.length)) 0 := by
   rw [List.drop_append, List.drop_replicate]
 have hall : ((p ++ List.replicate z 0).drop n).all (· == 0) = (p.drop n).all (· == 0) := by
   rw [hd, List.all_append, BHk9, Bool.and_true]
 have ht : (p ++ List.replicate z 0).take n = (p ++ List.replicate (n - p.length) 0).take n := by
   rw [List.take_append, List.take_append, List.take_replicate, List.take_replicate]
   congr 2; omega
 by_cases h : (p.drop n).all (· == 0) = true
 · rw [if_neg (by rw [ATe9, hall, h]; simp), if_pos h, ht]
 · rw [if_pos (by rw [ATe9, hall]; simpa using h), if_neg h]
set_option maxRecDepth 100000
section
variable {β : Type} (wl : WLT β) (y : AAg9 β) (b : β) (R : AV → β → Prop) (K : Exit → List AV → List Blk → β → Prop)
end
set_option maxRecDepth 20000
def rootF : Nat → List Int → Int
 | 0, now => nth now 0
 | n + 1, now => if 1 < now.length then rootF n (nextL now) else nth now 0
theorem AUd9 : ∀ (n : Nat) (now : List Int) (v : Int), lastS (ACm9 n now) v = rootF n now
 | 0, now, v => rfl
 | n + 1, now, v => by
   rw [ACm9, rootF]
   split
   · exact AUd9 n (nextL now) _
   · rfl
theorem AKn9 (a : Int) (l : List Int) (i : Nat) : nth (a :: l) (i + 1) = nth l i := by simp [nth]
theorem BAj9 : ∀ l : List Int, (nextL l).length = (l.length + 1) / 2
 | [] => rfl
 | [a] => by simp [nextL]
 | a :: c :: l => by
   have := BAj9 l
   simp only [nextL, List.length_cons]; omega
theorem BAi9 : ∀ (l : List Int) (k : Nat), k < l.length → nth (nextL l) (k / 2) = if sibN k < l.length then (if k % 2 = 1 then pairS (nth l (sibN k)) (nth l k) else pairS (nth l k) (nth l (sibN k))) else nth l k
 | [], k, h => by simp at h
 | [a], k, h => by
   have : k = 0 := by simp at h; omega
   subst this
   rfl
 | a :: c :: l, 0, h => by
   rw [show sibN 0 = 1 from rfl, if_pos (by simp), if_neg (by decide)]; rfl
 | a :: c :: l, 1, h => by
   rw [show sibN 1 = 0 from rfl, if_pos (by simp), if_pos (by decide)]; rfl
 | a :: c :: l, k + 2, h => by
   have ih := BAi9 l k (by simp at h; omega)
   have e1 : (k + 2) / 2 = k / 2 + 1 := by omega
   have e2 : sibN (k + 2) = sibN k + 2 := by unfold sibN; split <;> split <;> omega
   have e3 : (k + 2) % 2 = k % 2 := by omega
   rw [e1, e2, e3, nextL, AKn9, ih]
   have e4 : nth (a :: c :: l) (sibN k + 2) = nth l (sibN k) := by rw [show sibN k + 2 = (sibN k + 1) + 1 from rfl, AKn9, AKn9]
   have e5 : nth (a :: c :: l) (k + 2) = nth l k := by rw [show k + 2 = (k + 1) + 1 from rfl, AKn9, AKn9]
   rw [e4, e5]
   by_cases hs : sibN k < l.length
   · rw [if_pos hs, if_pos (show sibN k + 2 < (a :: c :: l).length by simp only [List.length_cons]; omega)]
   · rw [if_neg hs, if_neg (show ¬ sibN k + 2 < (a :: c :: l).length by simp only [List.length_cons]; omega)]
theorem AMy9 : ∀ (n w k : Nat) (now : List Int), now.length = w → k < w → w ≤ n + 1 → AEe9 (walkP n w k) (AEd9 (ACm9 n now) k) (nth now k) = some ([], rootF n now)
 | 0, w, k, now, hw, hk, hn => by
   have : k = 0 := by omega
   subst this
   rw [walkP, ACm9, AEd9, show sibN 0 = 1 from rfl, if_neg (by omega), AEd9]; rfl
 | n + 1, w, k, now, hw, hk, hn => by
   rw [walkP, ACm9, rootF, hw]
   by_cases h1 : 1 < w
   · rw [if_pos h1, if_pos h1, if_pos h1, AEd9, hw]
     have hnx := BAi9 now k (by omega)
     have hln := BAj9 now
     have ih := AMy9 n ((w + 1) / 2) (k / 2) (nextL now) (by rw [hln, hw]) (by omega) (by omega)
     rw [hw] at hnx
     by_cases hs : sibN k < w
     · rw [if_pos hs] at hnx ⊢
       rw [decide_eq_true hs, List.singleton_append]
       by_cases hodd : k % 2 = 1
       · rw [if_pos hodd] at hnx
         rw [show (k % 2 == 1) = true by simp [hodd], ASm9, ← hnx]; exact ih
       · rw [if_neg hodd] at hnx
         rw [show (k % 2 == 1) = false by simp; omega, ASn9, ← hnx]; exact ih
     · rw [if_neg hs] at hnx ⊢
       rw [decide_eq_false hs, List.nil_append, ASo9, ← hnx]; exact ih
   · rw [if_neg h1, if_neg h1, if_neg h1, AEd9, AEd9, List.append_nil]
     have : k = 0 := by omega
     subst this
     rw [hw, show sibN 0 = 1 from rfl, if_neg (by omega)]; rfl
theorem BSu9 {l : List (List Int)} {i : Nat} (h : i < l.length) : nth (l.map leafS) i = leafS (nthL l i) := by simp [nth, nthL, h]
theorem AQs9 {ps : List (List Int)} (h : areS ps = true) {i : Nat} (hi : i < ps.length) : AEe9 (walkS ps.length i) (AEd9 (ACw9 ps) i) (leafS (nthL ps i)) = some ([], (rootS ps).1) := by
 rw [rootS, if_pos h, ACw9, AUd9, walkS, List.length_map, ← BSu9 hi]
 exact AMy9 ps.length ps.length i (ps.map leafS) (by simp) hi (by omega)
theorem BBs9 {r : Int} {w i : Nat} {p q : List Int} (h1 : 1 ≤ w) (h2 : w ≤ 16) (h3 : i < w) (h4 : p.length ≤ 256) : AEz9 r w i p q = topS r (AEe9 (walkS w i) q (leafS p)) := by
 rw [AEz9, Int.toNat_natCast, Int.toNat_natCast, decide_eq_false (by omega), decide_eq_false (by omega), decide_eq_false (by omega), decide_eq_false (by omega), decide_eq_false (by omega)]; rfl
theorem ARz9 {ps : List (List Int)} {i : Nat} (h : areS ps = true) (hi : i < ps.length) : (AEd9 (ACw9 ps) i).length ≤ 16 := by
 have hl : ps.length ≤ 16 := (ARd9 h).1
 have hF := AHu9 ps.length ps.length i (AEd9 (ACw9 ps) i) (leafS (nthL ps i))
 have hc := AQs9 h hi
 rw [walkS] at hc
 have := BIu9 ps.length ps.length i
 rcases Nat.lt_or_ge (AEd9 (ACw9 ps) i).length (lenW ps.length ps.length i) with h1 | h1
 · omega
 · obtain ⟨z, hz⟩ := hF.2 h1
   rw [hz] at hc
   simp only [Option.some.injEq, Prod.mk.injEq, List.drop_eq_nil_iff] at hc
   omega
def IsB (x : Int) : Prop := 0 ≤ x ∧ x < 256
theorem AVu9 {p : List Int} (h : ∀ x ∈ p, IsB x) : ∀ q ∈ ACz9 p, ∀ x ∈ q, IsB x := by
 intro q hq x hx
 rw [ADc9] at hq
 obtain ⟨i, _, rfl⟩ := List.mem_map.1 hq
 rw [padS] at hx
 rcases List.mem_append.1 hx with hx | hx
 · exact h x (List.mem_of_mem_drop (List.mem_of_mem_take hx))
 · rw [(List.mem_replicate.1 hx).2]; exact ⟨by decide, by decide⟩
section
variable {β : Type} (wl : WLT β) (y : AAg9 β) (b : β) (R : AV → β → Prop) (K : Exit → List AV → List Blk → β → Prop)
set_option maxRecDepth 100000
end
set_option maxRecDepth 20000
section
variable {β : Type} (wl : WLT β) (y : AAg9 β) (b : β) (R : AV → β → Prop) (K : Exit → List AV → List Blk → β → Prop)
set_option maxRecDepth 100000
end
set_option maxRecDepth 20000
theorem BJx9 (s z : SprT) (h : z.no = s.no) : ∀ (ps qs : List (List Int)) (k : Nat), allP z k ps qs = allP s k ps qs
 | [], qs, k => by rw [allP, allP] <;> (intros; simp_all)
 | p :: ps, [], k => by rw [allP, allP] <;> (intros; simp_all)
 | p :: ps, q :: qs, k => by rw [allP, allP, BJx9 s z h ps qs, ABq9, ABq9, h]
theorem BDb9 (s : SprT) (p q : List Int) : ∀ (ps qs : List (List Int)) (k : Nat), ps.length = qs.length → allP s k (ps ++ [p]) (qs ++ [q]) = (allP s k ps qs && ABq9 s ((k + ps.length : Nat) : Int) p q)
 | [], [], k, h => by
   show (ABq9 s k p q && allP s (k + 1) [] []) = _
   rw [show allP s (k + 1) [] [] = true from rfl, show allP s k [] [] = true from rfl, Bool.and_true, Bool.true_and]; rfl
 | [], q :: qs, k, h => by simp at h
 | p :: ps, [], k, h => by simp at h
 | a :: ps, c :: qs, k, h => by
   show (ABq9 s k a c && allP s (k + 1) (ps ++ [p]) (qs ++ [q])) = ((ABq9 s k a c && allP s (k + 1) ps qs) && _)
   rw [BDb9 s p q ps qs (k + 1) (by simpa using h), Bool.and_assoc]
   congr 3
   rw [List.length_cons]; congr 1; omega
theorem BDw9 {s : SprT} {p q : List Int} (h : ABw9 s = true) (hp : p.length = 256) (hc : (s.ps.length : Int) ≠ ABi9 s.no.n) (hq : ABq9 s s.ps.length p q = true) (z : SprT) (hn : z.no = s.no) (h1 : z.ps = s.ps ++ [p]) (h2 : z.qs = s.qs ++ [q]) : ABw9 z = true := by
 obtain ⟨f1, f2, f3, f4, f5⟩ := AId9 h
 simp only [ABw9, Bool.and_eq_true] at h
 obtain ⟨g1, g2, g3, g4, g5⟩ := h
 have g2 : ¬ ((s.ps.length : Int) > ABi9 s.no.n) := by simpa using g2
 have g4 : ABd9 s.ps = false := by simpa using g4
 have a1 : ABd9 (s.ps ++ [p]) = false := by
   rw [ABd9] at g4 ⊢
   rw [List.any_append, g4]
   simp [hp]
 have a2 : allP z 0 (s.ps ++ [p]) (s.qs ++ [q]) = true := by
   rw [BJx9 s z hn, BDb9 s p q _ _ _ f2.symm, g5, Nat.zero_add, hq]; rfl
 rw [ABw9, hn, h1, h2, g1, a1, a2]
 simp [f2]; omega
section
variable {β : Type} (wl : WLT β) (y : AAg9 β) (b : β) (R : AV → β → Prop) (K : Exit → List AV → List Blk → β → Prop)
set_option maxRecDepth 100000
end
set_option maxRecDepth 20000
structure Lays (no : NotT) (ps : List (List Int)) : Prop where
 are : areS ps = true
 two : ∀ p ∈ ps, p.length = 256
 ann : AAm9 no.v no.n no.t = true
 cnt : ABi9 no.n = ps.length
 rt : no.r = (rootS ps).1
def ABx9 (ps : List (List Int)) (i : Nat) : List Int := AEd9 (ACw9 ps) i
def layS (no : NotT) (ps : List (List Int)) (k : Nat) : SprT := ⟨no, ps.take k, (List.range k).map (ABx9 ps), [], [], 0, 0, 0, 0, 0⟩
theorem BIv9 {no : NotT} {ps : List (List Int)} {k : Nat} (hk : k ≤ ps.length) : (layS no ps k).ps.length = k := by simp [layS]; omega
theorem BSz9 {ps : List (List Int)} {i : Nat} (h : i < ps.length) : ps.take (i + 1) = ps.take i ++ [nthL ps i] := by
 rw [nthL, List.getD_eq_getElem?_getD, List.getElem?_eq_getElem h, List.take_add_one, List.getElem?_eq_getElem h]; rfl
theorem AQe9 {no : NotT} {ps : List (List Int)} (h : Lays no ps) {k i : Nat} (hi : i < ps.length) : ABq9 (layS no ps k) i (nthL ps i) (ABx9 ps i) = true := by
 obtain ⟨a1, a2, a3⟩ := ARd9 h.are
 show AEz9 no.r (ABi9 no.n) i _ _ = true
 rw [h.cnt, BBs9 (by omega) a1 hi (a3 _ (ADg9 hi)), ABx9, AQs9 h.are hi, h.rt]
 simp [topS]
theorem lay_qs {no : NotT} {ps : List (List Int)} (h : Lays no ps) {k : Nat} (hk : k ≤ ps.length) : ∀ x ∈ (layS no ps k).qs, x.length ≤ 1000000 := by
 intro x hx
 simp only [layS, List.mem_map, List.mem_range] at hx
 obtain ⟨i, hi, rfl⟩ := hx
 have := ARz9 (i := i) h.are (by omega)
 rw [ABx9]; omega
theorem AUc9 {no : NotT} {ps : List (List Int)} (h : Lays no ps) : ∀ k : Nat, k ≤ ps.length → ABw9 (layS no ps k) = true
 | 0, _ => by
   have e : layS no ps 0 = ⟨no, [], [], [], [], 0, 0, 0, 0, 0⟩ := by simp [layS]
   obtain ⟨a1, a2, a3⟩ := ARd9 h.are
   rw [e, ABw9, h.ann, h.cnt]
   simp [ABd9, allP]
 | k + 1, hk => by
   refine BDw9 (s := layS no ps k) (p := nthL ps k) (q := ABx9 ps k) (AUc9 h k (by omega)) (h.two _ (ADg9 (by omega))) ?_ (by rw [BIv9 (by omega)]; exact AQe9 h (by omega)) _ rfl (BSz9 (by omega)) ?_
   · rw [BIv9 (by omega)]
     show (k : Int) ≠ ABi9 no.n
     rw [h.cnt]; omega
   · show (List.range (k + 1)).map _ = (List.range k).map _ ++ _
     rw [List.range_succ, List.map_append]; rfl
theorem BFi9 {ps : List (List Int)} (h : areS ps = true) {k : Nat} (hk : k < ps.length) : ALt9 ps k = (ABx9 ps k, 0) := by
 rw [ALt9, h, if_pos (by simp; omega), Int.toNat_natCast]; rfl
theorem AOe9 {v t : Int} {p : List Int} (h : ADa9 p.length = true) (ha : AAm9 v p.length t = true) : annS v p t = (⟨v, p.length, (rootS (ACz9 p)).1, t⟩, 0) ∧ Lays ⟨v, p.length, (rootS (ACz9 p)).1, t⟩ (ACz9 p) := by
 have ar := BDu9 h
 obtain ⟨k, hk, k1, k2⟩ := AFe9 h
 refine ⟨?_, ar, fun x hx => ?_, ha, ?_, rfl⟩
 · rw [annS, if_pos (by rw [h, ha]; rfl), show (rootS (ACz9 p)).2 = 0 by rw [rootS, if_pos ar]]
 · rw [ADc9] at hx
   obtain ⟨i, _, rfl⟩ := List.mem_map.1 hx
   exact ANx9 (ANv9 p i)
 · show ABi9 p.length = _
   rw [AGj9 (by omega), AJj9]
section
variable {β : Type} (wl : WLT β) (y : AAg9 β) (b : β) (K : Exit → List AV → List Blk → β → Prop)
end
section
variable {β : Type} (wl : WLT β) (y : AAg9 β) (b : β) (R : AV → β → Prop)
end
set_option maxHeartbeats 1000000
def laySt (no : NotT) (ps : List (List Int)) (k : Nat) (l : List Row) (q : List Int) (t : TrT) : StT := ⟨no, ps.take k, (List.range k).map (ABx9 ps), l, q, t⟩
theorem ARf9 {s s' : SprT} (h1 : s.no = s'.no) : ∀ (l q : List (List Int)) (i : Nat), allP s i l q = allP s' i l q
 | [], _, _ => rfl
 | _ :: _, [], _ => rfl
 | p :: l, q :: qs, i => by
   show (ABq9 s i p q && allP s (i + 1) l qs) = (ABq9 s' i p q && allP s' (i + 1) l qs)
   rw [ARf9 h1 l qs (i + 1), show ABq9 s i p q = ABq9 s' i p q by unfold ABq9; rw [h1]]
theorem ARt9 {s s' : SprT} (h1 : s.no = s'.no) (h2 : s.ps = s'.ps) (h3 : s.qs = s'.qs) : ABw9 s = ABw9 s' := by
 unfold ABw9
 rw [h1, h2, h3, ARf9 h1]
theorem AFk9 {no : NotT} {ps : List (List Int)} (h : Lays no ps) {k : Nat} (hk : k ≤ ps.length) (l : List Row) (q : List Int) (t : TrT) : AKb9 (laySt no ps k l q t) = true := by
 have e : ABw9 (laySt no ps k l q t).sp = ABw9 (layS no ps k) := ARt9 rfl rfl rfl
 rw [AKb9, e]; exact AUc9 h k hk
theorem ABz9 {no : NotT} {ps : List (List Int)} {k : Nat} (hk : k ≤ ps.length) (l : List Row) (q : List Int) (t : TrT) : (laySt no ps k l q t).ps.length = k := by simp [laySt]; omega
theorem AQd9 {no : NotT} {ps : List (List Int)} (h : Lays no ps) : ps.length ≤ 16 ∧ 1 ≤ ps.length := by
 have := AYm9 (AFk9 h (Nat.zero_le _) [] [] zeroT)
 have hc := h.cnt
 have h2 : ABi9 no.n ≤ 16 := this.2.1
 have h3 : 1 ≤ ABi9 no.n := this.2.2.1
 omega
theorem BPc9 {no : NotT} (h : AAm9 no.v no.n no.t = true) : zeroN no = false := by
 simp only [AAm9, Bool.and_eq_true, decide_eq_true_eq] at h
 rw [Bool.eq_false_iff]
 intro hz
 simp only [zeroN, Bool.and_eq_true, beq_iff_eq] at hz
 omega
theorem AFj9 {no : NotT} {ps : List (List Int)} (h : Lays no ps) {k : Nat} (hk : k ≤ ps.length) {l : List Row} {q : List Int} {t : TrT} (hg : Good l) (hl : l.length < 16) (hf : l = [] ∨ k < ps.length) (hq : l ≠ [] ∨ q = []) (ht : ABe9 t = true) :
   AGn9 (laySt no ps k l q t) = false ∧ ACt9 (laySt no ps k l q t) = true := by
 have he : AGn9 (laySt no ps k l q t) = false := by
   rw [AGn9, show zeroN (laySt no ps k l q t).no = false from BPc9 h.ann]; rfl
 refine ⟨he, ?_⟩
 rw [ACt9, he, AFk9 h hk, show ADy9 (laySt no ps k l q t).rows = true by rw [← BDl9]; exact (AIb9 l).2 hg]
 rw [show (laySt no ps k l q t).rows = l from rfl, show (laySt no ps k l q t).pf = q from rfl, show (laySt no ps k l q t).tr = t from rfl, ht, decide_eq_true (p := (l.length : Int) < 16) (by omega)]
 have hfull : (l.isEmpty || !fullP (laySt no ps k l q t)) = true := by
   rcases hf with rfl | hf
   · rfl
   · rw [fullP, ABz9 hk, show (laySt no ps k l q t).no = no from rfl, h.cnt]
     rw [Bool.or_eq_true]; right
     simp; omega
 have hqe : (!l.isEmpty || q.isEmpty) = true := by
   rcases hq with hq | rfl
   · cases l with
     | nil => exact absurd rfl hq
     | cons _ _ => rfl
   · simp
 rw [hfull, hqe]; rfl
theorem BLx9 {p : List Int} {s n : Int} (hn : pageS n = true) (hs : seedS s = true) (l : List Row) : recS l n s (encS p s) = addS l (setS s) (sumB p (setS s)) := by
 rw [AUq9 hs, recS, if_pos]
 simp [recOk, hs, ACg9, hn]
theorem BIo9 {ps : List (List Int)} {k : Nat} (h : ps.length ≤ 16) (hk : k < ps.length) : pageS (k : Int) = true := by simp [pageS]; omega
theorem AUj9 {p : List Int} {m : Int} (h0 : 1 ≤ m) (h1 : m < 65536) : (addS [] m (sumB p m)).2.1 = true := by
 rcases BFu9 (p := p) (ss := []) (fun s h => by cases h) h0 h1 with h | h
 · exfalso
   have e : or64 m (AJc9 []) = m := by
     obtain ⟨k, rfl⟩ : ∃ k : Nat, m = k := ⟨m.toNat, by omega⟩
     have : k < 65536 := by omega
     unfold or64 AJc9
     simp only [List.foldl_nil]
     rw [show (BitVec.ofInt 64 (k : Int) ||| BitVec.ofInt 64 0) = BitVec.ofInt 64 (k : Int) by simp]
     rw [AAs9]
     · simp [BitVec.toNat_ofInt]; omega
     · simp [BitVec.toNat_ofInt]; omega
     · simp [BitVec.toNat_ofInt]; omega
   rw [e] at h
   simp only [AJc9, List.foldl_nil] at h
   omega
 · exact h
def blkOf (ps : List (List Int)) (k : Nat) (m : Int) : BlkT := ⟨k, m, encS (nthL ps k) m, ABx9 ps k⟩
theorem AWj9 {no : NotT} {ps : List (List Int)} (h : Lays no ps) {k : Nat} (hk : k < ps.length) {l : List Row} {q : List Int} {t : TrT} (hg : Good l) (hl : l.length < 16) (hq : l ≠ [] → q = ABx9 ps k) (hq0 : l ≠ [] ∨ q = []) (ht : ABe9 t = true) {m : Int} (hm : seedS m = true) :
   ABn9 (laySt no ps k l q t) (blkOf ps k m) = 0 := by
 obtain ⟨a1, a2⟩ := AFj9 h (by omega) hg hl (.inr hk) hq0 ht
 obtain ⟨b1, b2⟩ := AQd9 h
 obtain ⟨c1, c2⟩ := AGc9.1 hm
 have hbad : badB (blkOf ps k m) = false := by
   have hd : (encS (nthL ps k) m).length = 16 := by rw [AUq9 hm]; exact ACg9 _ _
   have e : badB (blkOf ps k m) = (decide ((k : Int) < 0) || (decide ((k : Int) ≥ 16) || (decide (m < 0) || (decide (m > 1000000000) || (((encS (nthL ps k) m).length : Int) != 16))))) := rfl
   rw [e, hd, decide_eq_false (p := (k : Int) < 0) (by omega), decide_eq_false (p := (k : Int) ≥ 16) (by omega), decide_eq_false (p := m < 0) (by omega), decide_eq_false (p := m > 1000000000) (by omega)]
   rfl
 have hfull : fullP (laySt no ps k l q t) = false := by
   rw [fullP, ABz9 (by omega), show (laySt no ps k l q t).no = no from rfl, h.cnt]
   simp; omega
 rw [ABn9, if_neg (by rw [a2, hbad]; decide), if_neg (by rw [a1]; decide), if_neg (by rw [hfull]; decide), ABz9 (by omega), if_neg (by simp [blkOf]), if_neg (by simp [blkOf]), if_neg]
 show ¬ (!l.isEmpty && !decide (ABx9 ps k = q)) = true
 cases l with
 | nil => simp
 | cons r l => rw [hq (by simp)]; simp
theorem BLz9 {no : NotT} {ps : List (List Int)} (h : Lays no ps) {k : Nat} (hk : k < ps.length) (l : List Row) (q : List Int) (t : TrT) : putT (laySt no ps k l q t) (nthL ps k) (ABx9 ps k) = (laySt no ps (k + 1) [] [] t, 0) := by
 have h1 := AFk9 h (k := k) (by omega) l q t
 have h2 := h.two _ (ADg9 hk)
 have h3 : ABq9 (laySt no ps k l q t).sp (laySt no ps k l q t).ps.length (nthL ps k) (ABx9 ps k) = true := by
   rw [ABz9 (by omega)]; exact AQe9 (k := k) h hk
 rw [putT, if_neg (by rw [h1, h2]; simp), if_neg, if_neg (by rw [h3]; simp)]
 · show (StT.mk no (ps.take k ++ [nthL ps k]) ((List.range k).map (ABx9 ps) ++ [ABx9 ps k]) [] [] t, (0 : Int)) = _
   rw [← BSz9 hk, laySt, List.range_succ, List.map_append]; rfl
 · rw [ABz9 (by omega)]
   show ¬ (k : Int) = ABi9 no.n
   rw [h.cnt]; omega
theorem BAr9 {no : NotT} {ps : List (List Int)} (h : Lays no ps) {k : Nat} (hk : k < ps.length) {l : List Row} {q : List Int} {t : TrT} (hb : ∀ x ∈ nthL ps k, 0 ≤ x ∧ x < 256) (hT : Tru (nthL ps k) l) (hl : l.length < 16) (hq : l ≠ [] → q = ABx9 ps k) (hq0 : l ≠ [] ∨ q = []) (ht : ABe9 t = true) {m : Int} (hm : seedS m = true) :
   recvT (laySt no ps k l q t) (blkOf ps k m) = if (addS l (setS m) (sumB (nthL ps k) (setS m))).1.length = 16 then (laySt no ps (k + 1) [] [] t, 0) else (laySt no ps k (addS l (setS m) (sumB (nthL ps k) (setS m))).1 (ABx9 ps k) t, 0) := by
 have hr := AWj9 h hk hT.good hl hq hq0 ht hm
 obtain ⟨s0, s1⟩ := ADk9 hm
 obtain ⟨g1, g2, g3, g4⟩ := AJq9 hT s0 (show setS m < 65536 by omega)
 have er : recS (laySt no ps k l q t).rows (blkOf ps k m).n (blkOf ps k m).s (blkOf ps k m).d = addS l (setS m) (sumB (nthL ps k) (setS m)) := BLx9 (BIo9 (AQd9 h).1 hk) hm l
 have hp := h.two _ (ADg9 hk)
 have en : ALu9 (laySt no ps k l q t) (blkOf ps k m) = laySt no ps k (addS l (setS m) (sumB (nthL ps k) (setS m))).1 (ABx9 ps k) t := by
   rw [ALu9, er]; rfl
 rw [recvT, if_neg (by rw [hr]; simp), er, if_neg (by rw [g1]; simp)]
 by_cases h16 : (addS l (setS m) (sumB (nthL ps k) (setS m))).1.length = 16
 · have hpg : (AEl9 (addS l (setS m) (sumB (nthL ps k) (setS m))).1).2 = true := by rw [ATq9 g2, h16]; rfl
   rw [if_pos h16, if_neg (by rw [hpg]; simp), BAc9 g2 hp hb hpg, en, show (blkOf ps k m).pf = ABx9 ps k from rfl, BLz9 h hk, if_neg (by simp)]
 · have hpg : (AEl9 (addS l (setS m) (sumB (nthL ps k) (setS m))).1).2 = false := by rw [ATq9 g2]; simp [h16]
   rw [if_neg h16, if_pos hpg, en]
end Go.Proofs.YtibhflogmbfpcaaGreatDoor.Am
