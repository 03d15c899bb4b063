import Derived.Test.YtibhflogmbfpcaaGreatDoorJ4
import Derived.Test.YtibhflogmbfpcaaGreatDoorJ2
import Derived.Test.YtibhflogmbfpcaaGreatDoorTie
import Derived.Test.YtibhflogmbfpcaaGreatDoorCards
import Derived.ProofKit
import Derived.LaidMore
import Derived.OpenShut
import Derived.Stop.Joined
import Derived.Lay
import Derived.LaidOnce
import Derived.SevenTiedAt
import Derived.Test.YtibhflogmbfpcaaGreatDoorJ3
set_option linter.unusedSimpArgs false
set_option linter.unusedVariables false
namespace Go.Proofs.YtibhflogmbfpcaaGreatDoor.Am
open Go Go.RowKit Go.Proofs
open AV (bad)
set_option linter.unusedVariables false
set_option maxRecDepth 20000
set_option maxHeartbeats 1000000
def FedA (no : NotT) (ps : List (List Int)) (k : Nat) (t : TrT) (st : StT) : Prop :=
 ∃ l q, st = laySt no ps k l q t ∧ Tru (nthL ps k) l ∧ l.length < 16 ∧ (l ≠ [] → q = ABx9 ps k) ∧ (l ≠ [] ∨ q = [])
def Fed (no : NotT) (ps : List (List Int)) (k : Nat) (t : TrT) (st : StT) : Prop := st = laySt no ps (k + 1) [] [] t ∨ FedA no ps k t st
def ANa9 (p : List Int) : Prop := ∀ x ∈ p, 0 ≤ x ∧ x < 256
theorem AKz9 {no : NotT} {ps : List (List Int)} (h : Lays no ps) {k : Nat} (hk : k < ps.length) {t : TrT} (ht : ABe9 t = true) {m : Int} (hm : seedS m = true) :
   recvT (laySt no ps (k + 1) [] [] t) (blkOf ps k m) = (laySt no ps (k + 1) [] [] t, if k + 1 = ps.length then 10 else 14) := by
 obtain ⟨a1, a2⟩ := AFj9 h (k := k + 1) (by omega) (l := []) (q := []) (Tru.nil []).good (by simp) (.inl rfl) (.inr rfl) ht
 obtain ⟨b1, b2⟩ := AQd9 h
 obtain ⟨c1, c2⟩ := AGc9.1 hm
 have hd : (encS (nthL ps k) m).length = 16 := by rw [AUq9 hm]; exact ACg9 _ _
 have hbad : badB (blkOf ps k m) = false := by
   have e : badB (blkOf ps k m) = (decide ((k : Int) < 0) || (decide ((k : Int) ≥ 16) || (decide (m < 0) || (decide (m > 1000000000) || (((encS (nthL ps k) m).length : Int) != 16))))) := rfl
   rw [e, hd, decide_eq_false (p := (k : Int) < 0) (by omega), decide_eq_false (p := (k : Int) ≥ 16) (by omega), decide_eq_false (p := m < 0) (by omega), decide_eq_false (p := m > 1000000000) (by omega)]
   rfl
 have hr : ABn9 (laySt no ps (k + 1) [] [] t) (blkOf ps k m) = if k + 1 = ps.length then 10 else 14 := by
   rw [ABn9, if_neg (by rw [a2, hbad]; decide), if_neg (by rw [a1]; decide), fullP, ABz9 (by omega), show (laySt no ps (k + 1) [] [] t).no = no from rfl, h.cnt]
   by_cases hf : k + 1 = ps.length
   · rw [if_pos (by rw [hf]; simp), if_pos hf]
   · rw [if_neg (by simp; omega), if_neg hf, if_pos (by show (k : Int) < _; omega)]
 rw [recvT, hr, if_pos (by split <;> decide)]
theorem Fed.step {no : NotT} {ps : List (List Int)} {k : Nat} {t : TrT} {st : StT} (h : Lays no ps) (hk : k < ps.length) (hb : ANa9 (nthL ps k)) (ht : ABe9 t = true) (hf : Fed no ps k t st) {m : Int} (hm : seedS m = true) :
   Fed no ps k t (recvT st (blkOf ps k m)).1 ∧ ((recvT st (blkOf ps k m)).2 = 0 ∨ (recvT st (blkOf ps k m)).2 = 10 ∨ (recvT st (blkOf ps k m)).2 = 14) := by
 rcases hf with rfl | ⟨l, q, rfl, hT, hl, hq, hq0⟩
 · rw [AKz9 h hk ht hm]
   exact ⟨.inl rfl, by by_cases h' : k + 1 = ps.length <;> simp [h']⟩
 · obtain ⟨s0, s1⟩ := ADk9 hm
   obtain ⟨g1, g2, g3, g4⟩ := AJq9 hT s0 (show setS m < 65536 by omega)
   rw [BAr9 h hk hb hT hl hq hq0 ht hm]
   by_cases h16 : (addS l (setS m) (sumB (nthL ps k) (setS m))).1.length = 16
   · rw [if_pos h16]; exact ⟨.inl rfl, .inl rfl⟩
   · rw [if_neg h16]
     refine ⟨.inr ⟨_, _, rfl, g2, by have := g2.good.len; omega, fun _ => rfl, .inl ?_⟩, .inl rfl⟩
     intro he
     have h0 : l = [] := by
       have : (addS l (setS m) (sumB (nthL ps k) (setS m))).1.length = 0 := by rw [he]; rfl
       exact List.length_eq_zero_iff.1 (by omega)
     subst h0
     have := AUj9 (p := nthL ps k) s0 (show setS m < 65536 by omega)
     rw [he, this] at g4
     simp at g4
theorem Fed.small {no : NotT} {ps : List (List Int)} {k : Nat} {t : TrT} {st : StT} (h : Lays no ps) (hk : k < ps.length) (hf : Fed no ps k t st) : ABb9 st := by
 obtain ⟨b1, b2⟩ := AQd9 h
 have key : ∀ (j : Nat) (l : List Row) (q : List Int), j ≤ ps.length → ATl9 l → q.length ≤ 1000000 → ABb9 (laySt no ps j l q t) := by
   intro j l q hj h1 h2
   refine ⟨⟨by rw [ABz9 hj]; omega, fun p hp => ?_⟩, ⟨by simp [laySt]; omega, lay_qs h hj⟩, h1, h2⟩
   rw [h.two p (List.mem_of_mem_take hp)]; omega
 rcases hf with rfl | ⟨l, q, rfl, hT, hl, hq, hq0⟩
 · exact key _ _ _ (by omega) ⟨by simp, fun r hr => by cases hr⟩ (by simp)
 · refine key _ _ _ (by omega) ⟨by omega, fun r hr => by rw [hT.good.len16 r hr]; omega⟩ ?_
   by_cases hn : l = []
   · rcases hq0 with h0 | h0
     · exact absurd hn h0
     · rw [h0]; simp
   · rw [hq hn, ABx9]
     have := ARz9 (i := k) h.are (by omega); omega
def feedT (ps : List (List Int)) (k : Nat) (st : StT) (ss : List Int) : StT := ss.foldl (fun s m => (recvT s (blkOf ps k m)).1) st
theorem AMf9 {p : List Int} : ∀ {ss : List Int} {l : List Row}, (∀ s ∈ ss, seedS s = true) → Tru p l → l.length ≤ (allS p (masks ss) l).1.length
 | [], l, _, _ => Nat.le_refl _
 | m :: ss, l, hs, ht => by
   have hm := hs m (List.mem_cons_self ..)
   obtain ⟨s0, s1⟩ := ADk9 hm
   obtain ⟨g1, g2, g3, g4⟩ := AJq9 ht s0 (show setS m < 65536 by omega)
   have e2 : allS p (masks (m :: ss)) l = allS p (masks ss) (addS l (setS m) (sumB p (setS m))).1 := by
     show allS p (setS m :: masks ss) l = _
     rw [allS, if_neg (by simp; omega)]
     dsimp only
     rw [if_neg (by rw [g1]; simp)]
   rw [e2]
   have := AMf9 (fun s hs' => hs s (List.mem_cons_of_mem _ hs')) g2
   omega
theorem AUm9 {no : NotT} {ps : List (List Int)} {k : Nat} {t : TrT} (h : Lays no ps) (hk : k < ps.length) (hb : ANa9 (nthL ps k)) (ht : ABe9 t = true) : ∀ (ss : List Int) (l : List Row) (q : List Int), (∀ s ∈ ss, seedS s = true) → Tru (nthL ps k) l → l.length < 16 → (l ≠ [] → q = ABx9 ps k) → (l ≠ [] ∨ q = []) →
   feedT ps k (laySt no ps k l q t) ss = laySt no ps (k + 1) [] [] t ∧ 16 ≤ (allS (nthL ps k) (masks ss) l).1.length ∨ ∃ q', feedT ps k (laySt no ps k l q t) ss = laySt no ps k (allS (nthL ps k) (masks ss) l).1 q' t ∧ (allS (nthL ps k) (masks ss) l).1.length < 16
 | [], l, q, hs, hT, hl, hq, hq0 => .inr ⟨q, rfl, hl⟩
 | m :: ss, l, q, hs, hT, hl, hq, hq0 => by
   have hm := hs m (List.mem_cons_self ..)
   have hs' := fun s hs' => hs s (List.mem_cons_of_mem _ hs')
   obtain ⟨s0, s1⟩ := ADk9 hm
   obtain ⟨g1, g2, g3, g4⟩ := AJq9 hT s0 (show setS m < 65536 by omega)
   have e2 : allS (nthL ps k) (masks (m :: ss)) l = allS (nthL ps k) (masks ss) (addS l (setS m) (sumB (nthL ps k) (setS m))).1 := by
     show allS (nthL ps k) (setS m :: masks ss) l = _
     rw [allS, if_neg (by simp; omega)]
     dsimp only
     rw [if_neg (by rw [g1]; simp)]
   have e1 : feedT ps k (laySt no ps k l q t) (m :: ss) = feedT ps k (recvT (laySt no ps k l q t) (blkOf ps k m)).1 ss := rfl
   rw [e2, e1, BAr9 h hk hb hT hl hq hq0 ht hm]
   by_cases h16 : (addS l (setS m) (sumB (nthL ps k) (setS m))).1.length = 16
   · rw [if_pos h16]
     left
     constructor
     · have : ∀ ss : List Int, (∀ s ∈ ss, seedS s = true) → feedT ps k (laySt no ps (k + 1) [] [] t) ss = laySt no ps (k + 1) [] [] t := by
         intro ss
         induction ss with
         | nil => intro _; rfl
         | cons x ss ih =>
           intro hx
           have e : feedT ps k (laySt no ps (k + 1) [] [] t) (x :: ss) = feedT ps k (recvT (laySt no ps (k + 1) [] [] t) (blkOf ps k x)).1 ss := rfl
           rw [e, AKz9 h hk ht (hx x (List.mem_cons_self ..))]
           exact ih fun s hs => hx s (List.mem_cons_of_mem _ hs)
       exact this ss hs'
     · have := AMf9 (p := nthL ps k) hs' g2
       omega
   · rw [if_neg h16]
     refine AUm9 h hk hb ht ss _ _ hs' g2 (by have := g2.good.len; omega) (fun _ => rfl) (.inl ?_)
     intro he
     have h0 : l = [] := by
       have : (addS l (setS m) (sumB (nthL ps k) (setS m))).1.length = 0 := by rw [he]; rfl
       exact List.length_eq_zero_iff.1 (by omega)
     subst h0
     have := AUj9 (p := nthL ps k) s0 (show setS m < 65536 by omega)
     rw [he, this] at g4
     simp at g4
def TFe : List (Nat × (List AV → (AV → Prop) → Prop)) := [(87, cProof), (34, cEncB), (15, AOl9)]
theorem BPm9 : AAa9 Tryz.prog TFe := AAa9.cons BGy9 (AAa9.cons ASp9 (AAa9.cons ALd9 AAa9.nil))
noncomputable def lpFe : Code := sub [1, 1, 1, 0, 1, 2, 3] (code Tryz.f28)
def tmFe (ps : List (List Dv)) (k : Int) (q ss : List (List Dv)) (n i : Int) : List AV := [.bad, .d (.sl 1 ps), .d (i64 k), .bad, .ptr 0 0, .bad, .bad, .bad, .ptr 1 0, .bad, .d (.sl 1 q)] ++ List.replicate 22 .bad ++ [.d (.sl 1 ss), .d (i64 n), .d (i64 i)] ++ List.replicate 38 .bad
section
variable {β : Type} (wl : WLT β) (y : AAg9 β) (b : β) (R : AV → β → Prop) (RS : AV → List Blk → β → Prop) (K : Exit → List AV → List Blk → β → Prop)
theorem rFe (s : StT) (b1 : List AV) (ps q ss : List (List Dv)) (k n i : Int) : wpc Tryz.prog ⟨TFe, [], wl, y, false⟩ 100 lpFe (tmFe ps k q ss n i) [stB s, zB13] b (maskK 2 [1, 2, 4, 8, 10, 33, 34, 35] K) = ( BIf (decide (i < n)) (BIf (true && decide ((0 : Int) ≤ i)) (∃ (x0 : Int), ss[Int.toNat i]? = some [i64 x0] ∧ BIf (true && decide ((0 : Int) ≤ k)) (∃ (xs3 : List (List Dv)), ps[Int.toNat k]? = some [Dv.sl 1 xs3] ∧ ∃ (p6 : List Int) (n7 : Int) (s8 : Int) (d9 : List Int), [AV.d (Dv.sl 1 xs3), AV.d (i64 k), AV.d (i64 x0)] = [AV.d (Dv.sl 1 (AAd9 p6)), AV.d (i64 n7), AV.d (i64 s8)] ∧ (encOk p6 n7 s8 = true ∧ d9 = encS p6 s8) ∧ ∃ (s10 : StT) (x11 : BlkT) (z12 : StT) (e13 : Int), [stV s, AV.agg [AV.d (i64 n7), AV.d (i64 s8), AV.d (Dv.sl 1 (AAd9 d9)), AV.d (Dv.sl 1 q)]] = [stV s10, bkV x11] ∧ (((ABb9 s10) ∧ List.length (BlkT.pf x11) ≤ 1000000) ∧ (z12, e13) = recvT s10 x11) ∧ BIf (e13 != (0 : Int)) (BIf (e13 != (14 : Int)) (BIf (e13 != (10 : Int)) (K .ret [bad, AV.d (Dv.sl 1 ps), AV.d (i64 k), bad, AV.ptr 0 0, bad, bad, bad, AV.ptr 1 0, bad, AV.d (Dv.sl 1 q), bad, bad, bad, bad, bad, bad, bad, bad, bad, bad, bad, bad, bad, bad, bad, bad, bad, bad, bad, bad, bad, bad, AV.d (Dv.sl 1 ss), AV.d (i64 n), AV.d (i64 i), bad, bad, bad, bad, bad, bad, bad, bad, bad, bad, bad, bad, bad, bad, bad, bad, bad, bad, bad, bad, bad, bad, bad, bad, bad, bad, bad, bad, bad, bad, bad, bad, bad, bad, bad, bad, bad, bad] [stB s, stB s] b) (K .normal [bad, AV.d (Dv.sl 1 ps), AV.d (i64 k), bad, AV.ptr 0 0, bad, bad, bad, AV.ptr 1 0, bad, AV.d (Dv.sl 1 q), bad, bad, bad, bad, bad, bad, bad, bad, bad, bad, bad, bad, bad, bad, bad, bad, bad, bad, bad, bad, bad, bad, AV.d (Dv.sl 1 ss), AV.d (i64 n), AV.d (i64 (IntKind.wrap .i64 (i + (1 : Int)))), bad, bad, bad, bad, bad, bad, bad, bad, bad, bad, bad, bad, bad, bad, bad, bad, bad, bad, bad, bad, bad, bad, bad, bad, bad, bad, bad, bad, bad, bad, bad, bad, bad, bad, bad, bad, bad, bad] [stB z12, Blk.mk [AV.d (i64 0), AV.d (i64 0), AV.d (u64 0), AV.d (i64 0), AV.d (Dv.s (.slice none 0 0)), AV.d (Dv.s (.slice none 0 0)), AV.d (Dv.s (.slice none 0 0)), AV.d (Dv.s (.slice none 0 0)), AV.d (i64 0), AV.d (i64 0), AV.d (i64 0), AV.d (i64 0), AV.d (i64 0)] false false 0] b)) (K .normal [bad, AV.d (Dv.sl 1 ps), AV.d (i64 k), bad, AV.ptr 0 0, bad, bad, bad, AV.ptr 1 0, bad, AV.d (Dv.sl 1 q), bad, bad, bad, bad, bad, bad, bad, bad, bad, bad, bad, bad, bad, bad, bad, bad, bad, bad, bad, bad, bad, bad, AV.d (Dv.sl 1 ss), AV.d (i64 n), AV.d (i64 (IntKind.wrap .i64 (i + (1 : Int)))), bad, bad, bad, bad, bad, bad, bad, bad, bad, bad, bad, bad, bad, bad, bad, bad, bad, bad, bad, bad, bad, bad, bad, bad, bad, bad, bad, bad, bad, bad, bad, bad, bad, bad, bad, bad, bad, bad] [stB z12, Blk.mk [AV.d (i64 0), AV.d (i64 0), AV.d (u64 0), AV.d (i64 0), AV.d (Dv.s (.slice none 0 0)), AV.d (Dv.s (.slice none 0 0)), AV.d (Dv.s (.slice none 0 0)), AV.d (Dv.s (.slice none 0 0)), AV.d (i64 0), AV.d (i64 0), AV.d (i64 0), AV.d (i64 0), AV.d (i64 0)] false false 0] b)) (K .normal [bad, AV.d (Dv.sl 1 ps), AV.d (i64 k), bad, AV.ptr 0 0, bad, bad, bad, AV.ptr 1 0, bad, AV.d (Dv.sl 1 q), bad, bad, bad, bad, bad, bad, bad, bad, bad, bad, bad, bad, bad, bad, bad, bad, bad, bad, bad, bad, bad, bad, AV.d (Dv.sl 1 ss), AV.d (i64 n), AV.d (i64 (IntKind.wrap .i64 (i + (1 : Int)))), bad, bad, bad, bad, bad, bad, bad, bad, bad, bad, bad, bad, bad, bad, bad, bad, bad, bad, bad, bad, bad, bad, bad, bad, bad, bad, bad, bad, bad, bad, bad, bad, bad, bad, bad, bad, bad, bad] [stB z12, Blk.mk [AV.d (i64 0), AV.d (i64 0), AV.d (u64 0), AV.d (i64 0), AV.d (Dv.s (.slice none 0 0)), AV.d (Dv.s (.slice none 0 0)), AV.d (Dv.s (.slice none 0 0)), AV.d (Dv.s (.slice none 0 0)), AV.d (i64 0), AV.d (i64 0), AV.d (i64 0), AV.d (i64 0), AV.d (i64 0)] false false 0] b)) False) False) (K (Exit.exit 0) [bad, AV.d (Dv.sl 1 ps), AV.d (i64 k), bad, AV.ptr 0 0, bad, bad, bad, AV.ptr 1 0, bad, AV.d (Dv.sl 1 q), bad, bad, bad, bad, bad, bad, bad, bad, bad, bad, bad, bad, bad, bad, bad, bad, bad, bad, bad, bad, bad, bad, AV.d (Dv.sl 1 ss), AV.d (i64 n), AV.d (i64 i), bad, bad, bad, bad, bad, bad, bad, bad, bad, bad, bad, bad, bad, bad, bad, bad, bad, bad, bad, bad, bad, bad, bad, bad, bad, bad, bad, bad, bad, bad, bad, bad, bad, bad, bad, bad, bad, bad] [stB s, Blk.mk [AV.d (i64 0), AV.d (i64 0), AV.d (u64 0), AV.d (i64 0), AV.d (Dv.s (.slice none 0 0)), AV.d (Dv.s (.slice none 0 0)), AV.d (Dv.s (.slice none 0 0)), AV.d (Dv.s (.slice none 0 0)), AV.d (i64 0), AV.d (i64 0), AV.d (i64 0), AV.d (i64 0), AV.d (i64 0)] false false 0] b)) := by kernel_rfl
theorem BMe9  : wpFn Tryz.prog ⟨[], [], wl, y, true⟩ 100 Tryz.f29 [] b R = ( R (.d (Dv.sl 1 [[i64 0], [i64 1], [i64 2], [i64 3], [i64 4], [i64 5], [i64 6], [i64 7], [i64 8], [i64 9], [i64 10], [i64 11], [i64 12], [i64 13], [i64 14], [i64 15]])) b) := by kernel_rfl
end
theorem BMn9 : PCall Tryz.prog 29 [] (.d (.sl 1 (intsR ss0))) := by
 refine PCall.ofFn (n := 100) (u := true) mixed AAa9.nil AAb9.nil Tryz.func29 (by rfl) (by rfl) fun Ev bb => ?_
 rw [BMe9]; rfl
def BJl9 (args : List AV) (K : AV → Prop) : Prop := args = [] ∧ ∃ z : List Int, z = ss0 ∧ K (.d (.sl 1 (intsR z)))
theorem BCh9 : ∀ args K, BJl9 args K → ∃ x, PCall Tryz.prog 29 args x ∧ K x := by
 rintro _ K ⟨rfl, _, rfl, h⟩; exact ⟨_, BMn9, h⟩
theorem BNh9 {no : NotT} {ps : List (List Int)} (h : Lays no ps) {k : Nat} (hk : k < ps.length) {m : Int} (hm : seedS m = true) : encOk (nthL ps k) k m = true := by
 rw [encOk, h.two _ (ADg9 hk), BIo9 (AQd9 h).1 hk, hm]; rfl
theorem BNw9 {ss rest : List Int} {m : Int} {j : Nat} (hd : ss.drop j = m :: rest) : (intsR ss)[j]? = some [i64 m] := by
 obtain ⟨h1, h2, _⟩ := ABv9 hd
 simp [intsR, h2]
theorem wrFe {Ev : Env Tryz.prog} {b : Ev.β} {Q : Exit → St Ev.β → Prop} {no : NotT} {ps : List (List Int)} {k : Nat} {t : TrT} (h : Lays no ps) (hk : k < ps.length) (hb : ANa9 (nthL ps k)) (ht : ABe9 t = true) (ss : List Int) (hs : ∀ s ∈ ss, seedS s = true) (hl : ss.length ≤ 1000) :
   ∀ (rest : List Int) (j : Nat) (st : StT), ss.drop j = rest → Fed no ps k t st → (∀ i : Int, Q (.exit 0) ⟨tmFe (AAe9 ps) k (digR (ABx9 ps k)) (intsR ss) ss.length i, [stB (feedT ps k st rest), zB13], b⟩) → WR Ev lpFe (rest.length + 1) ⟨tmFe (AAe9 ps) k (digR (ABx9 ps k)) (intsR ss) ss.length j, [stB st, zB13], b⟩ Q
 | [], j, st, hd, hf, hQ => by
   have hj := ADn9 hd
   refine WR.ofMask [1, 2, 4, 8, 10, 33, 34, 35] mixed (CX.Ok.of (u := false) BPm9 AAb9.nil) (k := 100) ?_
   refine Eq.mpr (rFe _ _ _ _ st [] (AAe9 ps) (digR (ABx9 ps k)) (intsR ss) k ss.length j) ?_
   exact BIf.f (by simp; omega) (hQ j)
 | m :: rest, j, st, hd, hf, hQ => by
   obtain ⟨hj, h2, hd'⟩ := ABv9 hd
   have hm : seedS m = true := hs m (List.mem_of_getElem? h2)
   obtain ⟨f1, f2⟩ := hf.step h hk hb ht hm
   refine WR.ofMask [1, 2, 4, 8, 10, 33, 34, 35] mixed (CX.Ok.of (u := false) BPm9 AAb9.nil) (k := 100) ?_
   refine Eq.mpr (rFe _ _ _ _ st [] (AAe9 ps) (digR (ABx9 ps k)) (intsR ss) k ss.length j) ?_
   rw [wrapN (by omega), Int.toNat_natCast, Int.toNat_natCast]
   have hn := ARz9 (i := k) h.are (by omega)
   refine BIf.t (by simp; omega) (BIf.t (by simp) ⟨m, BNw9 hd, BIf.t (by simp) ⟨AAd9 (nthL ps k), AIj9 hk, nthL ps k, k, m, _, rfl, ⟨BNh9 h hk hm, rfl⟩, st, blkOf ps k m, (recvT st (blkOf ps k m)).1, (recvT st (blkOf ps k m)).2, rfl, ⟨⟨hf.small h hk, by show (ABx9 ps k).length ≤ _; rw [ABx9]; omega⟩, rfl⟩, ?_⟩⟩)
   have nx := wrFe (Q := Q) h hk hb ht ss hs hl rest (j + 1) (recvT st (blkOf ps k m)).1 hd' f1 hQ
   rcases f2 with f2 | f2 | f2 <;> rw [f2]
   · exact BIf.f rfl nx
   · exact BIf.t rfl (BIf.t rfl (BIf.f rfl nx))
   · exact BIf.t rfl (BIf.f rfl nx)
def wlFe {β : Type} : WLT β := fun c tm hp b K => ∃ (no : NotT) (ps : List (List Int)) (k : Nat) (t : TrT) (st : StT) (ss : List Int) (z : StT), c = .loop lpFe ∧ ABc9 [1, 2, 4, 8, 10, 33, 34, 35] 0 tm = tmFe (AAe9 ps) k (digR (ABx9 ps k)) (intsR ss) (intsR ss).length 0 ∧ hp = [stB st, zB13] ∧
 ((Lays no ps ∧ k < ps.length ∧ ANa9 (nthL ps k) ∧ ABe9 t = true ∧ (∀ s ∈ ss, seedS s = true) ∧ ss.length ≤ 1000 ∧ Fed no ps k t st) ∧ z = feedT ps k st ss) ∧ ∀ i : Int, K (.exit 0) (tmFe (AAe9 ps) k (digR (ABx9 ps k)) (intsR ss) ss.length i) [stB z, zB13] b
theorem BQa9 {Ev : Env Tryz.prog} (c : Code) (tm : List AV) (hp : List Blk) (b : Ev.β) (K : Exit → List AV → List Blk → Ev.β → Prop) (h : wlFe c tm hp b K) : W Ev c ⟨tm, hp, b⟩ (fun e s => K e s.tm s.hp s.b) := by
 obtain ⟨no, ps, k, t, st, ss, z, rfl, htm, rfl, ⟨⟨h1, h2, h3, h4, h5, h6, h7⟩, rfl⟩, hK⟩ := h
 rw [BFm9] at htm
 refine W.cast (htm ▸ AAk9 _ tm 0) (LeH.refl _) ?_
 exact W.rounds (wrFe (Q := fun e s => K e s.tm s.hp s.b) h1 h2 h3 h4 ss h5 h6 ss 0 st rfl h7 hK)
section
variable {β : Type} (wl : WLT β) (y : AAg9 β) (b : β) (R : AV → β → Prop) (RS : AV → List Blk → β → Prop) (K : Exit → List AV → List Blk → β → Prop)
theorem BTk9 (s : StT) (ps ss : List (List Dv)) (k : Int) : wpFn Tryz.prog ⟨TFe, [], wlFe, y, false⟩ 100 Tryz.f28 [stV s, .d (.sl 1 ps), .d (i64 k), .d (.sl 1 ss)] b R = ( ∃ (ps0 : List (List Int)) (i1 : Int) (z2 : List Int × Int), [AV.d (Dv.sl 1 ps), AV.d (i64 k)] = [AV.d (Dv.sl 1 (AAe9 ps0)), AV.d (i64 i1)] ∧ z2 = ALt9 ps0 i1 ∧ BIf (Prod.snd z2 != (0 : Int)) (R (.tup [stV s, AV.d (bo false)]) b) (BIf (decide (k ≥ ((List.length ps : Nat) : Int))) (R (.tup [stV s, AV.d (bo false)]) b) (∃ (no3 : NotT) (ps4 : List (List Int)) (k5 : Nat) (t6 : TrT) (st7 : StT) (ss8 : List Int) (z9 : StT), Code.loop lpFe = Code.loop lpFe ∧ [bad, AV.d (Dv.sl 1 ps), AV.d (i64 k), bad, AV.ptr 0 0, bad, bad, bad, AV.ptr 1 0, bad, AV.d (Dv.sl 1 (digR (Prod.fst z2))), bad, bad, bad, bad, bad, bad, bad, bad, bad, bad, bad, bad, bad, bad, bad, bad, bad, bad, bad, bad, bad, bad, AV.d (Dv.sl 1 ss), AV.d (i64 ((List.length ss : Nat) : Int)), AV.d (i64 0), bad, bad, bad, bad, bad, bad, bad, bad, bad, bad, bad, bad, bad, bad, bad, bad, bad, bad, bad, bad, bad, bad, bad, bad, bad, bad, bad, bad, bad, bad, bad, bad, bad, bad, bad, bad, bad, bad] = [bad, AV.d (Dv.sl 1 (AAe9 ps4)), AV.d (i64 (k5 : Int)), bad, AV.ptr 0 0, bad, bad, bad, AV.ptr 1 0, bad, AV.d (Dv.sl 1 (digR (ABx9 ps4 k5))), bad, bad, bad, bad, bad, bad, bad, bad, bad, bad, bad, bad, bad, bad, bad, bad, bad, bad, bad, bad, bad, bad, AV.d (Dv.sl 1 (intsR ss8)), AV.d (i64 ((List.length (intsR ss8) : Nat) : Int)), AV.d (i64 0), bad, bad, bad, bad, bad, bad, bad, bad, bad, bad, bad, bad, bad, bad, bad, bad, bad, bad, bad, bad, bad, bad, bad, bad, bad, bad, bad, bad, bad, bad, bad, bad, bad, bad, bad, bad, bad, bad] ∧ [stB s, Blk.mk [AV.d (i64 0), AV.d (i64 0), AV.d (u64 0), AV.d (i64 0), AV.d (Dv.s (.slice none 0 0)), AV.d (Dv.s (.slice none 0 0)), AV.d (Dv.s (.slice none 0 0)), AV.d (Dv.s (.slice none 0 0)), AV.d (i64 0), AV.d (i64 0), AV.d (i64 0), AV.d (i64 0), AV.d (i64 0)] false false 0] = [stB st7, Blk.mk [AV.d (i64 0), AV.d (i64 0), AV.d (u64 0), AV.d (i64 0), AV.d (Dv.s (.slice none 0 0)), AV.d (Dv.s (.slice none 0 0)), AV.d (Dv.s (.slice none 0 0)), AV.d (Dv.s (.slice none 0 0)), AV.d (i64 0), AV.d (i64 0), AV.d (i64 0), AV.d (i64 0), AV.d (i64 0)] false false 0] ∧ ((Lays no3 ps4 ∧ k5 < List.length ps4 ∧ (∀ (x : Int), x ∈ nthL ps4 k5 → (0 : Int) ≤ x ∧ x < (256 : Int)) ∧ ABe9 t6 = true ∧ (∀ (s : Int), s ∈ ss8 → seedS s = true) ∧ List.length ss8 ≤ 1000 ∧ (st7 = laySt no3 ps4 (k5 + 1) [] [] t6 ∨ ∃ (l10 : List Row) (q11 : List Int), st7 = laySt no3 ps4 k5 l10 q11 t6 ∧ Tru (nthL ps4 k5) l10 ∧ List.length l10 < 16 ∧ (l10 ≠ [] → q11 = ABx9 ps4 k5) ∧ (l10 ≠ [] ∨ q11 = []))) ∧ z9 = feedT ps4 k5 st7 ss8) ∧ ∀ (i : Int), R (.tup [stV z9, AV.d (bo true)]) b))) := by kernel_rfl
end
def OkFeed (no : NotT) (ps : List (List Int)) (k : Nat) (t : TrT) (st : StT) (ss : List Int) : Prop := Lays no ps ∧ k < ps.length ∧ ANa9 (nthL ps k) ∧ ABe9 t = true ∧ (∀ s ∈ ss, seedS s = true) ∧ ss.length ≤ 1000 ∧ Fed no ps k t st
theorem pcFeed {no : NotT} {ps : List (List Int)} {k : Nat} {t : TrT} {st : StT} {ss : List Int} (h : OkFeed no ps k t st ss) : PCall Tryz.prog 28 [stV st, .d (.sl 1 (AAe9 ps)), .d (i64 k), .d (.sl 1 (intsR ss))] (.tup [stV (feedT ps k st ss), .d (bo true)]) := by
 refine PCall.ofFnW (n := 100) (u := false) (fun _ => wlFe) mixed BPm9 AAb9.nil (fun Ev => BQa9) Tryz.func28 (by rfl) (by rfl) fun Ev bb => ?_
 rw [BTk9]
 have hp := BFi9 h.1.are h.2.1
 refine ⟨ps, k, _, rfl, rfl, BIf.f (by rw [hp]; rfl) (BIf.f (by rw [AAh9]; have := h.2.1; simp; omega) ⟨no, ps, k, t, st, ss, _, rfl, by rw [hp], rfl, ⟨h, rfl⟩, fun i => rfl⟩)⟩
def cFeed (args : List AV) (K : AV → Prop) : Prop := ∃ (no : NotT) (ps : List (List Int)) (k : Nat) (t : TrT) (st : StT) (ss : List Int) (z : StT), args = [stV st, .d (.sl 1 (AAe9 ps)), .d (i64 k), .d (.sl 1 (intsR ss))] ∧ (OkFeed no ps k t st ss ∧ z = feedT ps k st ss) ∧ K (.tup [stV z, .d (bo true)])
theorem BOt9 : ∀ args K, cFeed args K → ∃ x, PCall Tryz.prog 28 args x ∧ K x := by
 rintro _ K ⟨no, ps, k, t, st, ss, _, rfl, ⟨h1, rfl⟩, h⟩; exact ⟨_, pcFeed h1, h⟩
noncomputable def lpSa : Code := sub [1, 1, 0, 1, 2, 3] (code Tryz.f19)
def TSa : List (Nat × (List AV → (AV → Prop) → Prop)) := [(24, cLists), (68, BCe9), (69, BOe9), (31, BHe9)]
theorem TSa_ok : AAa9 Tryz.prog TSa := AAa9.cons BHa9 (AAa9.cons AWt9 (AAa9.cons AUu9 (AAa9.cons AOm9 AAa9.nil)))
section
variable {β : Type} (wl : WLT β) (y : AAg9 β) (b : β) (R : AV → β → Prop) (RS : AV → List Blk → β → Prop) (K : Exit → List AV → List Blk → β → Prop)
theorem BTj9 (s : StT) (near : List (List Dv)) : wpFn Tryz.prog ⟨[(46, cFew)], [], wl, y, false⟩ 100 Tryz.f14 [stV s, .d (.sl 31 near)] b R = ( ∃ (s0 : SprT) (z1 : Bool), [stV s] = [AV.agg (spL s0)] ∧ ((∀ (r : List Dv), r ∈ SprT.rows s0 → ∃ (m2 : Int) (xs3 : List (List Dv)), r = [i64 m2, Dv.sl 1 xs3]) ∧ z1 = fewSI s0) ∧ BIf z1 (R (.d (bo (decide (((List.length near : Nat) : Int) ≤ (100 : Int))))) b) (R (.d (bo false)) b)) := by kernel_rfl
end
def tmSa (i : Int) : List AV := [.bad, .bad, .ptr 0 0, .ptr 1 0, .bad, .d (i64 i)] ++ List.replicate 81 .bad
section
variable {β : Type} (wl : WLT β) (y : AAg9 β) (b : β) (R : AV → β → Prop) (RS : AV → List Blk → β → Prop) (K : Exit → List AV → List Blk → β → Prop)
theorem rSa (s c : StT) (i : Int) : wpc Tryz.prog ⟨TSa, [], wl, y, false⟩ 100 lpSa (tmSa i) [stB s, stB c] b (maskT [2, 3, 4, 5] K) = ( BIf (decide (i < ((List.length (rowsR (StT.rows s)) : Nat) : Int))) (BIf (true && decide ((0 : Int) ≤ i)) (∃ (x0 : Int) (xs1 : List (List Dv)), (rowsR (StT.rows s))[Int.toNat i]? = some [i64 x0, Dv.sl 1 xs1] ∧ BIf (true && decide ((0 : Int) ≤ i)) (∃ (x4 : Int) (xs5 : List (List Dv)), (rowsR (StT.rows c))[Int.toNat i]? = some [i64 x4, Dv.sl 1 xs5] ∧ BIf (x0 != x4) (K .ret [bad, bad, AV.ptr 0 0, AV.ptr 1 0, AV.d (bo false), AV.d (i64 i), bad, bad, bad, bad, bad, bad, bad, bad, bad, bad, bad, bad, bad, bad, bad, bad, bad, bad, bad, bad, bad, bad, bad, bad, bad, bad, bad, bad, bad, bad, bad, bad, bad, bad, bad, bad, bad, bad, bad, bad, bad, bad, bad, bad, bad, bad, bad, bad, bad, bad, bad, bad, bad, bad, bad, bad, bad, bad, bad, bad, bad, bad, bad, bad, bad, bad, bad, bad, bad, bad, bad, bad, bad, bad, bad, bad, bad, bad, bad, bad, bad] [stB s, stB c] b) (BIf (true && decide ((0 : Int) ≤ i)) (∃ (x8 : Int) (xs9 : List (List Dv)), (rowsR (StT.rows s))[Int.toNat i]? = some [i64 x8, Dv.sl 1 xs9] ∧ BIf (true && decide ((0 : Int) ≤ i)) (∃ (x12 : Int) (xs13 : List (List Dv)), (rowsR (StT.rows c))[Int.toNat i]? = some [i64 x12, Dv.sl 1 xs13] ∧ ∃ (a16 : List Int) (c17 : List Int) (z18 : Bool), [AV.d (Dv.sl 1 xs9), AV.d (Dv.sl 1 xs13)] = [AV.d (Dv.sl 1 (AAd9 a16)), AV.d (Dv.sl 1 (AAd9 c17))] ∧ (List.length a16 ≤ 9223372036854775807 ∧ z18 = decide (a16 = c17)) ∧ BIf (!z18) (K .ret [bad, bad, AV.ptr 0 0, AV.ptr 1 0, AV.d (bo false), AV.d (i64 i), bad, bad, bad, bad, bad, bad, bad, bad, bad, bad, bad, bad, bad, bad, bad, bad, bad, bad, bad, bad, bad, bad, bad, bad, bad, bad, bad, bad, bad, bad, bad, bad, bad, bad, bad, bad, bad, bad, bad, bad, bad, bad, bad, bad, bad, bad, bad, bad, bad, bad, bad, bad, bad, bad, bad, bad, bad, bad, bad, bad, bad, bad, bad, bad, bad, bad, bad, bad, bad, bad, bad, bad, bad, bad, bad, bad, bad, bad, bad, bad, bad] [stB s, stB c] b) (K .normal [bad, bad, AV.ptr 0 0, AV.ptr 1 0, bad, AV.d (i64 (IntKind.wrap .i64 (i + (1 : Int)))), bad, bad, bad, bad, bad, bad, bad, bad, bad, bad, bad, bad, bad, bad, bad, bad, bad, bad, bad, bad, bad, bad, bad, bad, bad, bad, bad, bad, bad, bad, bad, bad, bad, bad, bad, bad, bad, bad, bad, bad, bad, bad, bad, bad, bad, bad, bad, bad, bad, bad, bad, bad, bad, bad, bad, bad, bad, bad, bad, bad, bad, bad, bad, bad, bad, bad, bad, bad, bad, bad, bad, bad, bad, bad, bad, bad, bad, bad, bad, bad, bad] [stB s, stB c] b)) False) False)) False) False) (K (Exit.exit 0) [bad, bad, AV.ptr 0 0, AV.ptr 1 0, bad, AV.d (i64 i), bad, bad, bad, bad, bad, bad, bad, bad, bad, bad, bad, bad, bad, bad, bad, bad, bad, bad, bad, bad, bad, bad, bad, bad, bad, bad, bad, bad, bad, bad, bad, bad, bad, bad, bad, bad, bad, bad, bad, bad, bad, bad, bad, bad, bad, bad, bad, bad, bad, bad, bad, bad, bad, bad, bad, bad, bad, bad, bad, bad, bad, bad, bad, bad, bad, bad, bad, bad, bad, bad, bad, bad, bad, bad, bad, bad, bad, bad, bad, bad, bad] [stB s, stB c] b)) := by kernel_rfl
end
def neW (a c : List Row) (i : Nat) : Bool := (nthW a i).1 != (nthW c i).1 || !decide ((nthW a i).2 = (nthW c i).2)
theorem BJw9 {a c : List Row} (hl : a.length = c.length) : (List.range a.length).any (neW a c) = !decide (a = c) := by
 rw [Bool.eq_iff_iff]
 simp only [List.any_eq_true, List.mem_range, Bool.not_eq_true', decide_eq_false_iff_not]
 constructor
 · rintro ⟨i, hi, h⟩ rfl
   simp [neW] at h
 · intro h
   apply Classical.byContradiction
   intro hn
   apply h
   apply List.ext_getElem hl
   intro i h1 h2
   have h3 : ¬ neW a c i = true := fun h3 => hn ⟨i, h1, h3⟩
   simp only [neW, nthW, List.getD_eq_getElem?_getD, List.getElem?_eq_getElem h1, List.getElem?_eq_getElem h2, Option.getD_some, Bool.or_eq_true, bne_iff_ne, Bool.not_eq_true', decide_eq_false_iff_not, not_or, Classical.not_not] at h3
   exact Prod.ext h3.1 h3.2
theorem wrSa {Ev : Env Tryz.prog} {b : Ev.β} {Q : Exit → St Ev.β → Prop} (s c : StT) (hl : s.rows.length = c.rows.length) (hb : s.rows.length ≤ 1000000) (hd : ∀ r ∈ s.rows, r.2.length ≤ 1000000) (h1 : s.rows = c.rows → ∀ i : Int, Q (.exit 0) ⟨tmSa i, [stB s, stB c], b⟩) (h2 : s.rows ≠ c.rows → ∀ i : Int, Q .ret ⟨(tmSa i).set 4 (.d (bo false)), [stB s, stB c], b⟩) :
   WR Ev lpSa (s.rows.length + 1) ⟨tmSa (0 : Nat), [stB s, stB c], b⟩ Q := by
 refine WR.scan (X := ⟨TSa, [], wlW Ev, Ev.Y, false⟩) (k := 100) [2, 3, 4, 5] mixed (CX.Ok.of TSa_ok AAb9.nil) s.rows.length (neW s.rows c.rows) (fun i => tmSa (i : Nat)) (fun i => (tmSa (i : Nat)).set 4 (.d (bo false))) [stB s, stB c] 0 (fun i hi K k1 k2 => ?_) (fun K k1 => ?_) (fun h => h1 ?_ _) fun h i => h2 ?_ _
 · rw [rSa, ABs9, wrapN (by omega), Int.toNat_natCast]
   refine BIf.t (by simp <;> omega) (BIf.t (by simp) ⟨(nthW s.rows i).1, AAd9 (nthW s.rows i).2, APn9 hi, BIf.t (by simp) ⟨(nthW c.rows i).1, AAd9 (nthW c.rows i).2, APn9 (by omega), ?_⟩⟩)
   refine BIf.of (fun g => k1 (by rw [neW, g]; rfl)) fun g => BIf.t (by simp) ⟨(nthW s.rows i).1, AAd9 (nthW s.rows i).2, APn9 hi, BIf.t (by simp) ⟨(nthW c.rows i).1, AAd9 (nthW c.rows i).2, APn9 (by omega), _, _, _, rfl, ⟨by have := hd _ (BAh9 hi); omega, rfl⟩, BIf.of (fun g' => k1 (by rw [neW, g, g']; rfl)) fun g' => k2 (by rw [neW, g, g']; rfl)⟩⟩
 · rw [rSa, ABs9]
   exact BIf.f (by simp) k1
 · rw [BJw9 hl] at h; simpa using h
 · rw [BJw9 hl] at h; simpa using h
def wlSa {β : Type} : WLT β := fun t tm hp b K => ∃ (s c : StT) (z : Bool), t = .loop lpSa ∧ ABc9 [2, 3, 5] 0 tm = tmSa 0 ∧ hp = [stB s, stB c] ∧ ((s.rows.length = c.rows.length ∧ ABb9 s) ∧ z = decide (s.rows = c.rows)) ∧
 BIf z (∀ i : Int, K (.exit 0) (tmSa i) [stB s, stB c] b) (∀ i : Int, K .ret ((tmSa i).set 4 (.d (bo false))) [stB s, stB c] b)
theorem BPw9 {Ev : Env Tryz.prog} (c : Code) (tm : List AV) (hp : List Blk) (b : Ev.β) (K : Exit → List AV → List Blk → Ev.β → Prop) (h : wlSa c tm hp b K) : W Ev c ⟨tm, hp, b⟩ (fun e s => K e s.tm s.hp s.b) := by
 obtain ⟨s, d, z, rfl, htm, rfl, ⟨⟨hl, hs⟩, hz⟩, hK⟩ := h
 refine W.cast (htm ▸ AAk9 _ tm 0) (LeH.refl _) ?_
 exact W.rounds (wrSa (Q := fun e s => K e s.tm s.hp s.b) s d hl (by have := hs.2.2.1.1; omega) (fun r hr => by have := hs.2.2.1.2 r hr; omega) (fun h => by rw [hz, decide_eq_true h] at hK; exact hK) fun h => by rw [hz, decide_eq_false h] at hK; exact hK)
section
variable {β : Type} (wl : WLT β) (y : AAg9 β) (b : β) (R : AV → β → Prop) (RS : AV → List Blk → β → Prop) (K : Exit → List AV → List Blk → β → Prop)
theorem BLp9 (s c : StT) : wpFn Tryz.prog ⟨TSa, [], wlSa, y, false⟩ 100 Tryz.f19 [stV s, stV c] b R = ( BIf (!(NotT.v (StT.no s) == NotT.v (StT.no c) && (NotT.n (StT.no s) == NotT.n (StT.no c) && (NotT.r (StT.no s) == NotT.r (StT.no c) && (NotT.t (StT.no s) == NotT.t (StT.no c) && true))))) (R (.d (bo false)) b) (BIf (!(TrT.iv (StT.tr s) == TrT.iv (StT.tr c) && (TrT.bg (StT.tr s) == TrT.bg (StT.tr c) && (TrT.fi (StT.tr s) == TrT.fi (StT.tr c) && (TrT.ct (StT.tr s) == TrT.ct (StT.tr c) && (TrT.sd (StT.tr s) == TrT.sd (StT.tr c) && true)))))) (R (.d (bo false)) b) (BIf (((List.length (rowsR (StT.rows s)) : Nat) : Int) != ((List.length (rowsR (StT.rows c)) : Nat) : Int)) (R (.d (bo false)) b) (∃ (a0 : List (List Int)) (c1 : List (List Int)) (z2 : Bool), [AV.d (Dv.sl 1 (AAe9 (StT.ps s))), AV.d (Dv.sl 1 (AAe9 (StT.ps c)))] = [AV.d (Dv.sl 1 (AAe9 a0)), AV.d (Dv.sl 1 (AAe9 c1))] ∧ ((List.length a0 ≤ 9223372036854775807 ∧ ∀ (p : List Int), p ∈ a0 → List.length p ≤ 9223372036854775807) ∧ z2 = decide (a0 = c1)) ∧ BIf (!z2) (R (.d (bo false)) b) (∃ (a5 : List (List Int)) (c6 : List (List Int)) (z7 : Bool), [AV.d (Dv.sl 1 (AAf9 (StT.qs s))), AV.d (Dv.sl 1 (AAf9 (StT.qs c)))] = [AV.d (Dv.sl 1 (AAf9 a5)), AV.d (Dv.sl 1 (AAf9 c6))] ∧ ((List.length a5 ≤ 9223372036854775807 ∧ ∀ (p : List Int), p ∈ a5 → List.length p ≤ 9223372036854775807) ∧ z7 = decide (a5 = c6)) ∧ BIf (!z7) (R (.d (bo false)) b) (∃ (a10 : List Int) (c11 : List Int) (z12 : Bool), [AV.d (Dv.sl 1 (digR (StT.pf s))), AV.d (Dv.sl 1 (digR (StT.pf c)))] = [AV.d (Dv.sl 1 (digR a10)), AV.d (Dv.sl 1 (digR c11))] ∧ (List.length a10 ≤ 9223372036854775807 ∧ z12 = decide (a10 = c11)) ∧ BIf (!z12) (R (.d (bo false)) b) (∃ (s13 : StT) (c14 : StT) (z15 : Bool), Code.loop lpSa = Code.loop lpSa ∧ [bad, bad, AV.ptr 0 0, AV.ptr 1 0, bad, AV.d (i64 0), bad, bad, bad, bad, bad, bad, bad, bad, bad, bad, bad, bad, bad, bad, bad, bad, bad, bad, bad, bad, bad, bad, bad, bad, bad, bad, bad, bad, bad, bad, bad, bad, bad, bad, bad, bad, bad, bad, bad, bad, bad, bad, bad, bad, bad, bad, bad, bad, bad, bad, bad, bad, bad, bad, bad, bad, bad, bad, bad, bad, bad, bad, bad, bad, bad, bad, bad, bad, bad, bad, bad, bad, bad, bad, bad, bad, bad, bad, bad, bad, bad] = [bad, bad, AV.ptr 0 0, AV.ptr 1 0, bad, AV.d (i64 0), bad, bad, bad, bad, bad, bad, bad, bad, bad, bad, bad, bad, bad, bad, bad, bad, bad, bad, bad, bad, bad, bad, bad, bad, bad, bad, bad, bad, bad, bad, bad, bad, bad, bad, bad, bad, bad, bad, bad, bad, bad, bad, bad, bad, bad, bad, bad, bad, bad, bad, bad, bad, bad, bad, bad, bad, bad, bad, bad, bad, bad, bad, bad, bad, bad, bad, bad, bad, bad, bad, bad, bad, bad, bad, bad, bad, bad, bad, bad, bad, bad] ∧ [stB s, stB c] = [stB s13, stB c14] ∧ ((List.length (StT.rows s13) = List.length (StT.rows c14) ∧ (List.length (StT.ps s13) ≤ 1000 ∧ ∀ (p : List Int), p ∈ StT.ps s13 → List.length p ≤ 1000000) ∧ (List.length (StT.qs s13) ≤ 1000 ∧ ∀ (q : List Int), q ∈ StT.qs s13 → List.length q ≤ 1000000) ∧ (List.length (StT.rows s13) ≤ 1000 ∧ ∀ (r : Row), r ∈ StT.rows s13 → List.length (Prod.snd r) ≤ 1000) ∧ List.length (StT.pf s13) ≤ 1000000) ∧ z15 = decide (StT.rows s13 = StT.rows c14)) ∧ BIf z15 (∀ (i : Int), R (.d (bo true)) b) (∀ (i : Int), R (.d (bo false)) b)))))))) := by kernel_rfl
end
def eqTr (a c : TrT) : Bool := a.iv == c.iv && (a.bg == c.bg && (a.fi == c.fi && (a.ct == c.ct && a.sd == c.sd)))
theorem BNv9 {a c : TrT} : eqTr a c = true ↔ a = c := by
 obtain ⟨a1, a2, a3, a4, a5⟩ := a
 obtain ⟨c1, c2, c3, c4, c5⟩ := c
 simp [eqTr]
def sameP (s c : StT) : Bool := eqN s.no c.no && (eqTr s.tr c.tr && (decide (s.ps = c.ps) && (decide (s.qs = c.qs) && (decide (s.pf = c.pf) && decide (s.rows = c.rows)))))
theorem BEc9 {s c : StT} : sameP s c = true ↔ s = c := by
 obtain ⟨a1, a2, a3, a4, a5, a6⟩ := s
 obtain ⟨c1, c2, c3, c4, c5, c6⟩ := c
 simp only [sameP, Bool.and_eq_true, BJb9, BNv9, decide_eq_true_eq, StT.mk.injEq]
 constructor
 · rintro ⟨h1, h2, h3, h4, h5, h6⟩; exact ⟨h1, h3, h4, h6, h5, h2⟩
 · rintro ⟨h1, h3, h4, h6, h5, h2⟩; exact ⟨h1, h2, h3, h4, h5, h6⟩
theorem pcSm (s c : StT) (hs : ABb9 s) : PCall Tryz.prog 19 [stV s, stV c] (.d (bo (sameP s c))) := by
 refine PCall.ofFnW (n := 100) (u := false) (fun _ => wlSa) mixed TSa_ok AAb9.nil (fun Ev => BPw9) Tryz.func19 (by rfl) (by rfl) fun Ev bb => ?_
 rw [BLp9, ABs9, ABs9]
 have he : (NotT.v (StT.no s) == NotT.v (StT.no c) && (NotT.n (StT.no s) == NotT.n (StT.no c) && (NotT.r (StT.no s) == NotT.r (StT.no c) && (NotT.t (StT.no s) == NotT.t (StT.no c) && true)))) = eqN s.no c.no := by simp only [eqN, Bool.and_true]
 have ht : (TrT.iv (StT.tr s) == TrT.iv (StT.tr c) && (TrT.bg (StT.tr s) == TrT.bg (StT.tr c) && (TrT.fi (StT.tr s) == TrT.fi (StT.tr c) && (TrT.ct (StT.tr s) == TrT.ct (StT.tr c) && (TrT.sd (StT.tr s) == TrT.sd (StT.tr c) && true))))) = eqTr s.tr c.tr := by simp only [eqTr, Bool.and_true]
 rw [he, ht]
 refine BIf.of (fun g => by rw [sameP, nbt g]; rfl) fun g1 => BIf.of (fun g => by rw [sameP, nbt g, Bool.false_and, Bool.and_false]) fun g2 => BIf.of (fun g => ?_) fun g3 => ⟨s.ps, c.ps, _, rfl, ⟨⟨by have := hs.1.1; omega, fun p hp => by have := hs.1.2 p hp; omega⟩, rfl⟩, BIf.of (fun g => by rw [sameP, nbt g]; simp) fun g4 => ⟨s.qs, c.qs, _, rfl, ⟨⟨by have := hs.2.1.1; omega, fun p hp => by have := hs.2.1.2 p hp; omega⟩, rfl⟩, BIf.of (fun g => by rw [sameP, nbt g]; simp) fun g5 => ⟨s.pf, c.pf, _, rfl, ⟨by have := hs.2.2.2; omega, rfl⟩, BIf.of (fun g => by rw [sameP, nbt g]; simp) fun g6 => ⟨s, c, _, rfl, rfl, rfl, ⟨⟨by simp at g3; omega, hs⟩, rfl⟩, ?_⟩⟩⟩⟩
 · rw [sameP, decide_eq_false (p := s.rows = c.rows) (fun h => by rw [h] at g; simp at g)]; simp
 · have e : sameP s c = decide (s.rows = c.rows) := by rw [sameP, nbf g1, nbf g2, nbf g4, nbf g5, nbf g6]; simp
   rw [e]
   exact BIf.of (fun h i => by rw [h]) fun h i => by rw [h]
def cSm (args : List AV) (K : AV → Prop) : Prop := ∃ (s c : StT) (z : Bool), args = [stV s, stV c] ∧ (ABb9 s ∧ z = sameP s c) ∧ K (.d (bo z))
theorem cSm_ok : ∀ args K, cSm args K → ∃ x, PCall Tryz.prog 19 args x ∧ K x := by
 rintro _ K ⟨s, c, _, rfl, ⟨hs, rfl⟩, h⟩; exact ⟨_, pcSm s c hs, h⟩
def fewT (s : StT) : Bool := fewSI s.sp
theorem BFx9 {s : StT} (h : fewT s = true) : ABb9 s := by
 simp only [fewT, fewSI, Bool.and_eq_true, Bool.not_eq_true', decide_eq_false_iff_not] at h
 obtain ⟨h1, h2, h3, h4, h5, h6, h7⟩ := h
 have h1 : ¬ (s.ps.length : Int) > 20 := h1
 have h2 : ¬ (s.qs.length : Int) > 20 := h2
 have h3 : ¬ ((rowsR s.rows).length : Int) > 40 := h3
 have h4 : ¬ (s.pf.length : Int) > 40 := h4
 rw [ABs9] at h3
 refine ⟨⟨by omega, fun p hp => ?_⟩, ⟨by omega, fun q hq => ?_⟩, ⟨by omega, fun r hr => ?_⟩, by omega⟩
 · have h5 : anyP s.ps = false := h5
   rw [anyP, List.any_eq_false] at h5
   obtain ⟨i, hi⟩ := List.mem_iff_getElem?.1 hp
   have hi' := (List.getElem?_eq_some_iff.1 hi).1
   have := h5 i (List.mem_range.2 hi')
   rw [nthL, List.getD_eq_getElem?_getD, hi] at this
   simp at this; omega
 · have h6 : anyQ s.qs = false := h6
   rw [anyQ, List.any_eq_false] at h6
   obtain ⟨i, hi⟩ := List.mem_iff_getElem?.1 hq
   have hi' := (List.getElem?_eq_some_iff.1 hi).1
   have := h6 i (List.mem_range.2 hi')
   rw [nthL, List.getD_eq_getElem?_getD, hi] at this
   simp at this; omega
 · have h7 : anyR (rowsR s.rows) = false := h7
   rw [anyR, List.any_eq_false] at h7
   obtain ⟨i, hi⟩ := List.mem_iff_getElem?.1 hr
   have hi' := (List.getElem?_eq_some_iff.1 hi).1
   have := h7 i (List.mem_range.2 (by rw [ABs9]; exact hi'))
   have e : nthR (rowsR s.rows) i = [i64 r.1, .sl 1 (AAd9 r.2)] := by simp [nthR, rowsR, rowD, hi]
   rw [e, BLw9, AAj9] at this
   simp at this; omega
theorem pcFewL (s : StT) (near : List (List Dv)) : PCall Tryz.prog 14 [stV s, .d (.sl 31 near)] (.d (bo (fewT s && decide ((near.length : Int) ≤ 100)))) := by
 refine PCall.ofFn (n := 100) (u := false) mixed (AAa9.cons cFew_ok AAa9.nil) AAb9.nil Tryz.func14 (by rfl) (by rfl) fun Ev bb => ?_
 rw [BTj9]
 refine ⟨s.sp, _, rfl, ⟨fun r hr => ?_, rfl⟩, ?_⟩
 · have hr : r ∈ rowsR s.rows := hr
   simp only [rowsR, List.mem_map] at hr
   obtain ⟨x, _, rfl⟩ := hr
   exact ⟨_, _, rfl⟩
 · show BIf (fewT s) _ _
   exact BIf.of (fun h => by rw [h]; rfl) fun h => by rw [h]; rfl
def cFewL (args : List AV) (K : AV → Prop) : Prop := ∃ (s : StT) (near : List (List Dv)) (z : Bool), args = [stV s, .d (.sl 31 near)] ∧ z = (fewT s && decide ((near.length : Int) ≤ 100)) ∧ K (.d (bo z))
theorem BOs9 : ∀ args K, cFewL args K → ∃ x, PCall Tryz.prog 14 args x ∧ K x := by
 rintro _ K ⟨s, n, _, rfl, rfl, h⟩; exact ⟨_, pcFewL s n, h⟩
section
variable {β : Type} (wl : WLT β) (y : AAg9 β) (b : β) (R : AV → β → Prop) (RS : AV → List Blk → β → Prop) (K : Exit → List AV → List Blk → β → Prop)
end
section
variable {β : Type} (wl : WLT β) (y : AAg9 β) (b : β) (R : AV → β → Prop) (RS : AV → List Blk → β → Prop) (K : Exit → List AV → List Blk → β → Prop)
end
noncomputable def lpPg : Code := sub [1, 1, 0, 1, 2, 3] (code Tryz.f45)
def prgF (i : Nat) : Int := IntKind.wrap .u8 (IntKind.wrap .i64 (1 + Int.tmod (IntKind.wrap .i64 ((i : Int) * 5)) 251))
def prgP (k : Nat) : List Int := (List.range k).map prgF ++ List.replicate (300 - k) 0
def prg : List Int := (List.range 300).map prgF
def tmPg (n i : Int) : List AV := [.bad, .bad, .bad, .gref 0 0 300 1, .bad, .bad, .bad, .bad, .d (i64 n), .d (i64 i)] ++ List.replicate 12 .bad
section
variable {β : Type} (wl : WLT β) (y : AAg9 β) (b : β) (R : AV → β → Prop) (RS : AV → List Blk → β → Prop) (K : Exit → List AV → List Blk → β → Prop)
theorem rPg (cs : List AV) (n i : Int) : wpc Tryz.prog ⟨[], GB5, wl, y, false⟩ 100 lpPg (tmPg n i) [blkG cs 0] b (maskT [3, 8, 9] K) = ( BIf (decide (i < n)) (0 = 0 ∧ BIf (decide ((0 : Int) ≤ i) && decide (i < (300 : Int))) (0 = 0 ∧ BIf (decide (Int.toNat i * 1 + 1 ≤ List.length cs)) (K .normal [bad, bad, bad, AV.gref 0 0 300 1, bad, bad, bad, bad, AV.d (i64 n), AV.d (i64 (IntKind.wrap .i64 (i + (1 : Int)))), bad, bad, bad, bad, bad, bad, bad, bad, bad, bad, bad, bad] [Blk.mk (List.take (Int.toNat i * 1) cs ++ [AV.d (u8 (IntKind.wrap .u8 (IntKind.wrap .i64 ((1 : Int) + Int.tmod (IntKind.wrap .i64 (i * (5 : Int))) (251 : Int)))))] ++ List.drop (Int.toNat i * 1 + 1) cs) false true 0] b) False) False) (K (Exit.exit 0) [bad, bad, bad, AV.gref 0 0 300 1, bad, bad, bad, bad, AV.d (i64 n), AV.d (i64 i), bad, bad, bad, bad, bad, bad, bad, bad, bad, bad, bad, bad] [Blk.mk cs false true 0] b)) := by kernel_rfl
end
theorem BEn9 {k : Nat} (hk : k < 300) : (flatA (AAd9 (prgP k))).take (k * 1) ++ [AV.d (u8 (prgF k))] ++ (flatA (AAd9 (prgP k))).drop (k * 1 + 1) = flatA (AAd9 (prgP (k + 1))) := by
 have e0 : ((List.range k).map prgF).length = k := by simp
 have e1 : prgP (k + 1) = (List.range k).map prgF ++ [prgF k] ++ List.replicate (300 - (k + 1)) 0 := by
   rw [prgP, List.range_succ, List.map_append]; rfl
 have e2 : List.replicate (300 - k) (0 : Int) = 0 :: List.replicate (300 - (k + 1)) 0 := by
   rw [show 300 - k = (300 - (k + 1)) + 1 by omega, List.replicate_succ]
 rw [ADi9, ADi9, e1, Nat.mul_one, prgP, e2]
 rw [← List.map_take, ← List.map_drop, List.take_left' e0, List.drop_append, List.drop_of_length_le (by omega), e0]
 simp
theorem BMb9 {k : Nat} (hk : k ≤ 300) : (prgP k).length = 300 := by simp [prgP]; omega
theorem wrPg {Ev : Env Tryz.prog} {b : Ev.β} {Q : Exit → St Ev.β → Prop} : ∀ (n k : Nat), 300 - k = n → k ≤ 300 →
   (∀ i : Int, Q (.exit 0) ⟨tmPg 300 i, [blkG (flatA (AAd9 prg)) 0], b⟩) → WR Ev lpPg (n + 1) ⟨tmPg 300 k, [blkG (flatA (AAd9 (prgP k))) 0], b⟩ Q
 | n, k, hn, hk, h => by
   refine WR.ofMaskT [3, 8, 9] mixed (CX.Ok.of (u := false) AAa9.nil BPn9) (k := 100) ?_
   rw [rPg]
   refine BIf.of (fun g => ?_) fun g => ?_
   · have hlt : k < 300 := by have := of_decide_eq_true g; omega
     refine ⟨rfl, BIf.t (by simp <;> omega) ⟨rfl, BIf.t (by rw [ADi9, List.length_map, BMb9 hk]; simp <;> omega) ?_⟩⟩
     rw [Int.toNat_natCast, show IntKind.wrap .u8 (IntKind.wrap .i64 (1 + Int.tmod (IntKind.wrap .i64 ((k : Int) * 5)) 251)) = prgF k from rfl, BEn9 hlt, ABj9 (n := 300) hlt (by omega)]
     cases n with
     | zero => omega
     | succ n => exact wrPg n (k + 1) (by omega) (by omega) h
   · have hk : k = 300 := by have := of_decide_eq_false g; omega
     subst hk
     have e : prgP 300 = prg := by rw [prgP, Nat.sub_self, List.replicate_zero, List.append_nil]; rfl
     rw [e]; exact h _
def wlPg {β : Type} : WLT β := fun c tm hp b K => c = .loop lpPg ∧ ABc9 [3, 8, 9] 0 tm = tmPg 300 0 ∧ hp = [blkG (flatA (List.replicate 300 [u8 0])) 0] ∧ ∃ z : List Int, z = prg ∧ ∀ k : Int, K (.exit 0) (tmPg 300 k) [blkG (flatA (AAd9 z)) 0] b
theorem BPy9 {Ev : Env Tryz.prog} (c : Code) (tm : List AV) (hp : List Blk) (b : Ev.β) (K : Exit → List AV → List Blk → Ev.β → Prop) (h : wlPg c tm hp b K) : W Ev c ⟨tm, hp, b⟩ (fun e s => K e s.tm s.hp s.b) := by
 obtain ⟨rfl, htm, rfl, z, rfl, hK⟩ := h
 refine W.cast (htm ▸ AAk9 _ tm 0) (LeH.refl _) ?_
 have e : List.replicate 300 [u8 0] = AAd9 (prgP 0) := by rw [prgP, List.range_zero, List.map_nil, List.nil_append, AAd9, List.map_replicate]
 rw [e]
 exact W.rounds (wrPg (Q := fun e s => K e s.tm s.hp s.b) 300 0 rfl (by omega) hK)
section
variable {β : Type} (wl : WLT β) (y : AAg9 β) (b : β) (R : AV → β → Prop) (RS : AV → List Blk → β → Prop) (K : Exit → List AV → List Blk → β → Prop)
theorem AZu9  : wpFn Tryz.prog ⟨[], GB5, wlPg, y, false⟩ 100 Tryz.f45 [.d (i64 300)] b R = ( 0 = 0 ∧ Code.loop lpPg = Code.loop lpPg ∧ [bad, bad, bad, AV.gref 0 0 300 1, bad, bad, bad, bad, AV.d (i64 300), AV.d (i64 0), bad, bad, bad, bad, bad, bad, bad, bad, bad, bad, bad, bad] = [bad, bad, bad, AV.gref 0 0 300 1, bad, bad, bad, bad, AV.d (i64 300), AV.d (i64 0), bad, bad, bad, bad, bad, bad, bad, bad, bad, bad, bad, bad] ∧ [Blk.mk (List.replicate 300 (AV.d (u8 0))) false true 0] = [Blk.mk (List.replicate 300 (AV.d (u8 0))) false true 0] ∧ ∃ (z0 : List Int), z0 = prg ∧ ∀ (k : Int), 0 = 0 ∧ ∃ (xs1 : List (List Dv)), flatA (AAd9 z0) = flatA xs1 ∧ List.length xs1 = 300 ∧ (∀ (r : List Dv), r ∈ xs1 → List.length r = 1) ∧ R (.d (Dv.sl 1 xs1)) b) := by kernel_rfl
end
theorem AHk9 : prg.length = 300 := by simp [prg]
theorem BEs9 : PCall Tryz.prog 45 [.d (i64 300)] (.d (.sl 1 (AAd9 prg))) := by
 refine PCall.ofFnW (n := 100) (u := false) (fun _ => wlPg) mixed AAa9.nil BPn9 (fun Ev => BPy9) Tryz.func45 (by rfl) (by rfl) fun Ev bb => ?_
 rw [AZu9]
 refine ⟨rfl, rfl, rfl, rfl, _, rfl, fun _ => ⟨rfl, AAd9 prg, rfl, by rw [AAj9, AHk9], BHh9, rfl⟩⟩
def BCg9 (args : List AV) (K : AV → Prop) : Prop := ∃ z : List Int, args = [.d (i64 300)] ∧ z = prg ∧ K (.d (.sl 1 (AAd9 z)))
theorem AWu9 : ∀ args K, BCg9 args K → ∃ x, PCall Tryz.prog 45 args x ∧ K x := by
 rintro _ K ⟨_, rfl, rfl, h⟩; exact ⟨_, BEs9, h⟩
set_option maxRecDepth 100000
set_option maxHeartbeats 0
def BJd9 (args : List AV) (K : AV → Prop) : Prop := ∃ (s : StT) (z : List Int) (e : Bool), args = [stV s] ∧ (ABb9 s ∧ (z, e) = ANk9 s.sp) ∧ K (.tup [.d (.sl 1 (AAd9 z)), .d (bo e)])
theorem BBu9 : ∀ args K, BJd9 args K → ∃ x, PCall Tryz.prog 30 args x ∧ K x := by
 rintro _ K ⟨s, z, e, rfl, ⟨hs, he⟩, h⟩
 exact BGt9 _ K ⟨s.sp, z, e, rfl, ⟨by have := hs.1.1; show s.ps.length ≤ _; omega, he⟩, h⟩
def THe : List (Nat × (List AV → (AV → Prop) → Prop)) := [(45, BCg9), (27, BJf9), (25, AVe9), (21, lessC BOi9), (34, cEncB), (15, lessC AOl9), (29, BJl9), (28, cFeed), (30, BJd9), (17, semC BJj9), (31, BHe9)]
theorem THe_ok : AAa9 Tryz.prog THe := AAa9.cons AWu9 (AAa9.cons BBx9 (AAa9.cons ASs9 (AAa9.cons (AOc9 AUy9) (AAa9.cons ASp9 (AAa9.cons (AOc9 ALd9) (AAa9.cons BCh9 (AAa9.cons BOt9 (AAa9.cons BBu9 (AAa9.cons (BRe9 BCb9) (AAa9.cons AOm9 AAa9.nil))))))))))
section
variable {β : Type} (wl : WLT β) (y : AAg9 β) (b : β) (R : AV → β → Prop)
theorem BLl9  : wpFn Tryz.prog ⟨THe, [], wl, y, false⟩ 200 Tryz.f13 [] b R = ( ∃ (z0 : List Int), [AV.d (i64 300)] = [AV.d (i64 300)] ∧ z0 = prg ∧ ∃ (p1 : List Int) (q2 : List (List Int)) (e3 : Int), [AV.d (Dv.sl 1 (AAd9 z0))] = [AV.d (Dv.sl 1 (AAd9 p1))] ∧ (List.length p1 ≤ 9223372036854775807 ∧ (q2, e3) = BDv9 p1) ∧ ∃ (v4 : Int) (t5 : Int) (p6 : List Int) (z7 : NotT) (e8 : Int), [AV.d (i64 2), AV.d (Dv.sl 1 (AAd9 z0)), AV.d (i64 100)] = [AV.d (i64 v4), AV.d (Dv.sl 1 (AAd9 p6)), AV.d (i64 t5)] ∧ (List.length p6 ≤ 9223372036854775807 ∧ (z7, e8) = annS v4 p6 t5) ∧ ∃ (args9 : List AV), LeVs [AV.agg [AV.d (i64 0), AV.d (i64 0), AV.d (u64 0), AV.d (i64 0), AV.d (Dv.s (.slice none 0 0)), AV.d (Dv.s (.slice none 0 0)), AV.d (Dv.s (.slice none 0 0)), AV.d (Dv.s (.slice none 0 0)), AV.d (i64 0), AV.d (i64 0), AV.d (i64 0), AV.d (i64 0), AV.d (i64 7)], noV z7, AV.d (i64 1), AV.d (i64 5)] args9 ∧ ∃ (s10 : StT) (n11 : NotT) (p12 : Int) (f13 : Int) (z14 : StT), args9 = [stV s10, noV n11, AV.d (i64 p12), AV.d (i64 f13)] ∧ ((ABb9 s10) ∧ z14 = hearS s10 n11 p12 f13) ∧ BIf (e3 != (0 : Int)) (R (.d (bo false)) b) (BIf (e8 != (0 : Int)) (R (.d (bo false)) b) (BIf (!(NotT.v (StT.no z14) == NotT.v z7 && (NotT.n (StT.no z14) == NotT.n z7 && (NotT.r (StT.no z14) == NotT.r z7 && (NotT.t (StT.no z14) == NotT.t z7 && true))))) (R (.d (bo false)) b) (BIf (TrT.iv (StT.tr z14) != (1 : Int)) (R (.d (bo false)) b) (BIf (TrT.sd (StT.tr z14) != (7 : Int)) (R (.d (bo false)) b) (∃ (xs15 : List (List Dv)), (AAe9 q2)[1]? = some [Dv.sl 1 xs15] ∧ ∃ (p18 : List Int) (n19 : Int) (s20 : Int) (d21 : List Int), [AV.d (Dv.sl 1 xs15), AV.d (i64 1), AV.d (i64 0)] = [AV.d (Dv.sl 1 (AAd9 p18)), AV.d (i64 n19), AV.d (i64 s20)] ∧ (encOk p18 n19 s20 = true ∧ d21 = encS p18 s20) ∧ ∃ (args22 : List AV), LeVs [stV z14, AV.agg [AV.d (i64 n19), AV.d (i64 s20), AV.d (Dv.sl 1 (AAd9 d21)), AV.d (Dv.s (.slice none 0 0))]] args22 ∧ ∃ (s23 : StT) (x24 : BlkT) (z25 : StT) (e26 : Int), args22 = [stV s23, bkV x24] ∧ (((ABb9 s23) ∧ List.length (BlkT.pf x24) ≤ 1000000) ∧ (z25, e26) = recvT s23 x24) ∧ ∃ (args27 : List AV), LeVs [AV.agg [AV.d (i64 0), AV.d (i64 0), AV.d (u64 0), AV.d (i64 0), AV.d (Dv.s (.slice none 0 0)), AV.d (Dv.s (.slice none 0 0)), AV.d (Dv.s (.slice none 0 0)), AV.d (Dv.s (.slice none 0 0)), AV.d (i64 0), AV.d (i64 0), AV.d (i64 0), AV.d (i64 0), AV.d (i64 0)], AV.agg [AV.d (i64 n19), AV.d (i64 s20), AV.d (Dv.sl 1 (AAd9 d21)), AV.d (Dv.s (.slice none 0 0))]] args27 ∧ ∃ (s28 : StT) (x29 : BlkT) (z30 : StT) (e31 : Int), args27 = [stV s28, bkV x29] ∧ (((ABb9 s28) ∧ List.length (BlkT.pf x29) ≤ 1000000) ∧ (z30, e31) = recvT s28 x29) ∧ ([] : List AV) = [] ∧ ∃ (z32 : List Int), z32 = ss0 ∧ ∃ (no33 : NotT) (ps34 : List (List Int)) (k35 : Nat) (t36 : TrT) (st37 : StT) (ss38 : List Int) (z39 : StT), [stV z14, AV.d (Dv.sl 1 (AAe9 q2)), AV.d (i64 0), AV.d (Dv.sl 1 (intsR z32))] = [stV st37, AV.d (Dv.sl 1 (AAe9 ps34)), AV.d (i64 (k35 : Int)), AV.d (Dv.sl 1 (intsR ss38))] ∧ ((Lays no33 ps34 ∧ k35 < List.length ps34 ∧ (∀ (x : Int), x ∈ nthL ps34 k35 → (0 : Int) ≤ x ∧ x < (256 : Int)) ∧ ABe9 t36 = true ∧ (∀ (s : Int), s ∈ ss38 → seedS s = true) ∧ List.length ss38 ≤ 1000 ∧ (st37 = laySt no33 ps34 (k35 + 1) [] [] t36 ∨ ∃ (l40 : List Row) (q41 : List Int), st37 = laySt no33 ps34 k35 l40 q41 t36 ∧ Tru (nthL ps34 k35) l40 ∧ List.length l40 < 16 ∧ (l40 ≠ [] → q41 = ABx9 ps34 k35) ∧ (l40 ≠ [] ∨ q41 = []))) ∧ z39 = feedT ps34 k35 st37 ss38) ∧ ([] : List AV) = [] ∧ ∃ (z42 : List Int), z42 = ss0 ∧ ∃ (no43 : NotT) (ps44 : List (List Int)) (k45 : Nat) (t46 : TrT) (st47 : StT) (ss48 : List Int) (z49 : StT), [stV z39, AV.d (Dv.sl 1 (AAe9 q2)), AV.d (i64 1), AV.d (Dv.sl 1 (intsR z42))] = [stV st47, AV.d (Dv.sl 1 (AAe9 ps44)), AV.d (i64 (k45 : Int)), AV.d (Dv.sl 1 (intsR ss48))] ∧ ((Lays no43 ps44 ∧ k45 < List.length ps44 ∧ (∀ (x : Int), x ∈ nthL ps44 k45 → (0 : Int) ≤ x ∧ x < (256 : Int)) ∧ ABe9 t46 = true ∧ (∀ (s : Int), s ∈ ss48 → seedS s = true) ∧ List.length ss48 ≤ 1000 ∧ (st47 = laySt no43 ps44 (k45 + 1) [] [] t46 ∨ ∃ (l50 : List Row) (q51 : List Int), st47 = laySt no43 ps44 k45 l50 q51 t46 ∧ Tru (nthL ps44 k45) l50 ∧ List.length l50 < 16 ∧ (l50 ≠ [] → q51 = ABx9 ps44 k45) ∧ (l50 ≠ [] ∨ q51 = []))) ∧ z49 = feedT ps44 k45 st47 ss48) ∧ ∃ (s52 : StT) (z53 : List Int) (e54 : Bool), [stV z49] = [stV s52] ∧ ((ABb9 s52) ∧ (z53, e54) = ANk9 (StT.sp s52)) ∧ ∃ (args55 : List AV), LeVs [stV z49, AV.agg [AV.d (i64 n19), AV.d (i64 s20), AV.d (Dv.sl 1 (AAd9 d21)), AV.d (Dv.s (.slice none 0 0))]] args55 ∧ ∃ (s56 : StT) (x57 : BlkT) (z58 : StT) (e59 : Int), args55 = [stV s56, bkV x57] ∧ (((ABb9 s56) ∧ List.length (BlkT.pf x57) ≤ 1000000) ∧ (z58, e59) = recvT s56 x57) ∧ ∃ (args60 : List AV), SemVs [stV z49, AV.full 31 [[i64 0, i64 0, i64 0, i64 0, i64 0, i64 0, i64 0, i64 0, i64 0, i64 0, i64 0, i64 0, Dv.s (.slice none 0 0), Dv.s (.slice none 0 0), Dv.s (.slice none 0 0), Dv.s (.slice none 0 0), bo false, Dv.s (.slice none 0 0), Dv.s (.slice none 0 0), Dv.s (.slice none 0 0), i64 (NotT.v z7), i64 (NotT.n z7), u64 (NotT.r z7), i64 (NotT.t z7), i64 1, i64 0, i64 0, i64 0, Dv.s (.slice none 0 0), Dv.s (.slice none 0 0), bo false]], AV.d (i64 5)] args60 ∧ ∃ (s61 : StT) (l62 : List NearT) (f63 : Int) (z64 : StT) (x65 : BlkT) (e66 : Bool), args60 = [stV s61, AV.d (Dv.sl 31 (nearR l62)), AV.d (i64 f63)] ∧ (((ABb9 s61) ∧ List.length l62 ≤ 1000000) ∧ (z64, x65, e66) = AEt9 s61 l62 f63) ∧ BIf (e26 == (6 : Int)) (BIf (e31 == (4 : Int)) (BIf (e59 == (10 : Int)) (BIf e54 (BIf (((List.length (AAe9 (StT.ps z39)) : Nat) : Int) == (1 : Int)) (∃ (a67 : List Int) (c68 : List Int) (z69 : Bool), [AV.d (Dv.sl 1 (AAd9 z53)), AV.d (Dv.sl 1 (AAd9 z0))] = [AV.d (Dv.sl 1 (AAd9 a67)), AV.d (Dv.sl 1 (AAd9 c68))] ∧ (List.length a67 ≤ 9223372036854775807 ∧ z69 = decide (a67 = c68)) ∧ BIf z69 (BIf e66 (BIf (BlkT.n x65 == (1 : Int)) (BIf (BlkT.s x65 == (327 : Int)) (R (.d (bo (((List.length (digR (BlkT.pf x65)) : Nat) : Int) == (1 : Int)))) b) (R (.d (bo false)) b)) (R (.d (bo false)) b)) (R (.d (bo false)) b)) (R (.d (bo false)) b)) (R (.d (bo false)) b)) (R (.d (bo false)) b)) (R (.d (bo false)) b)) (R (.d (bo false)) b)) (R (.d (bo false)) b))))))) := by kernel_rfl
end
set_option maxRecDepth 20000
set_option maxHeartbeats 2000000
def hps : List (List Int) := ACz9 prg
def hno : NotT := (annS 2 prg 100).1
def ht : TrT := AFo9 7 1 5
theorem hsz : ADa9 (prg.length : Int) = true := by rw [AHk9]; decide
theorem hann : AAm9 2 (prg.length : Int) 100 = true := by rw [AHk9]; decide
theorem hno_eq : annS 2 prg 100 = (hno, 0) := by rw [hno, (AOe9 hsz hann).1]
theorem hlays : Lays hno hps := by
 have := AOe9 (v := 2) (t := 100) hsz hann
 rw [hno, this.1]; exact this.2
theorem AEj9 : hps.length = 2 := by rw [hps, AJj9, AHk9]
theorem BRp9 : ∀ x ∈ prg, IsB x := by
 intro x hx
 obtain ⟨i, hi, rfl⟩ := List.mem_map.1 hx
 have hi := List.mem_range.1 hi
 have key : ∀ i, i < 300 → IsB (prgF i) := by unfold IsB; decide +kernel
 exact key i hi
theorem BFr9 {k : Nat} (hk : k < 2) : ANa9 (nthL hps k) := fun x hx => AVu9 BRp9 _ (ADg9 (by show k < hps.length; rw [AEj9]; exact hk)) x hx
theorem AIo9 : ABe9 ht = true := AWy9 (.inl rfl) (by decide) (by decide)
theorem ht_bel : AHc9 (1000003 * 7 + 5) (1 - 1 / 2) = 0 := by
 have := AHb9 (1000003 * 7 + 5) (n := 1 - 1 / 2) (by decide) (by decide)
 omega
theorem ht_fi : ht.fi = 5 := by
 show (5 : Int) + 1 / 2 + AHc9 (1000003 * 7 + 5) (1 - 1 / 2) = 5
 rw [ht_bel]; decide
theorem BTe9 : tickT ht 5 = (ht, true) := by
 have e : AHp9 ht 5 = ht := by rw [AHp9, if_neg (by decide)]
 rw [tickT, if_pos (by rw [AIo9]; decide), e, ht_fi]; rfl
def zst (sd : Int) : StT := ⟨⟨0, 0, 0, 0⟩, [], [], [], [], ⟨0, 0, 0, 0, sd⟩⟩
def hst : StT := laySt hno hps 0 [] [] ht
theorem AQh9 : hno.v = 2 ∧ hno.n = 300 ∧ hno.t = 100 := by
 rw [hno, (AOe9 hsz hann).1]
 exact ⟨rfl, by show (prg.length : Int) = 300; rw [AHk9]; rfl, rfl⟩
theorem hhear : hearS (zst 7) hno 1 5 = hst := by
 obtain ⟨f1, f2, f3⟩ := AQh9
 have h1 : AGm9 (zst 7) hno 1 5 = true := by
   rw [AGm9, show ACt9 (zst 7) = true by rw [ACt9, show AGn9 (zst 7) = true by decide]; rfl, hlays.ann, f2, show ACh9 5 = true by decide, show ABi9 300 = 2 by decide]
   simp
 have e : (newT 7 5).1 = ht := by rw [newT, if_pos (by decide)]; rfl
 rw [hearS, if_neg (by rw [h1]; decide), if_pos (by rw [f1]; decide)]
 show StT.mk hno [] [] [] [] (newT 7 5).1 = _
 rw [e]; rfl
theorem hfeed {k : Nat} (hk : k < 2) : feedT hps k (laySt hno hps k [] [] ht) ss0 = laySt hno hps (k + 1) [] [] ht := by
 have hk' : k < hps.length := by rw [AEj9]; exact hk
 have hf := BPf9 (p := nthL hps k) (ms := masks ss0) (BFr9 hk) (by decide +kernel) ASc9
 rcases AUm9 hlays hk' (BFr9 hk) AIo9 ss0 [] [] (by decide) (Tru.nil _) (by simp) (by simp) (.inr rfl) with h | ⟨q, h1, h2⟩
 · exact h.1
 · omega
theorem hbad (m : Int) (hm : seedS m = true) : badB (blkOf hps 1 m) = false := by
 obtain ⟨c1, c2⟩ := AGc9.1 hm
 have hd : (encS (nthL hps 1) m).length = 16 := by rw [AUq9 hm]; exact ACg9 _ _
 have e : badB (blkOf hps 1 m) = (decide ((1 : Int) < 0) || (decide ((1 : Int) ≥ 16) || (decide (m < 0) || (decide (m > 1000000000) || (((encS (nthL hps 1) m).length : Int) != 16))))) := rfl
 rw [e, hd, decide_eq_false (p := m < 0) (by omega), decide_eq_false (p := m > 1000000000) (by omega)]
 rfl
def hblk : BlkT := ⟨1, 0, encS (nthL hps 1) 0, []⟩
theorem hbad0 : badB hblk = false := by
 have := hbad 0 (by decide)
 exact this
theorem hlater : (recvT hst hblk).2 = 6 := by
 obtain ⟨a1, a2⟩ := AFj9 hlays (k := 0) (by omega) (l := []) (q := []) (Tru.nil []).good (by simp) (.inl rfl) (.inr rfl) AIo9
 have hf : fullP hst = false := by
   rw [hst, fullP, ABz9 (by omega), show (laySt hno hps 0 [] [] ht).no = hno from rfl, hlays.cnt, AEj9]; decide
 have hr : ABn9 hst hblk = 6 := by
   rw [ABn9, if_neg (by rw [hst, a2, hbad0]; decide), if_neg (by rw [hst, a1]; decide), if_neg (by rw [hf]; decide)]
   rfl
 rw [recvT, if_pos (by rw [hr]; decide), hr]
theorem hempty : (recvT (zst 0) hblk).2 = 4 := by
 have hv : ACt9 (zst 0) = true := by rw [ACt9, show AGn9 (zst 0) = true by decide]; rfl
 have hr : ABn9 (zst 0) hblk = 4 := by
   rw [ABn9, if_neg (by rw [hv, hbad0]; decide), if_pos (by decide)]
 rw [recvT, if_pos (by rw [hr]; decide), hr]
def hend : StT := laySt hno hps 2 [] [] ht
theorem BFo9 : AGn9 hend = false ∧ ACt9 hend = true := AFj9 hlays (k := 2) (by rw [AEj9]; omega) (l := []) (q := []) (Tru.nil []).good (by simp) (.inl rfl) (.inr rfl) AIo9
theorem hfull : (recvT hend hblk).2 = 10 := by
 have hf : fullP hend = true := by
   rw [hend, fullP, ABz9 (by rw [AEj9]; omega), show (laySt hno hps 2 [] [] ht).no = hno from rfl, hlays.cnt, AEj9]; decide
 have hr : ABn9 hend hblk = 10 := by
   rw [ABn9, if_neg (by rw [BFo9.2, hbad0]; decide), if_neg (by rw [BFo9.1]; decide), if_pos hf]
 rw [recvT, if_pos (by rw [hr]; decide), hr]
theorem hwhole : ANk9 hend.sp = (prg, true) := by
 have h1 : ABw9 hend.sp = true := AFk9 hlays (by rw [AEj9]; omega) [] [] ht
 have h2 : hend.sp.ps = hps := List.take_of_length_le (by rw [AEj9]; omega)
 have h3 : hend.sp.no.n = ((prg.length : Nat) : Int) := by rw [AHk9]; exact AQh9.2.1
 have h4 := BAw9 (p := prg) (n := prg.length) hsz rfl
 rw [List.drop_of_length_le (Nat.le_refl _), if_pos (by rfl), Nat.sub_self, List.replicate_zero, List.append_nil, List.take_of_length_le (Nat.le_refl _)] at h4
 rw [ANk9, if_pos h1, h2, h3, show joinS hps prg.length = joinS (ACz9 prg) prg.length from rfl, h4]; rfl
def hnear : NearT := ⟨0, 0, 0, 0, 0, 0, 0, 0, 0, 0, 0, 0, [], [], [], [], false, [], [], [], hno, 1, 0, 0, 0, [], [], false⟩
theorem BFq9 : (AEt9 hend [hnear] 5).2.2 = true ∧ (AEt9 hend [hnear] 5).2.1.n = 1 ∧ (AEt9 hend [hnear] 5).2.1.s = 327 ∧ (AEt9 hend [hnear] 5).2.1.pf.length = 1 := by
 have h1 : AGr9 hend 5 = true := by rw [AGr9, BFo9.1, BFo9.2]; decide
 have hl : lackP hend [hnear] = [1] := by
   rw [lackP, List.filter_cons, if_pos (show eqN hnear.no hend.no = true from BJb9.2 rfl)]; rfl
 have hp : hend.ps.length = 2 := ABz9 (by rw [AEj9]; omega) [] [] ht
 have hle : AHo9 [1] 2 = 1 := by decide
 have htk : tickT hend.tr 5 = (ht, true) := BTe9
 rw [AEt9, if_neg (by rw [h1]; decide), hl, hp, htk]
 rw [if_neg (by rw [show AHo9 [1] ((2 : Nat) : Int) = 1 from hle]; decide)]
 rw [show AHo9 [1] ((2 : Nat) : Int) = 1 from hle]
 refine ⟨rfl, rfl, rfl, ?_⟩
 have e : nthL hend.qs (1 : Int).toNat = ABx9 hps 1 := rfl
 show (nthL hend.qs (1 : Int).toNat).length = 1
 rw [e, ABx9, ACw9]
 generalize hm : hps.map leafS = now
 have hn : now.length = 2 := by rw [← hm, List.length_map, AEj9]
 rw [hn]
 have e2 : (nextL now).length = 1 := by
   match now, hn with
   | [a, c], _ => rfl
 rw [ACm9, if_pos (by omega), ACm9, if_neg (by omega), AEd9, if_pos (by rw [hn]; decide), AEd9, if_neg (by rw [e2]; decide), AEd9]
 rfl
set_option maxRecDepth 100000
set_option maxHeartbeats 4000000
theorem zstLe (sd : Int) : LeV (AV.agg [AV.d (i64 (0 : Int)), AV.d (i64 (0 : Int)), AV.d (u64 (0 : Int)), AV.d (i64 (0 : Int)), AV.d (Dv.s (Value.slice none 0 0)), AV.d (Dv.s (Value.slice none 0 0)), AV.d (Dv.s (Value.slice none 0 0)), AV.d (Dv.s (Value.slice none 0 0)), AV.d (i64 (0 : Int)), AV.d (i64 (0 : Int)), AV.d (i64 (0 : Int)), AV.d (i64 (0 : Int)), AV.d (i64 sd)]) (stV (zst sd)) :=
 LeV.aggs (.cons .rfl (.cons .rfl (.cons .rfl (.cons .rfl (.cons (.nil rfl) (.cons (.nil rfl) (.cons (.nil rfl) (.cons (.nil rfl) (LeVs.refl _)))))))))
theorem BOz9 (n s : Int) (d : List Int) : LeV (AV.agg [AV.d (i64 n), AV.d (i64 s), AV.d (Dv.sl 1 (AAd9 d)), AV.d (Dv.s (Value.slice none 0 0))]) (bkV ⟨n, s, d, []⟩) :=
 LeV.aggs (.cons .rfl (.cons .rfl (.cons .rfl (.cons (.nil rfl) .nil))))
theorem nearLe (n : NotT) (p : Int) : ALk9 [[i64 (0 : Int), i64 (0 : Int), i64 (0 : Int), i64 (0 : Int), i64 (0 : Int), i64 (0 : Int), i64 (0 : Int), i64 (0 : Int), i64 (0 : Int), i64 (0 : Int), i64 (0 : Int), i64 (0 : Int), Dv.s (Value.slice none 0 0), Dv.s (Value.slice none 0 0), Dv.s (Value.slice none 0 0), Dv.s (Value.slice none 0 0), bo false, Dv.s (Value.slice none 0 0), Dv.s (Value.slice none 0 0), Dv.s (Value.slice none 0 0), i64 (NotT.v n), i64 (NotT.n n), u64 (NotT.r n), i64 (NotT.t n), i64 p, i64 (0 : Int), i64 (0 : Int), i64 (0 : Int), Dv.s (Value.slice none 0 0), Dv.s (Value.slice none 0 0), bo false]]
   (nearR [⟨0, 0, 0, 0, 0, 0, 0, 0, 0, 0, 0, 0, [], [], [], [], false, [], [], [], n, p, 0, 0, 0, [], [], false⟩]) := by
 refine .cons ?_ .nil
 have r : ∀ {c : Dv} {xs ys : List Dv}, AFc9 xs ys → AFc9 (c :: xs) (c :: ys) := fun h => .cons .rfl h
 have z : ∀ {k : Nat} {xs ys : List Dv}, AFc9 xs ys → AFc9 (.s (.slice none 0 0) :: xs) (.sl k [] :: ys) := fun h => .cons .nil h
 exact r <| r <| r <| r <| r <| r <| r <| r <| r <| r <| r <| r <| z <| z <| z <| z <| r <| z <| z <| z <| r <| r <| r <| r <| r <| r <| r <| r <| z <| z <| r .nil
theorem BFp9 {k : Nat} (hk : k ≤ 2) : ABb9 (laySt hno hps k [] [] ht) := by
 by_cases h0 : k = 0
 · subst h0
   exact ⟨⟨by simp [laySt], by simp [laySt]⟩, ⟨by simp [laySt], by simp [laySt]⟩, ⟨by simp [laySt], by simp [laySt]⟩, by simp [laySt]⟩
 · obtain ⟨j, rfl⟩ : ∃ j, k = j + 1 := ⟨k - 1, by omega⟩
   exact Fed.small (k := j) hlays (by rw [AEj9]; omega) (.inl rfl)
theorem BPp9 (sd : Int) : ABb9 (zst sd) := ⟨⟨by simp [zst], by simp [zst]⟩, ⟨by simp [zst], by simp [zst]⟩, ⟨by simp [zst], by simp [zst]⟩, by simp [zst]⟩
theorem BRz9 : PCall Tryz.prog 13 [] (.d (bo true)) := by
 refine PCall.ofFn (n := 200) (u := false) mixed THe_ok AAb9.nil Tryz.func13 (by rfl) (by rfl) fun Ev bb => ?_
 rw [BLl9]
 have hk1 : (1 : Nat) < hps.length := by rw [AEj9]; omega
 have hk0 : (0 : Nat) < hps.length := by rw [AEj9]; omega
 have hq1 : (AAe9 hps)[1]? = some [Dv.sl 1 (AAd9 (nthL hps 1))] := by
   match hh : hps, AEj9 with
   | [a, c], _ => rfl
 have hl1 : (nthL hps 1).length = 256 := hlays.two _ (ADg9 hk1)
 have hs0 : ∀ s ∈ ss0, seedS s = true := by decide
 refine ⟨prg, rfl, rfl, prg, hps, 0, rfl, ⟨by rw [AHk9]; omega, by rw [BDv9, if_pos hsz]; rfl⟩, 2, 100, prg, hno, 0, rfl, ⟨by rw [AHk9]; omega, hno_eq.symm⟩, [stV (zst 7), noV hno, .d (i64 1), .d (i64 5)], .cons (zstLe 7) (LeVs.refl _), zst 7, hno, 1, 5, hst, rfl, ⟨BPp9 7, hhear.symm⟩,
   BIf.f (by decide) (BIf.f (by decide) (BIf.f ?_ (BIf.f (by decide) (BIf.f (by decide) ⟨_, hq1, nthL hps 1, 1, 0, encS (nthL hps 1) 0, rfl, ⟨by rw [encOk, hl1]; decide, rfl⟩, [stV hst, bkV hblk], .cons .rfl (.cons (BOz9 _ _ _) .nil), hst, hblk, _, 6, rfl, ⟨⟨BFp9 (by omega), by decide⟩, by rw [← hlater]⟩,
     [stV (zst 0), bkV hblk], .cons (zstLe 0) (.cons (BOz9 _ _ _) .nil), zst 0, hblk, _, 4, rfl, ⟨⟨BPp9 0, by decide⟩, by rw [← hempty]⟩, rfl, ss0, rfl,
     hno, hps, 0, ht, hst, ss0, laySt hno hps 1 [] [] ht, rfl, ⟨⟨hlays, hk0, BFr9 (by omega), AIo9, hs0, by decide, .inr ⟨[], [], rfl, Tru.nil _, by simp, by simp, .inr rfl⟩⟩, (hfeed (k := 0) (by omega)).symm⟩, rfl, ss0, rfl,
     hno, hps, 1, ht, laySt hno hps 1 [] [] ht, ss0, hend, rfl, ⟨⟨hlays, hk1, BFr9 (by omega), AIo9, hs0, by decide, .inr ⟨[], [], rfl, Tru.nil _, by simp, by simp, .inr rfl⟩⟩, (hfeed (k := 1) (by omega)).symm⟩,
     hend, prg, true, rfl, ⟨BFp9 (by omega), hwhole.symm⟩, [stV hend, bkV hblk], .cons .rfl (.cons (BOz9 _ _ _) .nil), hend, hblk, _, 10, rfl, ⟨⟨BFp9 (by omega), by decide⟩, by rw [← hfull]⟩,
     [stV hend, .d (.sl 31 (nearR [hnear])), .d (i64 5)], .cons .rfl (.cons (SemV.rows (nearLe hno 1)) (.cons .rfl .nil)), hend, [hnear], 5, (AEt9 hend [hnear] 5).1, (AEt9 hend [hnear] 5).2.1, true, rfl, ⟨⟨BFp9 (by omega), by decide⟩, by rw [← BFq9.1]⟩,
     BIf.t (by decide) (BIf.t (by decide) (BIf.t (by decide) (BIf.t rfl (BIf.t ?_ ⟨prg, prg, true, rfl, ⟨by rw [AHk9]; omega, by simp⟩, BIf.t rfl (BIf.t rfl (BIf.t ?_ (BIf.t ?_ ?_)))⟩))))⟩))))⟩
 · show (!(hno.v == hno.v && (hno.n == hno.n && (hno.r == hno.r && (hno.t == hno.t && true))))) = false
   simp
 · rw [AAh9, ABz9 (k := 1) (by omega)]; rfl
 · rw [BFq9.2.1]; rfl
 · rw [BFq9.2.2.1]; rfl
 · rw [AAw9, BFq9.2.2.2]; rfl
def cSHead (args : List AV) (K : AV → Prop) : Prop := args = [] ∧ K (.d (bo true))
theorem BGx9 : ∀ args K, cSHead args K → ∃ x, PCall Tryz.prog 13 args x ∧ K x := by
 rintro _ K ⟨rfl, h⟩; exact ⟨_, BRz9, h⟩
end Go.Proofs.YtibhflogmbfpcaaGreatDoor.Am
namespace Go.Proofs.YtibhflogmbfpcaaGreatDoor.Am
open Go Go.RowKit Go.Proofs Go.ChangeShapes Go.WideShapes Go.ChangeAt
open AV (bad)
set_option linter.unusedVariables false
set_option maxRecDepth 20000
theorem Try_own : ownKnob Tryz.prog.godebug = none := by kernel_rfl
theorem AXe9 : laidOutB Tryz.prog = true := by kernel_rfl
def laid5 : List (String × DataW Unit) := [("math/bits.deBruijn32tab", Rows.laid_math_bits_deBruijn32tab), ("math/bits.deBruijn64tab", Rows.laid_math_bits_deBruijn64tab), ("unicode/utf8.acceptRanges", Rows.laid_unicode_utf8_acceptRanges), ("slotmesh/random.steps", Rows.laid_slotmesh_random_steps), ("unicode/utf8.first", Rows.laid_unicode_utf8_first)]
theorem gn0 : Tryz.prog.globalNamed "math/bits.deBruijn32tab" = some 0 := by kernel_rfl
theorem gn1 : Tryz.prog.globalNamed "math/bits.deBruijn64tab" = some 1 := by kernel_rfl
theorem gn2 : Tryz.prog.globalNamed "slotmesh/random.steps" = some 2 := by kernel_rfl
theorem gn5 : Tryz.prog.globalNamed "unicode/utf8.acceptRanges" = some 5 := by kernel_rfl
theorem AUh9 {P : Program} {g n t : Nat} (h : (P.globals[g]?).map (·.type) = some t) (k : (((P.globals[g]?).map (·.type)).bind (flat P n)).isSome = true) : ∃ tys, flat P n t = some tys := by
 rw [h] at k; exact Option.isSome_iff_exists.1 k
theorem fl0 : (((Tryz.prog.globals[0]?).map (·.type)).bind (flat Tryz.prog 9)).isSome = true := by kernel_rfl
theorem fl1 : (((Tryz.prog.globals[1]?).map (·.type)).bind (flat Tryz.prog 9)).isSome = true := by kernel_rfl
theorem fl2 : (((Tryz.prog.globals[2]?).map (·.type)).bind (flat Tryz.prog 9)).isSome = true := by kernel_rfl
theorem fl5 : (((Tryz.prog.globals[5]?).map (·.type)).bind (flat Tryz.prog 9)).isSome = true := by kernel_rfl
theorem BNn9 {W : World} (h : laidMetH Tryz.prog laid5 W) : Glob (AllOf W) W := by
 rw [MakeChecks.laidMetH_plain _ _ _ (by kernel_rfl)] at h
 obtain ⟨ps, ⟨g0, t0, cs0, f0, p0, q0, hg0, ht0, hv0, hd0, ⟨g1, t1, cs1, f1, p1, q1, hg1, ht1, hv1, hd1, ⟨g5, t5, cs5, f5, p5, q5, hg5, ht5, hv5, hd5, ⟨g2, t2, cs2, f2, p2, q2, hg2, ht2, hv2, hd2, _⟩, _⟩, _⟩, _⟩, _, _⟩ := h
 obtain rfl := Option.some.inj (gn0.symm.trans hg0)
 obtain rfl := Option.some.inj (gn1.symm.trans hg1)
 obtain rfl := Option.some.inj (gn2.symm.trans hg2)
 obtain rfl := Option.some.inj (gn5.symm.trans hg5)
 have e0 := AUh9 ht0 fl0
 have e1 := AUh9 ht1 fl1
 have e2 := AUh9 ht2 fl2
 have e5 := AUh9 ht5 fl5
 obtain ⟨tys0, e0⟩ := e0
 obtain ⟨tys1, e1⟩ := e1
 obtain ⟨tys2, e2⟩ := e2
 obtain ⟨tys5, e5⟩ := e5
 have v0 := BDk9 gn0 hv0 hd0 e0 (k := 9) (vs := ABo9 0) (by kernel_rfl)
 have v1 := BDk9 gn1 hv1 hd1 e1 (k := 9) (vs := ABo9 1) (by kernel_rfl)
 have v2 := BDk9 gn2 hv2 hd2 e2 (k := 9) (vs := ABo9 2) (by kernel_rfl)
 have v5 := BDk9 gn5 hv5 hd5 e5 (k := 9) (vs := ABo9 5) (by kernel_rfl)
 have one : ∀ g, g < 6 → ∀ v ∈ ABo9 g, v.oneCell' = true := by
   have : (List.range 6).all (fun g => (ABo9 g).all fun v => v.oneCell') = true := by kernel_rfl
   intro g hg v hv
   exact List.all_eq_true.1 (List.all_eq_true.1 this g (List.mem_range.2 hg)) v hv
 refine BTg9 fun g hg j v hj => ?_
 match g, hg with
 | 0, _ => exact ⟨v0 j v hj, one 0 (by omega) v (List.mem_of_getElem? hj)⟩
 | 1, _ => exact ⟨v1 j v hj, one 1 (by omega) v (List.mem_of_getElem? hj)⟩
 | 2, _ => exact ⟨v2 j v hj, one 2 (by omega) v (List.mem_of_getElem? hj)⟩
 | 3, hg => exact absurd rfl hg
 | 4, hg => exact absurd rfl hg
 | 5, _ => exact ⟨v5 j v hj, one 5 (by omega) v (List.mem_of_getElem? hj)⟩
 | n + 6, hg => exact absurd rfl hg
def BBe9 (r : Row) : Prop := r.2.length ≤ maxLen ∧ (∀ x ∈ r.2, 0 ≤ x ∧ x < 256)
theorem BJc9 {x : Dv} (h : HasTy (.sl [.int .u64]) x) : ∃ p : List Int, x = .sl 1 (digR p) ∧ p.length ≤ maxLen ∧ True := by
 cases h with
 | sl _ xs hl h =>
   have key : ∀ (xs : List (List Dv)), (∀ row ∈ xs, AIr9 [.int .u64] row) → ∃ p : List Int, xs = digR p := by
     intro xs
     induction xs with
     | nil => exact fun _ => ⟨[], rfl⟩
     | cons row xs ih =>
       intro h
       obtain ⟨p, rfl⟩ := ih fun r hr => h r (List.mem_cons_of_mem _ hr)
       have h0 := h row (List.mem_cons_self ..)
       cases h0 with
       | cons h1 h2 => cases h2 with
         | nil => cases h1 with
           | int _ n hw => exact ⟨n :: p, rfl⟩
   obtain ⟨p, rfl⟩ := key xs h
   exact ⟨p, rfl, by simpa [digR] using hl, trivial⟩
theorem BMw9 {x : Dv} (h : HasTy (.sl [.sl [.int .u8]]) x) : ∃ ps : List (List Int), x = .sl 1 (AAe9 ps) ∧ ps.length ≤ maxLen ∧ True := by
 cases h with
 | sl _ xs hl h =>
   have key : ∀ (xs : List (List Dv)), (∀ row ∈ xs, AIr9 [.sl [.int .u8]] row) → ∃ p : List (List Int), xs = AAe9 p := by
     intro xs
     induction xs with
     | nil => exact fun _ => ⟨[], rfl⟩
     | cons row xs ih =>
       intro h
       obtain ⟨p, rfl⟩ := ih fun r hr => h r (List.mem_cons_of_mem _ hr)
       have h0 := h row (List.mem_cons_self ..)
       cases h0 with
       | cons h1 h2 => cases h2 with
         | nil =>
           obtain ⟨b, rfl, _⟩ := BCt9 h1
           exact ⟨b :: p, rfl⟩
   obtain ⟨p, rfl⟩ := key xs h
   exact ⟨p, rfl, by simpa [AAe9] using hl, trivial⟩
theorem BEm9 {x : Dv} (h : HasTy (.sl [.sl [.int .u64]]) x) : ∃ ps : List (List Int), x = .sl 1 (AAf9 ps) := by
 cases h with
 | sl _ xs hl h =>
   have key : ∀ (xs : List (List Dv)), (∀ row ∈ xs, AIr9 [.sl [.int .u64]] row) → ∃ p : List (List Int), xs = AAf9 p := by
     intro xs
     induction xs with
     | nil => exact fun _ => ⟨[], rfl⟩
     | cons row xs ih =>
       intro h
       obtain ⟨p, rfl⟩ := ih fun r hr => h r (List.mem_cons_of_mem _ hr)
       have h0 := h row (List.mem_cons_self ..)
       cases h0 with
       | cons h1 h2 => cases h2 with
         | nil =>
           obtain ⟨b, rfl, _⟩ := BJc9 h1
           exact ⟨b :: p, rfl⟩
   obtain ⟨p, rfl⟩ := key xs h
   exact ⟨p, rfl⟩
theorem BRj9 {x : Dv} (h : HasTy (.sl [.int .i64, .sl [.int .u8]]) x) : ∃ l : List Row, x = .sl 2 (rowsR l) ∧ l.length ≤ maxLen ∧ ∀ r ∈ l, BBe9 r := by
 cases h with
 | sl _ xs hl h =>
   have key : ∀ (xs : List (List Dv)), (∀ row ∈ xs, AIr9 [.int .i64, .sl [.int .u8]] row) → ∃ l : List Row, xs = rowsR l ∧ ∀ r ∈ l, BBe9 r := by
     intro xs
     induction xs with
     | nil => exact fun _ => ⟨[], rfl, fun a h => by cases h⟩
     | cons row xs ih =>
       intro h
       obtain ⟨l, rfl, hp⟩ := ih fun r hr => h r (List.mem_cons_of_mem _ hr)
       have h0 := h row (List.mem_cons_self ..)
       cases h0 with
       | cons h1 h2 => cases h2 with
         | cons h2 h3 => cases h3 with
           | nil => cases h1 with
             | int _ n hw =>
               obtain ⟨p, rfl, h4, h5⟩ := BCt9 h2
               refine ⟨(n, p) :: l, rfl, fun r hr => ?_⟩
               rcases List.mem_cons.1 hr with rfl | hr
               · exact ⟨h4, h5⟩
               · exact hp r hr
   obtain ⟨l, rfl, hp⟩ := key xs h
   exact ⟨l, rfl, by simpa [rowsR] using hl, hp⟩
def OkSt (s : StT) : Prop := ∀ r ∈ s.rows, BBe9 r
theorem BEh9 {row : List Dv} (h : AIr9 [.int .i64, .int .i64, .int .u64, .int .i64, .sl [.sl [.int .u8]], .sl [.sl [.int .u64]], .sl [.int .i64, .sl [.int .u8]], .sl [.int .u64], .int .i64, .int .i64, .int .i64, .int .i64, .int .i64] row) : ∃ s : StT, AV.agg (row.map .d) = stV s ∧ OkSt s := by
 obtain _ | ⟨h1, h⟩ := h
 obtain _ | ⟨h2, h⟩ := h
 obtain _ | ⟨h3, h⟩ := h
 obtain _ | ⟨h4, h⟩ := h
 obtain _ | ⟨h5, h⟩ := h
 obtain _ | ⟨h6, h⟩ := h
 obtain _ | ⟨h7, h⟩ := h
 obtain _ | ⟨h8, h⟩ := h
 obtain _ | ⟨h9, h⟩ := h
 obtain _ | ⟨ha, h⟩ := h
 obtain _ | ⟨hb, h⟩ := h
 obtain _ | ⟨hc, h⟩ := h
 obtain _ | ⟨hd, h⟩ := h
 cases h
 obtain ⟨ps, rfl, _⟩ := BMw9 h5
 obtain ⟨qs, rfl⟩ := BEm9 h6
 obtain ⟨rw, rfl, _, hrw⟩ := BRj9 h7
 obtain ⟨pf, rfl, _⟩ := BJc9 h8
 cases h1; cases h2; cases h3; cases h4; cases h9; cases ha; cases hb; cases hc; cases hd
 exact ⟨⟨⟨_, _, _, _⟩, ps, qs, rw, pf, ⟨_, _, _, _, _⟩⟩, rfl, hrw⟩
theorem AYq9 {row : List Dv} (h : AIr9 [.int .i64, .int .i64, .int .u64, .int .i64] row) : ∃ n : NotT, AV.agg (row.map .d) = noV n ∧ True := by
 obtain _ | ⟨h1, h⟩ := h
 obtain _ | ⟨h2, h⟩ := h
 obtain _ | ⟨h3, h⟩ := h
 obtain _ | ⟨h4, h⟩ := h
 cases h
 cases h1; cases h2; cases h3; cases h4
 exact ⟨⟨_, _, _, _⟩, rfl, trivial⟩
theorem flatSt : flat Tryz.prog 20 32 = some [.int .i64, .int .i64, .int .u64, .int .i64, .sl [.sl [.int .u8]], .sl [.sl [.int .u64]], .sl [.int .i64, .sl [.int .u8]], .sl [.int .u64], .int .i64, .int .i64, .int .i64, .int .i64, .int .i64] := by kernel_rfl
theorem flatNo : flat Tryz.prog 20 24 = some [.int .i64, .int .i64, .int .u64, .int .i64] := by kernel_rfl
end Go.Proofs.YtibhflogmbfpcaaGreatDoor.Am
namespace Go.Proofs.YtibhflogmbfpcaaGreatDoor.Am
open Go Go.RowKit Go.Proofs
open AV (bad)
set_option linter.unusedVariables false
set_option maxRecDepth 100000
set_option maxHeartbeats 0
def TL7 : List (Nat × (List AV → (AV → Prop) → Prop)) := [(13, cSHead), (14, lessC cFewL), (19, cSm), (21, BOi9)]
theorem TL7_ok : AAa9 Tryz.prog TL7 := AAa9.cons BGx9 (AAa9.cons (AOc9 BOs9) (AAa9.cons cSm_ok (AAa9.cons AUy9 AAa9.nil)))
section
variable {β : Type} (wl : WLT β) (y : AAg9 β) (b : β) (R : AV → β → Prop)
theorem f7_nf (s : StT) (n : NotT) (p f : Int) : wpFn Tryz.prog ⟨TL7, [], wl, y, false⟩ 200 Tryz.f7 [stV s, noV n, .d (i64 p), .d (i64 f)] b R = ( ([] : List AV) = [] ∧ ∃ (args0 : List AV), LeVs [stV s, AV.d (Dv.s (.slice none 0 0))] args0 ∧ ∃ (s1 : StT) (near2 : List (List Dv)) (z3 : Bool), args0 = [stV s1, AV.d (Dv.sl 31 near2)] ∧ z3 = (fewT s1 && decide (((List.length near2 : Nat) : Int) ≤ (100 : Int))) ∧ BIf (!z3) (R (.d (bo true)) b) (∃ (s4 : StT) (n5 : NotT) (p6 : Int) (f7 : Int) (z8 : StT), [stV s, noV n, AV.d (i64 p), AV.d (i64 f)] = [stV s4, noV n5, AV.d (i64 p6), AV.d (i64 f7)] ∧ ((ABb9 s4) ∧ z8 = hearS s4 n5 p6 f7) ∧ BIf (decide (NotT.v (StT.no z8) < NotT.v (StT.no s))) (R (.d (bo false)) b) (BIf (decide (NotT.v n > NotT.v (StT.no s))) (BIf (NotT.v (StT.no z8) == NotT.v n && (NotT.n (StT.no z8) == NotT.n n && (NotT.r (StT.no z8) == NotT.r n && (NotT.t (StT.no z8) == NotT.t n && true)))) (R (.d (bo true)) b) (R (.d (bo (NotT.v (StT.no z8) == NotT.v (StT.no s) && (NotT.n (StT.no z8) == NotT.n (StT.no s) && (NotT.r (StT.no z8) == NotT.r (StT.no s) && (NotT.t (StT.no z8) == NotT.t (StT.no s) && true)))))) b)) (∃ (s9 : StT) (c10 : StT) (z11 : Bool), [AV.agg [AV.d (i64 (NotT.v (StT.no z8))), AV.d (i64 (NotT.n (StT.no z8))), AV.d (u64 (NotT.r (StT.no z8))), AV.d (i64 (NotT.t (StT.no z8))), AV.d (Dv.sl 1 (AAe9 (StT.ps z8))), AV.d (Dv.sl 1 (AAf9 (StT.qs z8))), AV.d (Dv.sl 2 (rowsR (StT.rows z8))), AV.d (Dv.sl 1 (digR (StT.pf z8))), AV.d (i64 (TrT.iv (StT.tr s))), AV.d (i64 (TrT.bg (StT.tr s))), AV.d (i64 (TrT.fi (StT.tr s))), AV.d (i64 (TrT.ct (StT.tr s))), AV.d (i64 (TrT.sd (StT.tr s)))], stV s] = [stV s9, stV c10] ∧ ((ABb9 s9) ∧ z11 = sameP s9 c10) ∧ R (.d (bo z11)) b)))) := by kernel_rfl
end
set_option maxRecDepth 20000
set_option maxHeartbeats 2000000
theorem BBc9 {s : StT} (h : ABb9 s) (n : NotT) (p f : Int) : ABb9 (hearS s n p f) := by
 unfold hearS
 split
 · exact h
 split
 · exact ⟨⟨by simp, by simp⟩, ⟨by simp, by simp⟩, ⟨by simp, by simp⟩, by simp⟩
 split
 · exact h
 split
 · split
   · exact h
   · exact h
 · exact h
set_option maxRecDepth 100000
set_option maxHeartbeats 4000000
theorem BTi9 {s : StT} {l : List (List Dv)} (h : (!(fewT s && decide ((l.length : Int) ≤ 100))) = false) : fewT s = true ∧ l.length ≤ 100 := by
 have := nbf h
 simp only [Bool.and_eq_true, decide_eq_true_eq] at this
 exact ⟨this.1, by omega⟩
theorem BBd9 (s : StT) (n : NotT) (p f : Int) : (∃ t, hearS s n p f = ACn9 s t) ∨ (n.v > s.no.v ∧ (hearS s n p f).no = n) := by
 unfold hearS
 split
 · exact .inl ⟨s.tr, rfl⟩
 split
 · rename_i h; exact .inr ⟨h, rfl⟩
 split
 · exact .inl ⟨_, rfl⟩
 split
 · split
   · exact .inl ⟨_, rfl⟩
   · exact .inl ⟨_, rfl⟩
 · exact .inl ⟨s.tr, rfl⟩
theorem pcLaw7 (s : StT) (n : NotT) (p f : Int) : PCall Tryz.prog 7 [stV s, noV n, .d (i64 p), .d (i64 f)] (.d (bo true)) := by
 refine PCall.ofFn (n := 200) (u := false) mixed TL7_ok AAb9.nil Tryz.func7 (by rfl) (by rfl) fun Ev bb => ?_
 rw [f7_nf]
 refine ⟨rfl, [stV s, .d (.sl 31 [])], .cons .rfl (.cons (.nil rfl) .nil), s, [], _, rfl, rfl, BIf.of (fun _ => rfl) fun g1 => ?_⟩
 have hs := BFx9 (BTi9 g1).1
 have hsm := BBc9 hs n p f
 refine ⟨s, n, p, f, _, rfl, ⟨hs, rfl⟩, ?_⟩
 generalize hz : hearS s n p f = z at hsm
 have hself : ∀ a : NotT, (NotT.v a == NotT.v a && (NotT.n a == NotT.n a && (NotT.r a == NotT.r a && (NotT.t a == NotT.t a && true)))) = true := fun a => by simp
 rcases BBd9 s n p f with ⟨t, h⟩ | ⟨hgt, h⟩
 · rw [hz] at h
   subst h
   refine BIf.f (by show decide (s.no.v < s.no.v) = false; simp) (BIf.of (fun g => BIf.of (fun _ => rfl) fun _ => ?_) fun g => ⟨ACn9 (ACn9 s t) s.tr, s, true, rfl, ⟨hsm, (BEc9.2 rfl).symm⟩, rfl⟩)
   show (bo (NotT.v s.no == NotT.v s.no && (NotT.n s.no == NotT.n s.no && (NotT.r s.no == NotT.r s.no && (NotT.t s.no == NotT.t s.no && true)))) |> AV.d) = _
   rw [hself]
 · rw [hz] at h
   rw [h]
   exact BIf.f (by simp; omega) (BIf.t (by simp; omega) (BIf.t (hself n) rfl))
end Go.Proofs.YtibhflogmbfpcaaGreatDoor.Am
